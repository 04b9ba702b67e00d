/-
  The parser in memory; its small functions.
-/
import Derived.Test.YtfpmgpblhhcpgaaGreatDoorName
namespace Go.Proofs.YtfpmgpblhhcpgaaGreatDoor
set_option linter.unusedVariables false
set_option linter.unusedSimpArgs false
set_option maxRecDepth 100000
section
open Hc Hc.Lex Hc.Syn
variable {H : Heap}
abbrev TQan : TypeId := 59
abbrev TokR : RTy := .one (.agg [(.int .i64), .str, (.int .i64)])
abbrev tokA (t : Tk) : Value := .agg #[.int .i64 (t.kind : Nat), .string ⟨⟨t.text⟩⟩, .int .i64 (t.at' : Nat)]
abbrev tokD (t : Tk) : Int × ByteArray × Int := ((t.kind : Nat), ⟨⟨t.text⟩⟩, (t.at' : Nat))
theorem LdC_tok {a : Addr} {t : Tk} (h : hcells H a 0 (tokV t)) {k : Int × ByteArray × Int → Prop} (hk : k (tokD t)) : LdC [(.int .i64), .str, (.int .i64)] a H k := ⟨tokD t, h, hk⟩
structure TkOk (t : Tk) : Prop where
  at' : t.at' ≤ 8000
  len : t.text.length ≤ 8000
  num : t.kind = 2 → t.text ≠ [] ∧ t.text.all digitC = true ∧ decL 0 t.text ≤ 9223372036854775807
  word : t.kind = 1 → t.text.length ≤ 16 ∧ shapeB t.text = true
  kind : t.kind ≤ 3
structure TsOk (ts : List Tk) : Prop where
  ok : ∀ t ∈ ts, TkOk t
  ends : ∃ i l, ts = i ++ [l] ∧ l.kind = 0 ∧ ∀ t ∈ i, t.kind ≠ 0
  len : ts.length ≤ 9000
structure PR (H : Heap) (b tb : Nat) (s : PS) : Prop where
  row : ∃ sl, Row H b TQan [slV sl, .int .i64 s.deep, .int .i64 s.stmts] ∧ VecO H TQad 3 sl (tokVs s.toks) ∧ ∀ a, sl.a = some a → a.block = tb
  tab : TabH H
  b0 : b ≠ 0
  ts : TsOk s.toks
  dp : 0 ≤ s.deep ∧ s.deep ≤ 20
  st : 0 ≤ s.stmts ∧ s.stmts ≤ 200
theorem PR.lt {b tb : Nat} {s : PS} (h : PR H b tb s) : b < H.size := by obtain ⟨_, q, _⟩ := h.row; exact q.lt
theorem PR.upd {H' : Heap} {b tb : Nat} {s : PS} (h : PR H b tb s) {M : Nat → Prop} (hU : Upd M H H') (h0 : ¬ M 0) (h1 : ¬ M b) (h2 : ¬ M tb) : PR H' b tb s := by
  obtain ⟨sl, g1, g2, g3⟩ := h.row
  exact ⟨⟨sl, hU.row g1 h1, g2.upd hU fun a ha => by rw [g3 a ha]; exact h2, g3⟩, h.tab.nb hU h0, h.b0, h.ts, h.dp, h.st⟩
theorem PR.ext {H' : Heap} {b tb : Nat} {s : PS} (h : PR H b tb s) (hE : Ext H H') : PR H' b tb s := h.upd hE (fun h => h) (fun h => h) fun h => h
theorem TsOk.hd {ts : List Tk} (h : TsOk ts) : ∃ t r, ts = t :: r ∧ TkOk t ∧ (t.kind ≠ 0 → TsOk r) := by
  obtain ⟨i, l, e, h1, h2⟩ := h.ends
  have hl := h.len
  cases i with
  | nil => exact ⟨l, [], by simpa using e, h.ok l (by rw [e]; simp), fun g => absurd h1 g⟩
  | cons t i => exact ⟨t, i ++ [l], by simpa using e, h.ok t (by rw [e]; simp), fun _ => ⟨fun x hx => h.ok x (by rw [e]; simp only [List.cons_append, List.mem_cons]; exact .inr hx), ⟨i, l, rfl, h1, fun x hx => h2 x (by simp [hx])⟩, by rw [e] at hl; simp at hl ⊢; omega⟩⟩
theorem PR.hd {b tb : Nat} {s : PS} (h : PR H b tb s) : s.toks = s.hd :: s.take.toks ∧ TkOk s.hd ∧ (s.hd.kind ≠ 0 → TsOk s.take.toks) := by
  obtain ⟨t, r, e, h1, h2⟩ := h.ts.hd
  have e1 : s.hd = t := by unfold PS.hd; rw [e]; rfl
  have e2 : s.take.toks = r := by show s.toks.tail = r; rw [e]; rfl
  rw [e1, e2]; exact ⟨e, h1, h2⟩
theorem PR.rd {b tb : Nat} {s : PS} (h : PR H b tb s) : ∃ sl, hcell H ⟨b, 0, none⟩ = some (slV sl) ∧ ∀ {k : Addr → Prop}, (∀ a, hcells H a 0 (tokV s.hd) → k a) → IxA 3 sl 0 k := by
  obtain ⟨sl, h1, h2, _⟩ := h.row
  obtain ⟨e, _⟩ := h.hd
  refine ⟨sl, (h1.cell 0).trans rfl, fun {k} hk => ?_⟩
  rw [e] at h2
  have hv : tokVs (s.hd :: s.take.toks) = tokV s.hd ++ tokVs s.take.toks := rfl
  rw [hv] at h2
  have hl := h2.len
  obtain ⟨a, ha, _⟩ := h2.cell (j := 0) (by simp)
  refine IxA.mk ha (Int.le_refl _) (by rw [List.length_append, tokV_len] at hl; omega) ?_
  refine hk _ (hcells_iff.2 fun j hj => ?_)
  obtain ⟨a', ha', hc⟩ := h2.cell (j := j) (by rw [List.length_append]; omega)
  rw [ha] at ha'; cases ha'
  rw [show (0 : Int).toNat * 3 = 0 from rfl, Addr.add_zero', Nat.zero_add, hc, List.getElem?_append_left hj]
theorem tok_rd {a : Addr} {t : Tk} (h : hcells H a 0 (tokV t)) : hcell H a = some (.int .i64 (t.kind : Nat)) ∧ hcell H (a.add 1) = some (.string ⟨⟨t.text⟩⟩) ∧ hcell H (a.add 2) = some (.int .i64 (t.at' : Nat)) := by
  have := hcells_iff.1 h
  exact ⟨by have := this 0 (by simp); rw [Nat.add_zero, Addr.add_zero'] at this; exact this.trans rfl, by have := this 1 (by simp); simpa using this, by have := this 2 (by simp); simpa using this⟩
theorem tok_new {v : Int × ByteArray × Int} {t : Tk} (hv : v = tokD t) {K : Nat → Heap → Prop} (hK : ∀ b H', b = H.size → Ext H H' → Row H' b TQad (tokV t) → K b H') :
    Nw #[.int .i64 0, .string ByteArray.empty, .int .i64 0] TQad H fun b1 H1 => St ⟨b1, 0, none⟩ (.int .i64 v.1) H1 fun H2 => St ⟨b1, 1, none⟩ (.string v.2.1) H2 fun H3 => St ⟨b1, 2, none⟩ (.int .i64 v.2.2) H3 fun H4 => K b1 H4 := by
  subst hv
  refine Nw_row (vs := [.int .i64 0, .string ByteArray.empty, .int .i64 0]) fun b1 H1 hb1 hE1 _ hr1 => ?_
  refine St_row hr1 (by simp) fun H2 hU2 _ hr2 => St_row hr2 (by simp) fun H3 hU3 _ hr3 => St_row hr3 (by simp) fun H4 hU4 _ hr4 => ?_
  exact hK b1 H4 hb1 (extUpd hE1 (by omega) ((hU2.trans hU3 fun _ _ e => e).trans hU4 fun _ _ e => e)) hr4
theorem s_next {b tb : Nat} {s : PS} (h : PR H b tb s) {w : Txt} {k : Bool → Heap → Prop} (hk : ∀ H', Ext H H' → k (nextB w s) H') : CallT Pg fQab [.pointer (some (adr b)), .string ⟨⟨w⟩⟩] (.one (.c .bool)) H k := by
  refine cQab _ _ ?_
  unfold vQab
  simp only [adr_add, NilCk_some]
  obtain ⟨sl, h1, h2⟩ := h.rd
  refine Ld_sl h1 (h2 fun a ha => LdC_tok ha (tok_new rfl fun b1 H4 _ hE4 hr4 => ?_))
  refine Jn.mk (fun j H' => H4 = H' ∧ j = nextB w s) (fun kk hkk => ?_) (by rintro j _ ⟨rfl, rfl⟩; exact hk _ hE4)
  refine Ld_str ((hr4.cell 1).trans rfl) ?_
  have ek : ∀ n : Nat, ((s.hd.kind : Nat) : Int) = n ↔ s.hd.kind = n := fun n => by omega
  rw [beq_bs]
  refine Br_dec (fun e => Ld_int ((hr4.cell 0).trans rfl) (Br.mk (fun e1 => hkk _ _ ⟨rfl, ?_⟩) fun e1 => Ld_int ((hr4.cell 0).trans rfl) (hkk _ _ ⟨rfl, ?_⟩))) fun e => hkk _ _ ⟨rfl, ?_⟩
  · have e : s.hd.text = w := e
    have := (ek 1).1 (beqI e1)
    unfold nextB; rw [e, this]; simp
  · have e : s.hd.text = w := e
    have e1 := bneI e1
    unfold nextB
    rw [e, beq_self_eq_true, Bool.true_and]
    have h1 : (s.hd.kind == 1) = false := beq_eq_false_iff_ne.2 fun g => e1 ((ek 1).2 g)
    rw [h1, Bool.false_or, Bool.eq_iff_iff, beq_iff_eq, beq_iff_eq]
    exact ek 3
  · have e : ¬ s.hd.text = w := e
    unfold nextB
    rw [beq_eq_false_iff_ne.2 e]; rfl
theorem PR.tlt {b tb : Nat} {s : PS} (h : PR H b tb s) : tb < H.size ∧ b ≠ tb := by
  obtain ⟨sl, h1, h2, h3⟩ := h.row
  obtain ⟨e, _⟩ := h.hd
  rw [e] at h2
  obtain ⟨a, ha, hc⟩ := h2.cell (j := 0) (by simp [tokVs])
  have e1 := h3 a ha
  refine ⟨?_, fun e2 => h2.ne ha h1 (by decide) (e1.trans e2.symm)⟩
  rcases h2.own with ⟨y1, _⟩ | ⟨c, pre, sp, y1, y2, _⟩
  · rw [y1] at ha; cases ha
  · rw [y1] at ha; cases ha; rw [← e1]; exact y2.lt
theorem PR.young {H' : Heap} {b tb b1 : Nat} {s : PS} (h : PR H b tb s) (hU : Upd (· = b1) H H') (h1 : b < b1) (h2 : tb < b1) : PR H' b tb s := h.upd hU (by omega) (by omega) (by omega)
theorem PR.poke {b tb : Nat} {s : PS} (h : PR H b tb s) {i : Nat} {v : Value} {s' : PS} (ht : s'.toks = s.toks) (hv : ∀ sl : Sl, [slV sl, .int .i64 s.deep, .int .i64 s.stmts].set i v = [slV sl, .int .i64 s'.deep, .int .i64 s'.stmts]) (hi : i < 3) (hd : 0 ≤ s'.deep ∧ s'.deep ≤ 20) (hs : 0 ≤ s'.stmts ∧ s'.stmts ≤ 200)
    {k : Heap → Prop} (hk : ∀ H', Upd (· = b) H H' → PR H' b tb s' → k H') : St ⟨b, i, none⟩ v H k := by
  obtain ⟨sl, h1, h2, h3⟩ := h.row
  have hbt := h.tlt.2
  refine St_row h1 (by simpa using hi) fun H1 hU _ hr => hk H1 hU ?_
  rw [hv] at hr
  refine ⟨⟨sl, hr, ?_, h3⟩, h.tab.nb hU fun e => h.b0 e.symm, h.b0, by rw [ht]; exact h.ts, hd, hs⟩
  rw [ht]
  exact h2.upd hU fun a ha e => hbt (by rw [← h3 a ha]; exact e.symm)
theorem s_take {b tb : Nat} {s : PS} (h : PR H b tb s) (h0 : s.hd.kind ≠ 0) {k : Int × ByteArray × Int → Heap → Prop} (hk : ∀ H', Upd (· = b) H H' → PR H' b tb s.take → k (tokD s.hd) H') : CallT Pg fQag [.pointer (some (adr b))] TokR H k := by
  refine cQac _ ?_
  unfold vQac
  simp only [adr_add, NilCk_some]
  refine Nw_row (vs := [.int .i64 0, .string ByteArray.empty, .int .i64 0]) fun b1 H1 hb1 hE1 _ hr1 => ?_
  have h1 := h.ext hE1
  obtain ⟨sl, g1, g2⟩ := h1.rd
  refine Ld_sl g1 (g2 fun a ha => LdC_tok ha (tok_new rfl fun b2 H5 hb2 hE5 hr5 => ?_))
  have h5 := h1.ext hE5
  have r1 := hE5.row hr1 fun h => h
  obtain ⟨e, _, hok⟩ := h5.hd
  have htl := h.tlt
  obtain ⟨sl5, k1, k2, k3⟩ := h5.row
  rw [e] at k2
  have hs1 := hE1.size
  have hs5 := hE5.size
  have hlb := h.lt
  refine Ld_sl ((k1.cell 0).trans rfl) (SlA_pop (v := tokV s.hd) (ws := tokVs s.take.toks) k2 rfl (by decide) fun s' g3 g4 g5 => ?_)
  refine St_row k1 (by simp) fun H6 hU6 _ hr6 => ?_
  have k4 : ∀ a, s'.a = some a → a.block = tb := fun a' ha' => by
    obtain ⟨a0, q1, q2⟩ := g4 a' ha'
    exact q2.symm.trans (k3 a0 q1)
  have p6 : PR H6 b tb s.take := ⟨⟨s', hr6, g3.upd hU6 fun a' ha' e' => htl.2 (by rw [← k4 a' ha']; exact e'.symm), k4⟩, h5.tab.nb hU6 fun e => h.b0 e.symm, h.b0, hok h0, h.dp, h.st⟩
  have q2 := hU6.row hr5 (by omega)
  have q1 := hU6.row r1 (by omega)
  refine LdC_tok q2.rd_all ?_
  refine St_row q1 (by simp) fun H7 hU7 _ hr7 => St_row hr7 (by simp) fun H8 hU8 _ hr8 => St_row hr8 (by simp) fun H9 hU9 _ hr9 => ?_
  have hr9 : Row H9 b1 TQad (tokV s.hd) := hr9
  have hU79 := (hU7.trans hU8 fun _ _ e => e).trans hU9 fun _ _ e => e
  exact LdC_tok hr9.rd_all (hk H9 ((((hE1.trans hE5 fun _ _ h => h).mono fun _ _ h => h.elim).trans hU6 fun _ _ e => e).trans hU79 fun c hc e => by omega) (p6.young hU79 (by omega) (by omega)))
structure EP (b : Nat) (H : Heap) {α : Type} (res : R α) (kp : Value → Heap → Prop) : Prop where
  ne : res ≠ none
  er : ∀ g H' p e, res = some (.error (p, e)) → Upd (· = b) H H' → Row H' g TQac [.int .i64 p, .int .i64 e] → H.size ≤ g → kp (.iface TQaa (.pointer (some (adr g)))) H'
theorem EP.bad {b : Nat} {α β : Type} {A : R α} {F : α → PS → R β} {kp : Value → Heap → Prop} (h : EP b H (A.bind F) kp) : EP b H A kp :=
  ⟨fun e => h.ne (by rw [e]; rfl), fun g H' p e hA => h.er g H' p e (by rw [hA]; rfl)⟩
theorem EP.next {b : Nat} {α β : Type} {A : R α} {F : α → PS → R β} {kp : Value → Heap → Prop} (h : EP b H (A.bind F) kp) {a : α} {s : PS} (ha : A = some (.ok (a, s))) {H1 : Heap} (hU : Upd (· = b) H H1) : EP b H1 (F a s) kp := by
  rw [ha] at h
  exact ⟨h.ne, fun g H' p e hA hU' hr hg => h.er g H' p e hA (hU.trans hU' fun _ _ e => e) hr (Nat.le_trans hU.size hg)⟩
theorem EP.mv {b : Nat} {α : Type} {A : R α} {kp : Value → Heap → Prop} (h : EP b H A kp) {H1 : Heap} (hU : Upd (· = b) H H1) : EP b H1 A kp :=
  ⟨h.ne, fun g H' p e hA hU' hr hg => h.er g H' p e hA (hU.trans hU' fun _ _ e => e) hr (Nat.le_trans hU.size hg)⟩
theorem EP.to {b : Nat} {α : Type} {A A' : R α} {kp : Value → Heap → Prop} (h : EP b H A kp) (e : A = A') : EP b H A' kp := e ▸ h
abbrev ExU {b : Nat} {H1 : Heap} (h : Ext H H1) : Upd (· = b) H H1 := h.mono fun _ _ h => h.elim
def Wk {α : Type} (f : FuncId) (args : List Value) (r : RTy) (b tb : Nat) (H : Heap) (res : R α) (Rel : α → r.den → Heap → Prop) : Prop :=
  ∀ (kp : Value → Heap → Prop) (k : r.den → Heap → Prop), EP b H res kp → (∀ d H' a s', res = some (.ok (a, s')) → Upd (· = b) H H' → PR H' b tb s' → Rel a d H' → k d H') → CallE Pg f args r H kp k
theorem Wk.step {α β : Type} {f : FuncId} {args : List Value} {r : RTy} {b tb : Nat} {A : R α} {Rel : α → r.den → Heap → Prop} (w : Wk f args r b tb H A Rel) {F : α → PS → R β} {kp : Value → Heap → Prop} (he : EP b H (A.bind F) kp) {k : r.den → Heap → Prop}
    (hk : ∀ d H' a s', A = some (.ok (a, s')) → Upd (· = b) H H' → PR H' b tb s' → Rel a d H' → EP b H' (F a s') kp → k d H') : CallE Pg f args r H kp k :=
  w kp k he.bad fun d H' a s' ha hU hR hrel => hk d H' a s' ha hU hR hrel (he.next ha hU)
theorem s_wrong {b tb : Nat} {s : PS} (h : PR H b tb s) {e : Int} {α : Type} {kp : Value → Heap → Prop} (he : EP b H (failP (α := α) e s) kp) {k : Unit → Heap → Prop} : CallE Pg fQaf [.pointer (some (adr b)), .int .i64 e] (.tup []) H kp k := by
  refine cQaa _ _ ?_
  unfold vQaa
  simp only [NilCk_some]
  obtain ⟨sl, h1, h2⟩ := h.rd
  refine Ld_sl h1 (h2 fun a ha => Ld_int (tok_rd ha).2.2 ?_)
  exact Nw_row (vs := [.int .i64 (s.hd.at' : Nat), .int .i64 e]) fun b1 H1 hb1 hE1 _ hr1 => he.er _ _ _ _ rfl (ExU hE1) hr1 (by omega)
theorem next_kind {w : Txt} {s : PS} (h : nextB w s = true) : s.hd.kind ≠ 0 := by
  unfold nextB at h
  simp only [Bool.and_eq_true, Bool.or_eq_true, beq_iff_eq] at h
  omega
theorem named_kind {s : PS} (h : namedB s = true) : s.hd.kind ≠ 0 := by
  unfold namedB at h
  simp only [Bool.and_eq_true, beq_iff_eq] at h
  omega
theorem tok_fin {b1 : Nat} {v : Int × ByteArray × Int} {t : Tk} (hv : v = tokD t) (hr : Row H b1 TQad [.int .i64 0, .string ByteArray.empty, .int .i64 0]) {k : Int × ByteArray × Int → Heap → Prop} (hk : ∀ H', Upd (· = b1) H H' → k (tokD t) H') :
    St ⟨b1, 0, none⟩ (.int .i64 v.1) H fun H6 => St ⟨b1, 1, none⟩ (.string v.2.1) H6 fun H7 => St ⟨b1, 2, none⟩ (.int .i64 v.2.2) H7 fun H8 => LdC [(.int .i64), .str, (.int .i64)] (adr b1) H8 fun c1 => k (c1.1, c1.2.1, c1.2.2) H8 := by
  subst hv
  refine St_row hr (by simp) fun H2 hU2 _ hr2 => St_row hr2 (by simp) fun H3 hU3 _ hr3 => St_row hr3 (by simp) fun H4 hU4 _ hr4 => ?_
  have hr4 : Row H4 b1 TQad (tokV t) := hr4
  exact LdC_tok hr4.rd_all (hk H4 ((hU2.trans hU3 fun _ _ e => e).trans hU4 fun _ _ e => e))
theorem w_must {b tb : Nat} {s : PS} (h : PR H b tb s) (w : Txt) : Wk fQam [.pointer (some (adr b)), .string ⟨⟨w⟩⟩] TokR b tb H (mustP w s) fun t d _ => d = tokD t := by
  intro kp k he hk
  refine cQad _ _ ?_
  unfold vQad
  simp only [adr_add]
  refine Nw_row (vs := [.int .i64 0, .string ByteArray.empty, .int .i64 0]) fun b1 H1 hb1 hE1 _ hr1 => s_next (h.ext hE1) fun H2 hE2 => ?_
  have hE12 := hE1.trans hE2 fun _ _ h => h
  have htl := h.tlt
  have hlb := h.lt
  unfold mustP at he hk
  refine Jn.mk (fun _ H' => H2 = H' ∧ nextB w s = true) (fun kk hkk => ?_) ?_
  · cases hn : nextB w s with
    | false => rw [hn] at he; exact s_wrong (h.ext hE12) (he.mv (ExU hE12))
    | true => exact hkk _ _ ⟨rfl, hn⟩
  rintro _ _ ⟨rfl, hn⟩
  rw [hn] at hk
  refine s_take (h.ext hE12) (next_kind hn) fun H3 hU3 h3 => tok_fin rfl (hU3.row (hE2.row hr1 fun h => h) (by omega)) fun H4 hU4 => ?_
  exact hk _ H4 s.hd s.take rfl (((ExU hE12).trans hU3 fun _ _ e => e).trans hU4 fun c hc e => by omega) (h3.young hU4 (by omega) (by omega)) rfl
theorem s_may {b tb : Nat} {s : PS} (h : PR H b tb s) (w : Txt) {k : Bool → Heap → Prop} (hk : ∀ H', Upd (· = b) H H' → PR H' b tb (if nextB w s then s.take else s) → k (nextB w s) H') : CallT Pg fQaq [.pointer (some (adr b)), .string ⟨⟨w⟩⟩] (.one (.c .bool)) H k := by
  refine cQae _ _ ?_
  unfold vQae
  refine s_next h fun H1 hE1 => Br.mk (fun hn => ?_) fun hn => ?_
  · rw [hn] at hk
    exact s_take (h.ext hE1) (next_kind hn) fun H2 hU2 h2 => hk H2 ((ExU hE1).trans hU2 fun _ _ e => e) h2
  · rw [hn] at hk
    exact hk H1 (ExU hE1) (h.ext hE1)
theorem s_named {b tb : Nat} {s : PS} (h : PR H b tb s) {k : Bool → Heap → Prop} (hk : ∀ H', Ext H H' → k (namedB s) H') : CallT Pg fQap [.pointer (some (adr b))] (.one (.c .bool)) H k := by
  refine cQaf _ ?_
  unfold vQaf
  simp only [NilCk_some]
  obtain ⟨sl, h1, h2⟩ := h.rd
  have hok := h.hd.2.1
  refine Jn.mk (fun j H' => Ext H H' ∧ j = namedB s) (fun kk hkk => ?_) (by rintro j H' ⟨hE, rfl⟩; exact hk _ hE)
  refine Ld_sl h1 (h2 fun a ha => Ld_int (tok_rd ha).1 (Br.mk (fun e1 => Ld_sl h1 (h2 fun a ha => Ld_str (tok_rd ha).2.1 (s_isName h.tab (by have := hok.len; omega) fun H2 hE2 => hkk _ _ ⟨hE2, ?_⟩))) fun e1 => hkk _ _ ⟨.refl _ _, ?_⟩))
  · have e1 := beqI e1
    unfold namedB
    rw [show (s.hd.kind == 1) = true by rw [beq_iff_eq]; omega, Bool.true_and]
  · have e1 := bneI e1
    unfold namedB
    rw [show (s.hd.kind == 1) = false by rw [beq_eq_false_iff_ne]; omega, Bool.false_and]
theorem w_name {b tb : Nat} {s : PS} (h : PR H b tb s) : Wk fQai [.pointer (some (adr b))] TokR b tb H (nameP s) fun t d _ => d = tokD t := by
  intro kp k he hk
  refine cQag _ ?_
  unfold vQag
  simp only [adr_add]
  refine Nw_row (vs := [.int .i64 0, .string ByteArray.empty, .int .i64 0]) fun b1 H1 hb1 hE1 _ hr1 => s_named (h.ext hE1) fun H2 hE2 => ?_
  have hE12 := hE1.trans hE2 fun _ _ h => h
  have htl := h.tlt
  have hlb := h.lt
  unfold nameP at he hk
  refine Jn.mk (fun _ H' => H2 = H' ∧ namedB s = true) (fun kk hkk => ?_) ?_
  · cases hn : namedB s with
    | false => rw [hn] at he; exact s_wrong (h.ext hE12) (he.mv (ExU hE12))
    | true => exact hkk _ _ ⟨rfl, hn⟩
  rintro _ _ ⟨rfl, hn⟩
  rw [hn] at hk
  refine s_take (h.ext hE12) (named_kind hn) fun H3 hU3 h3 => tok_fin rfl (hU3.row (hE2.row hr1 fun h => h) (by omega)) fun H4 hU4 => ?_
  exact hk _ H4 s.hd s.take rfl (((ExU hE12).trans hU3 fun _ _ e => e).trans hU4 fun c hc e => by omega) (h3.young hU4 (by omega) (by omega)) rfl
theorem w_down {b tb : Nat} {s : PS} (h : PR H b tb s) (w : Txt) : Wk fQar [.pointer (some (adr b)), .string ⟨⟨w⟩⟩] TokR b tb H (downP w s) fun t d _ => d = tokD t := by
  intro kp k he hk
  refine cQah _ _ ?_
  unfold vQah
  simp only [adr_add, NilCk_some]
  refine Nw_row (vs := [.int .i64 0, .string ByteArray.empty, .int .i64 0]) fun b1 H1 hb1 hE1 _ hr1 => s_next (h.ext hE1) fun H2 hE2 => ?_
  have hE12 := hE1.trans hE2 fun _ _ h => h
  have htl := h.tlt
  have hlb := h.lt
  have hdp := h.dp
  have h2 := h.ext hE12
  obtain ⟨sl, q1, _⟩ := h2.row
  unfold downP at he hk
  refine Jn.mk (fun _ H' => H2 = H' ∧ nextB w s = true) (fun kk hkk => ?_) ?_
  · cases hn : nextB w s with
    | false => rw [hn] at he; exact s_wrong h2 (he.mv (ExU hE12))
    | true => exact hkk _ _ ⟨rfl, hn⟩
  rintro _ _ ⟨rfl, hn⟩
  rw [hn, if_pos rfl] at hk he
  refine Ld_int ((q1.cell 1).trans rfl) (Jn.mk (fun _ H' => H2 = H' ∧ s.deep ≠ 20) (fun kk hkk => ?_) ?_)
  · refine Br.mk (fun e => ?_) fun e => hkk _ _ ⟨rfl, bneI e⟩
    rw [if_pos (beqI e)] at he
    exact s_wrong h2 (he.mv (ExU hE12))
  rintro _ _ ⟨rfl, hd⟩
  rw [if_neg hd] at hk
  refine Ld_int ((q1.cell 1).trans rfl) (Lt.mk (u := s.deep + 1) (by rw [wrap_i64_id] <;> omega) (h2.poke (s' := { s with deep := s.deep + 1 }) rfl (fun _ => rfl) (by decide) ⟨by dsimp only; omega, by dsimp only; omega⟩ h.st fun H5 hU5 h5 => ?_))
  refine s_take h5 (next_kind hn) fun H3 hU3 h3 => tok_fin rfl (hU3.row (hU5.row (hE2.row hr1 fun h => h) (by omega)) (by omega)) fun H4 hU4 => ?_
  exact hk _ H4 s.hd { s.take with deep := s.deep + 1 } rfl ((((ExU hE12).trans hU5 fun _ _ e => e).trans hU3 fun _ _ e => e).trans hU4 fun c hc e => by omega) (h3.young hU4 (by omega) (by omega)) rfl
theorem s_deepDown {b tb : Nat} {s : PS} (h : PR H b tb s) (hd : 1 ≤ s.deep) {k : Heap → Prop} (hk : ∀ H', Upd (· = b) H H' → PR H' b tb s.up → k H') :
    Ld (.int .i64) ⟨b, 1, none⟩ H fun x1 => Lt (IntKind.wrap .i64 (x1 - 1)) fun t1 => St ⟨b, 1, none⟩ (.int .i64 t1) H k := by
  obtain ⟨sl, q1, _⟩ := h.row
  have hdp := h.dp
  exact Ld_int ((q1.cell 1).trans rfl) (Lt.mk (u := s.deep - 1) (by rw [wrap_i64_id] <;> omega) (h.poke (s' := s.up) rfl (fun _ => rfl) (by decide) ⟨by dsimp only [PS.up]; omega, by dsimp only [PS.up]; omega⟩ h.st hk))
theorem w_up {b tb : Nat} {s : PS} (h : PR H b tb s) (hd : 1 ≤ s.deep) (w : Txt) : Wk fQat [.pointer (some (adr b)), .string ⟨⟨w⟩⟩] (.tup []) b tb H (upP w s) fun _ _ _ => True := by
  intro kp k he hk
  refine cQai _ _ ?_
  unfold vQai
  simp only [adr_add, NilCk_some]
  refine (w_must h w).step he fun d H1 t s1 ha hU1 h1 _ _ => ?_
  unfold upP at hk
  rw [ha] at hk
  have hd1 : s1.deep = s.deep := by
    unfold mustP at ha
    split at ha
    · cases ha; rfl
    · cases ha
  exact s_deepDown h1 (by omega) fun H2 hU2 h2 => hk () H2 () s1.up rfl (hU1.trans hU2 fun _ _ e => e) h2 trivial
theorem w_limit {b tb : Nat} {s : PS} (h : PR H b tb s) (n most : Int) : Wk fQac [.pointer (some (adr b)), .int .i64 n, .int .i64 most] (.tup []) b tb H (limitP n most s) fun _ _ H' => H' = H := by
  intro kp k he hk
  refine cQaj _ _ _ ?_
  unfold vQaj
  unfold limitP at he hk
  refine Jn.mk (fun _ H' => H = H' ∧ n ≠ most) (fun kk hkk => Br.mk (fun e => ?_) fun e => hkk _ _ ⟨rfl, bneI e⟩) ?_
  · rw [if_pos (beqI e)] at he
    exact s_wrong h he
  · rintro _ _ ⟨rfl, e⟩
    rw [if_neg e] at hk
    exact hk () H () s rfl (.refl _ _) h rfl
abbrev Ow (lo : Nat) (H : Heap) (n : Nd) (q : Nat) : Prop := Syn.Own TQaf TQab lo H n (some q)
abbrev OwL (lo : Nat) (H : Heap) (L : Sl) (ns : List Nd) : Prop := OwnL TQaf TQab lo H L ns
abbrev OwT (lo : Nat) (H : Heap) (ns : List Nd) (qs : List (Option Nat)) : Prop := OwnT TQaf TQab lo H ns qs
theorem s_node {lo : Nat} {op : Int} {t : Tk} {L : Sl} {ns : List Nd} (hL : OwL lo H L ns) (hl : lo ≤ H.size) {k : Option Addr → Heap → Prop} (hk : ∀ H' q, Ext H H' → H.size ≤ q → Ow lo H' (node op t ns) q → k (some (adr q)) H') :
    CallT Pg fQal [.int .i64 op, tokA t, .slice L.a L.len L.cap] (.one (.c .ptr)) H k := by
  refine cQa8 op (tokD t) L ?_
  unfold vQa8
  simp only [adr_add]
  refine Nw_row (vs := tokV t) fun b1 H1 hb1 hE1 _ hr1 => Ld_int ((hr1.cell 2).trans rfl) ?_
  refine Nw_row (vs := ndV op [] 0 L (t.at' : Nat)) fun b2 H2 hb2 hE2 _ hr2 => hk H2 b2 (hE1.trans hE2 fun _ _ h => h) (by have := hE1.size; omega) ?_
  exact Own.node (hL.upd hE1 fun _ _ _ h => h) hE2 hb2 (by have := hE1.size; omega) hr2
theorem s_texted {lo : Nat} {op : Int} {t : Tk} {L : Sl} {ns : List Nd} (hL : OwL lo H L ns) (hl : lo ≤ H.size) {k : Option Addr → Heap → Prop} (hk : ∀ H' q, Ext H H' → H.size ≤ q → Ow lo H' (texted op t ns) q → k (some (adr q)) H') :
    CallT Pg fQah [.int .i64 op, tokA t, .slice L.a L.len L.cap] (.one (.c .ptr)) H k := by
  refine cQa9 op (tokD t) L ?_
  unfold vQa9
  simp only [adr_add]
  refine Nw_row (vs := tokV t) fun b1 H1 hb1 hE1 _ hr1 => Ld_str ((hr1.cell 1).trans rfl) (Ld_int ((hr1.cell 2).trans rfl) ?_)
  refine Nw_row (vs := ndV op t.text 0 L (t.at' : Nat)) fun b2 H2 hb2 hE2 _ hr2 => hk H2 b2 (hE1.trans hE2 fun _ _ h => h) (by have := hE1.size; omega) ?_
  exact Own.node (hL.upd hE1 fun _ _ _ h => h) hE2 hb2 (by have := hE1.size; omega) hr2
theorem s_levelOf {w : Txt} {k : Int → Heap → Prop} (hk : k (levelI w) H) : CallT Pg fQaw [.string ⟨⟨w⟩⟩] (.one (.c (.int .i64))) H k := by
  refine cQba _ ?_
  unfold vQba
  unfold levelI at hk
  simp only [Jn, beq_bs]
  repeat' refine Br_dec (fun _ => ?_) fun _ => ?_
  all_goals simp_all [Br]
end
end Go.Proofs.YtfpmgpblhhcpgaaGreatDoor
namespace Go.Proofs.YtfpmgpblhhcpgaaGreatDoor.Hc.Syn
set_option linter.unusedVariables false
set_option linter.unusedSimpArgs false
set_option maxRecDepth 100000
section
open Go Hc Hc.Lex
theorem bind_ok {α β : Type} {A : R α} {F : α → PS → R β} {b : β} {s' : PS} (h : A.bind F = some (.ok (b, s'))) : ∃ a s, A = some (.ok (a, s)) ∧ F a s = some (.ok (b, s')) := by
  cases A with
  | none => cases h
  | some r => cases r with
    | error e => cases h
    | ok x => exact ⟨x.1, x.2, rfl, h⟩
theorem ret_ok {α : Type} {a b : α} {s s' : PS} (h : retP a s = some (.ok (b, s'))) : b = a ∧ s' = s := by
  unfold retP at h; simp at h; exact ⟨h.1.symm, h.2.symm⟩
theorem must_ok {w : Txt} {s s' : PS} {t : Tk} (h : mustP w s = some (.ok (t, s'))) : nextB w s = true ∧ t = s.hd ∧ s' = s.take := by
  unfold mustP at h
  split at h
  · rename_i e; exact ⟨e, ret_ok h⟩
  · cases h
theorem name_ok {s s' : PS} {t : Tk} (h : nameP s = some (.ok (t, s'))) : namedB s = true ∧ t = s.hd ∧ s' = s.take := by
  unfold nameP at h
  split at h
  · rename_i e; exact ⟨e, ret_ok h⟩
  · cases h
theorem down_ok {w : Txt} {s s' : PS} {t : Tk} (h : downP w s = some (.ok (t, s'))) : nextB w s = true ∧ s.deep ≠ 20 ∧ t = s.hd ∧ s' = { s.take with deep := s.deep + 1 } := by
  unfold downP at h
  split at h
  · split at h
    · cases h
    · rename_i e1 e2; exact ⟨e1, e2, ret_ok h⟩
  · cases h
theorem up_ok {w : Txt} {s s' : PS} {u : Unit} (h : upP w s = some (.ok (u, s'))) : nextB w s = true ∧ s' = s.take.up := by
  unfold upP at h
  obtain ⟨t, s1, h1, h2⟩ := bind_ok h
  obtain ⟨e1, rfl, rfl⟩ := must_ok h1
  exact ⟨e1, (ret_ok h2).2⟩
theorem limit_ok {n m : Int} {s s' : PS} {u : Unit} (h : limitP n m s = some (.ok (u, s'))) : n ≠ m ∧ s' = s := by
  unfold limitP at h
  split at h
  · cases h
  · rename_i e; exact ⟨e, (ret_ok h).2⟩
abbrev Lv (s s' : PS) : Prop := s'.deep = s.deep ∧ s'.stmts = s.stmts
theorem Lv.tr {s s1 s2 : PS} (h : Lv s s1) (h2 : Lv s1 s2) : Lv s s2 := ⟨h2.1.trans h.1, h2.2.trans h.2⟩
structure ExLv (f : Nat) : Prop where
  ex : ∀ lv s n s', exP f lv s = some (.ok (n, s')) → Lv s s'
  un : ∀ w s n s', unP f w s = some (.ok (n, s')) → Lv s s'
  bin : ∀ lv m s n s', binP f lv m s = some (.ok (n, s')) → Lv s s'
  prim : ∀ s n s', primP f s = some (.ok (n, s')) → Lv s s'
  args : ∀ s n s', argsP f s = some (.ok (n, s')) → Lv s s'
  argl : ∀ l s n s', argsL f l s = some (.ok (n, s')) → Lv s s'
theorem exLv : ∀ f, ExLv f
  | 0 => ⟨fun _ _ _ _ h => by simp [exP] at h, fun _ _ _ _ h => by simp [unP] at h, fun _ _ _ _ _ h => by simp [binP] at h, fun _ _ _ h => by simp [primP] at h, fun _ _ _ h => by simp [argsP] at h, fun _ _ _ _ h => by simp [argsL] at h⟩
  | f + 1 => by
    have ih := exLv f
    refine ⟨fun lv s n s' h => ?_, fun w s n s' h => ?_, fun lv m s n s' h => ?_, fun s n s' h => ?_, fun s n s' h => ?_, fun l s n s' h => ?_⟩
    · unfold exP at h
      split at h
      · obtain ⟨a, s1, h1, h⟩ := bind_ok h
        have l1 := ih.ex _ _ _ _ h1
        split at h
        · obtain ⟨t, s2, h2, h⟩ := bind_ok h
          obtain ⟨_, _, rfl, rfl⟩ := down_ok h2
          obtain ⟨y, s3, h3, h⟩ := bind_ok h
          have l3 := ih.ex _ _ _ _ h3
          obtain ⟨u, s4, h4, h⟩ := bind_ok h
          obtain ⟨_, rfl, rfl⟩ := must_ok h4
          obtain ⟨z, s5, h5, h⟩ := bind_ok h
          have l5 := ih.ex _ _ _ _ h5
          obtain ⟨_, rfl⟩ := ret_ok h
          have e : s5.deep = s1.deep + 1 := l5.1.trans l3.1
          exact ⟨by show s5.deep - 1 = _; rw [e, l1.1]; omega, l5.2.trans (l3.2.trans l1.2)⟩
        · obtain ⟨_, rfl⟩ := ret_ok h; exact l1
      · split at h
        · split at h
          · exact ih.un _ _ _ _ h
          · split at h
            · exact ih.un _ _ _ _ h
            · exact ih.prim _ _ _ h
        · obtain ⟨a, s1, h1, h⟩ := bind_ok h
          exact (ih.ex _ _ _ _ h1).tr (ih.bin _ _ _ _ _ h)
    · unfold unP at h
      obtain ⟨t, s2, h2, h⟩ := bind_ok h
      obtain ⟨_, _, rfl, rfl⟩ := down_ok h2
      obtain ⟨y, s3, h3, h⟩ := bind_ok h
      have l3 := ih.ex _ _ _ _ h3
      obtain ⟨_, rfl⟩ := ret_ok h
      have e : s3.deep = s.deep + 1 := l3.1
      exact ⟨by show s3.deep - 1 = _; rw [e]; omega, l3.2⟩
    · unfold binP at h
      split at h
      · obtain ⟨a, s1, h1, h⟩ := bind_ok h
        have l1 := ih.ex _ _ _ _ h1
        have l1 : Lv s s1 := l1
        exact l1.tr (ih.bin _ _ _ _ _ h)
      · obtain ⟨_, rfl⟩ := ret_ok h; exact ⟨rfl, rfl⟩
    · unfold primP at h
      split at h
      · obtain ⟨_, rfl⟩ := ret_ok h; exact ⟨rfl, rfl⟩
      split at h
      · obtain ⟨t, s2, h2, h⟩ := bind_ok h
        obtain ⟨_, _, rfl, rfl⟩ := down_ok h2
        obtain ⟨y, s3, h3, h⟩ := bind_ok h
        have l3 := ih.ex _ _ _ _ h3
        obtain ⟨u, s4, h4, h⟩ := bind_ok h
        obtain ⟨_, rfl⟩ := up_ok h4
        obtain ⟨_, rfl⟩ := ret_ok h
        have e : s3.deep = s.deep + 1 := l3.1
        exact ⟨by show s3.deep - 1 = _; rw [e]; omega, l3.2⟩
      split at h
      · obtain ⟨l, s1, h1, h⟩ := bind_ok h
        obtain ⟨_, rfl⟩ := ret_ok h
        exact (ih.args _ _ _ h1 : Lv _ _)
      split at h
      · obtain ⟨t, s1, h1, h⟩ := bind_ok h
        obtain ⟨_, rfl, rfl⟩ := must_ok h1
        obtain ⟨t, s2, h2, h⟩ := bind_ok h
        obtain ⟨_, rfl, rfl⟩ := name_ok h2
        obtain ⟨t, s3, h3, h⟩ := bind_ok h
        obtain ⟨_, rfl, rfl⟩ := must_ok h3
        obtain ⟨_, rfl⟩ := ret_ok h
        exact ⟨rfl, rfl⟩
      split at h
      · obtain ⟨_, rfl⟩ := ret_ok h; exact ⟨rfl, rfl⟩
      · obtain ⟨t, s1, h1, h⟩ := bind_ok h
        obtain ⟨_, rfl, rfl⟩ := name_ok h1
        split at h
        · obtain ⟨l, s2, h2, h⟩ := bind_ok h
          obtain ⟨_, rfl⟩ := ret_ok h
          exact (ih.args _ _ _ h2 : Lv _ _)
        split at h
        · obtain ⟨l, s2, h2, h⟩ := bind_ok h
          obtain ⟨_, rfl, rfl⟩ := name_ok h2
          obtain ⟨_, rfl⟩ := ret_ok h
          exact ⟨rfl, rfl⟩
        · obtain ⟨_, rfl⟩ := ret_ok h; exact ⟨rfl, rfl⟩
    · unfold argsP at h
      obtain ⟨t, s2, h2, h⟩ := bind_ok h
      obtain ⟨_, _, rfl, rfl⟩ := down_ok h2
      obtain ⟨l, s3, h3, h⟩ := bind_ok h
      obtain ⟨u, s4, h4, h⟩ := bind_ok h
      obtain ⟨_, rfl⟩ := up_ok h4
      obtain ⟨_, rfl⟩ := ret_ok h
      have l3 : s3.deep = s.deep + 1 ∧ s3.stmts = s.stmts := by
        split at h3
        · obtain ⟨_, rfl⟩ := ret_ok h3; exact ⟨rfl, rfl⟩
        · obtain ⟨y, s5, h5, h6⟩ := bind_ok h3
          exact (ih.ex _ _ _ _ h5).tr (ih.argl _ _ _ _ h6)
      exact ⟨by show s3.deep - 1 = _; rw [l3.1]; omega, l3.2⟩
    · unfold argsL at h
      split at h
      · obtain ⟨y, s5, h5, h6⟩ := bind_ok h
        have l1 := ih.ex _ _ _ _ h5
        have l1 : Lv s s5 := l1
        exact l1.tr (ih.argl _ _ _ _ h6)
      · obtain ⟨_, rfl⟩ := ret_ok h; exact ⟨rfl, rfl⟩
end
end Go.Proofs.YtfpmgpblhhcpgaaGreatDoor.Hc.Syn
namespace Go.Proofs.YtfpmgpblhhcpgaaGreatDoor
set_option linter.unusedVariables false
set_option linter.unusedSimpArgs false
set_option maxRecDepth 100000
section
open Hc Hc.Lex Hc.Syn
variable {H : Heap}
abbrev pA (b : Nat) : Value := .pointer (some (adr b))
abbrev NdO (H : Heap) : Nd → Option Addr → Heap → Prop := fun n d H' => ∃ q, d = some (adr q) ∧ H.size ≤ q ∧ Ow H.size H' n q
abbrev LsO (H : Heap) : List Nd → Sl → Heap → Prop := fun l d H' => OwL H.size H' d l ∧ l.length ≤ 2 ^ 31
structure WkE (f : Nat) : Prop where
  ex : ∀ {H : Heap} {b tb : Nat} {s : PS}, PR H b tb s → Wk fQba [pA b] (.one (.c .ptr)) b tb H (exP f 0 s) (NdO H)
  bi : ∀ {H : Heap} {b tb : Nat} {s : PS} (lv : Nat), 1 ≤ lv → lv ≤ 7 → PR H b tb s → Wk fQbc [pA b, .int .i64 (lv : Nat)] (.one (.c .ptr)) b tb H (exP f lv s) (NdO H)
  un : ∀ {H : Heap} {b tb : Nat} {s : PS}, PR H b tb s → Wk fQbd [pA b] (.one (.c .ptr)) b tb H (exP f 7 s) (NdO H)
  args : ∀ {H : Heap} {b tb : Nat} {s : PS}, PR H b tb s → Wk fQbf [pA b] (.one (.c .sl)) b tb H (argsP f s) (LsO H)
theorem bind_some {α β : Type} (a : α) (s : PS) (F : α → PS → R β) : R.bind (some (.ok (a, s))) F = F a s := rfl
theorem upE {b : Nat} {H1 H2 : Heap} (h : Upd (· = b) H H1) (h2 : Ext H1 H2) : Upd (· = b) H H2 := h.trans h2 fun _ _ h => h.elim
theorem upU {b : Nat} {H1 H2 : Heap} (h : Upd (· = b) H H1) (h2 : Upd (· = b) H1 H2) : Upd (· = b) H H2 := h.trans h2 fun _ _ h => h
theorem ex_cond {f : Nat} (ihs : ∀ g, g ≤ f → WkE g) {b tb : Nat} {s : PS} (h : PR H b tb s) : Wk fQba [pA b] (.one (.c .ptr)) b tb H (exP (f + 1) 0 s) (NdO H) := by
  have ih := ihs f (Nat.le_refl _)
  intro kp k he hk
  refine cQa2 _ ?_
  unfold vQa2
  simp only [adr_add, NilCk_some]
  unfold exP at he hk
  rw [if_pos rfl] at he hk
  have hlb := h.lt
  refine (ih.bi 1 (by decide) (by decide) h).step he fun d1 H1 n s1 ha hU1 h1 ⟨q1, e1, g1, o1⟩ he => ?_
  subst e1
  have l1 := (exLv f).ex _ _ _ _ ha
  simp only [ha, bind_some] at hk
  refine s_next h1 fun H2 hE2 => ?_
  cases hn : nextB [63] s1 with
  | false =>
    simp only [hn, Bool.false_eq_true, if_false] at hk
    exact hk _ H2 n s1 rfl (upE hU1 hE2) (h1.ext hE2) ⟨q1, rfl, g1, o1.mv (ExU (b := b) hE2) hlb⟩
  | true =>
    simp only [hn, if_true] at hk he
    have hU2 := upE hU1 hE2
    have t1 := (OwnT.one o1).mv (ExU (b := b) hE2) hlb
    refine (Br_false _ _).2 ((w_down (h1.ext hE2) [63]).step (he.mv (ExU hE2)) fun d3 H3 t s3 ha hU3 h3 e3 he => ?_)
    subst e3
    obtain ⟨_, hd20, rfl, rfl⟩ := down_ok ha
    simp only [ha, bind_some] at hk
    have hU3 := upU hU2 hU3
    have t3 := t1.mv ‹Upd _ H2 H3› hlb
    have htl := h3.tlt
    refine tok_new rfl fun b1 H7 hb1 hE7 hr7 => ?_
    have h7 := h3.ext hE7
    have hU7 := upE hU3 hE7
    have hs7 := hU7.size
    have hs3 := hU3.size
    refine (ih.ex h7).step (he.mv (ExU hE7)) fun d4 H8 y s4 ha hU8 h8 ⟨q4, e4, g4, o4⟩ he => ?_
    subst e4
    have l4 := (exLv f).ex _ _ _ _ ha
    simp only [ha, bind_some] at hk
    have t8 := (t3.mv (ExU (b := b) hE7) hlb).more hU8 hlb hs7 o4
    have r8 := hU8.row hr7 (by omega)
    refine (w_must h8 [58]).step he fun d5 H9 u s5 ha hU9 h9 _ he => ?_
    obtain ⟨_, rfl, rfl⟩ := must_ok ha
    simp only [ha, bind_some] at hk
    have t9 := t8.mv hU9 hlb
    have r9 := hU9.row r8 (by omega)
    have hU79 := upU hU8 hU9
    have hs9 := hU79.size
    refine (ih.ex h9).step he fun d6 H10 z s6 ha hU10 h10 ⟨q6, e6, g6, o6⟩ he => ?_
    subst e6
    have l6 := (exLv f).ex _ _ _ _ ha
    simp only [ha, bind_some] at hk
    have t10 := t9.more hU10 hlb (by omega) o6
    have r10 := hU10.row r9 (by omega)
    have hd : s6.deep = s1.deep + 1 := l6.1.trans l4.1
    have := h1.dp
    refine s_deepDown h10 (by omega) fun H11 hU11 h11 => LdC_tok (hU11.row r10 (by omega)).rd_all ?_
    have t11 := t10.mv hU11 hlb
    have hU711 := upU (upU hU79 hU10) hU11
    have hs11 := hU711.size
    refine OwnT.lit (qs := [some q1, some q4, some q6]) t11 (by omega) rfl fun b2 H12 hb2 hE12 o12 => ?_
    refine s_node o12 (by have := hE12.size; omega) fun H13 q hE13 hq o13 => ?_
    exact hk _ H13 _ s6.up rfl (upE (upE (upU hU7 hU711) hE12) hE13) ((h11.ext hE12).ext hE13) ⟨q, rfl, by have := hE12.size; omega, o13⟩
theorem ex_binary {f : Nat} (ihs : ∀ g, g ≤ f → WkE g) {b tb : Nat} {s : PS} (lv : Nat) (h1 : 1 ≤ lv) (h2 : lv ≤ 7) (hun : lv = 7 → Wk fQbd [pA b] (.one (.c .ptr)) b tb H (exP (f + 1) 7 s) (NdO H)) (h : PR H b tb s) :
    Wk fQbc [pA b, .int .i64 (lv : Nat)] (.one (.c .ptr)) b tb H (exP (f + 1) lv s) (NdO H) := by
  have ih := ihs f (Nat.le_refl _)
  intro kp k he hk
  refine cQa3 _ _ ?_
  unfold vQa3
  refine Br_dec (fun hgt => ?_) fun hle => ?_
  · have : lv = 7 := by omega
    subst this
    exact hun rfl kp _ he hk
  have hlb := h.lt
  have e0 : exP (f + 1) lv s = (exP f (lv + 1) s).bind fun n s => binP f lv n s := by
    conv => lhs; unfold exP
    rw [if_neg (by omega), if_neg (by omega)]
  simp only [adr_add, NilCk_some]
  have hwr : ∀ x : Int, x = IntKind.wrap .i64 ((lv : Int) + 1) → x = ((lv + 1 : Nat) : Int) := fun x hx => by rw [hx, wrap_i64_id] <;> omega
  refine Lt.mk (u := ((lv + 1 : Nat) : Int)) (hwr _ rfl) ?_
  rw [e0] at he
  refine (ih.bi (lv + 1) (by omega) (by omega) h).step he fun d1 H1 n s1 ha hU1 h1' ⟨q1, e1, g1, o1⟩ he => ?_
  subst e1
  rw [ha, bind_some] at e0
  generalize hres : exP (f + 1) lv s = res at *
  refine LoopT.ghost (fun m st H' => ∃ n s' q, m ≤ f ∧ st = some (adr q) ∧ Upd (· = b) H H' ∧ PR H' b tb s' ∧ H.size ≤ q ∧ Ow H.size H' n q ∧ res = binP m lv n s' ∧ EP b H' (binP m lv n s') kp) f ⟨n, s1, q1, Nat.le_refl _, rfl, hU1, h1', g1, o1, e0, he⟩ ?_
  rintro next m _ H3 ⟨n, s', q, hm, rfl, hU3, h3, g3, o3, e3, he⟩ hnext
  cases m with
  | zero => exact absurd (by unfold binP; rfl) he.ne
  | succ m =>
  unfold binP at he e3
  have hok := h3.hd.2.1
  refine Jn.mk (fun j H' => Ext H3 H' ∧ j = decide (s'.hd.kind = 3 ∧ levelI s'.hd.text = lv)) (fun kk hkk => ?_) ?_
  · obtain ⟨sl, r1, r2⟩ := h3.rd
    refine Ld_sl r1 (r2 fun a ha => Ld_int (tok_rd ha).1 (Br.mk (fun e => Ld_sl r1 (r2 fun a ha => Ld_str (tok_rd ha).2.1 (s_levelOf (hkk _ _ ⟨.refl _ _, ?_⟩)))) fun e => hkk _ _ ⟨.refl _ _, ?_⟩))
    · have := beqI e
      rw [Bool.eq_iff_iff, beq_iff_eq, decide_eq_true_eq]
      exact ⟨fun g => ⟨by omega, g⟩, fun g => g.2⟩
    · have := bneI e
      exact (decide_eq_false fun g => this (by rw [g.1]; rfl)).symm
  rintro _ H4 ⟨hE4, rfl⟩
  have h4 := h3.ext hE4
  have hU4 := upE hU3 hE4
  have o4 := o3.mv (ExU (b := b) hE4) hlb
  refine Br_dec (fun hc => ?_) fun hc => ?_
  · rw [if_pos hc] at he e3
    refine s_take h4 (by rw [hc.1]; decide) fun H6 hU6 h6 => ?_
    have o6 := o4.mv hU6 hlb
    have hU6' := upU hU4 hU6
    have hs6 := hU6'.size
    have htl := h6.tlt
    have hlb6 := h6.lt
    refine tok_new rfl fun b1 H10 hb1 hE10 hr10 => LdC_tok hr10.rd_all (Lt.mk (u := ((lv + 1 : Nat) : Int)) (hwr _ rfl) ?_)
    have h10 := h6.ext hE10
    have hU10 := upE hU6' hE10
    have hs10 := hU10.size
    refine ((ihs m (by omega)).bi (lv + 1) (by omega) (by omega) h10).step (he.mv (upE (upU (ExU hE4) hU6) hE10)) fun d5 H11 y s5 ha hU11 h11 ⟨q5, e5, g5, o5⟩ he => ?_
    subst e5
    rw [ha, bind_some] at e3
    have hr11 := hU11.row hr10 (by omega)
    have st : ∀ {H'}, Row H' b1 TQad (tokV s'.hd) → ∀ x ∈ [(((adr b1).add 0 : Addr), Value.int .i64 (tokD s'.hd).1), ((adr b1).add 1, .string (tokD s'.hd).2.1), ((adr b1).add 2, .int .i64 (tokD s'.hd).2.2)], hcell H' x.1 = some x.2 := fun r x hx => by
      simp only [List.mem_cons, List.not_mem_nil, or_false, adr_add] at hx
      rcases hx with rfl | rfl | rfl
      · exact (r.cell 0).trans rfl
      · exact (r.cell 1).trans rfl
      · exact (r.cell 2).trans rfl
    simp only [adr_add] at st
    refine Stab_all (st hr11) ?_
    have t11 := ((OwnT.one o6).mv (ExU (b := b) hE10) hlb).more hU11 hlb hs10 o5
    have hU11' := upU hU10 hU11
    refine OwnT.lit (qs := [some q, some q5]) t11 hU11'.size rfl fun b2 H12 hb2 hE12 o12 => ?_
    refine Stab_all (st (hE12.row hr11 fun h => h)) ?_
    refine s_texted o12 (by have := hE12.size; have := hU11'.size; omega) fun H13 q' hE13 hq o13 => ?_
    refine hnext m _ _ (by omega) ⟨_, s5, q', by omega, rfl, upE (upE hU11' hE12) hE13, (h11.ext hE12).ext hE13, by have := hE12.size; have := hU11'.size; omega, o13, e3, (he.mv (ExU hE12)).mv (ExU hE13)⟩
  · rw [if_neg hc] at e3
    exact hk _ H4 n s' e3 hU4 h4 ⟨q, rfl, g3, o4⟩
theorem tok_st {b1 : Nat} {t : Tk} (r : Row H b1 TQad (tokV t)) : ∀ x ∈ [((⟨b1, 0, none⟩ : Addr), Value.int .i64 (tokD t).1), (⟨b1, 1, none⟩, .string (tokD t).2.1), (⟨b1, 2, none⟩, .int .i64 (tokD t).2.2)], hcell H x.1 = some x.2 := fun x hx => by
  simp only [List.mem_cons, List.not_mem_nil, or_false] at hx
  rcases hx with rfl | rfl | rfl
  · exact (r.cell 0).trans rfl
  · exact (r.cell 1).trans rfl
  · exact (r.cell 2).trans rfl
theorem app_more {lo : Nat} {H' : Heap} {L : Sl} {ns : List Nd} (h : OwL lo H L ns) {b : Nat} (hU : Upd (· = b) H H') (hb : b < lo) (hl : lo ≤ H.size) {n : Nd} {q : Nat} (hn : Ow H.size H' n q) (hlen : ns.length ≤ 2 ^ 40) {k : Sl → Heap → Prop}
    (hk : ∀ L' H2, Upd (fun x => lo ≤ x ∧ x < H.size) H' H2 → OwL lo H2 L' (ns ++ [n]) → k L' H2) :
    Nw #[.pointer (some (adr q))] TQab H' fun b2 H1 => App TQab 1 8 #[.pointer none] L ⟨some (adr b2), 1, 1⟩ H1 k := by
  refine Nw_row (vs := [ptrV (some q)]) fun b2 H1 hb2 hE1 _ hr => ?_
  refine OwnL.app h (hU.trans hE1 fun _ _ h => h.elim) (fun x hx _ => by omega) hl (hn.mv (ExU (b := b) hE1) (by have := hU.size; omega)) hlen hr fun L' H2 hU2 ho => ?_
  exact hk L' H2 ((hE1.mono fun _ _ h => h.elim).trans hU2 fun _ _ e => e) ho
theorem ex_args {f : Nat} (hf : f ≤ 2 ^ 30) (ihs : ∀ g, g ≤ f → WkE g) {b tb : Nat} {s : PS} (h : PR H b tb s) : Wk fQbf [pA b] (.one (.c .sl)) b tb H (argsP (f + 1) s) (LsO H) := by
  have ih := ihs f (Nat.le_refl _)
  intro kp k he hk
  refine cQa6 _ ?_
  unfold vQa6
  unfold argsP at he hk
  have hlb := h.lt
  have htl0 := h.tlt
  refine (w_down h [40]).step he fun d1 H1 t s1 ha hU1 h1 _ he => ?_
  obtain ⟨_, hd20, rfl, rfl⟩ := down_ok ha
  simp only [ha, bind_some] at hk
  have hdp := h.dp
  have hs1 := hU1.size
  refine s_next h1 fun H2 hE2 => ?_
  have h2 := h1.ext hE2
  have hU2 := upE hU1 hE2
  have hs2 := hU2.size
  generalize hs1' : ({ s.take with deep := s.deep + 1 } : PS) = s1 at *
  have hd1 : s1.deep = s.deep + 1 := by rw [← hs1']
  generalize hA : (if nextB [41] s1 then retP [] s1 else (exP f 0 s1).bind fun n s => argsL f [n] s) = A at *
  refine Jn.mk (fun L H3 => ∃ l s5, A = some (.ok (l, s5)) ∧ s5.deep = s.deep + 1 ∧ Upd (· = b) H H3 ∧ PR H3 b tb s5 ∧ OwL H.size H3 L l ∧ l.length ≤ 2 ^ 31 ∧ EP b H3 ((upP [41] s5).bind fun _ s => retP l s) kp) (fun kk hkk => ?_) ?_
  rotate_left
  · rintro L H3 ⟨l, s5, ha, hd, hU3, h3, o3, hl, he⟩
    simp only [ha, bind_some] at hk
    refine (w_up h3 (by omega) [41]).step he fun d4 H4 u s4 ha hU4 h4 _ he => ?_
    obtain ⟨_, rfl⟩ := up_ok ha
    simp only [ha, bind_some] at hk
    exact hk L H4 l _ rfl (upU hU3 hU4) h4 ⟨o3.mv hU4 hlb, hl⟩
  cases hn : nextB [41] s1 with
  | true =>
    rw [hn, if_pos rfl] at hA
    subst hA
    exact hkk _ _ ⟨[], s1, rfl, hd1, hU2, h2, OwnL.nil _ _, by decide, he.mv (ExU hE2)⟩
  | false =>
    rw [hn, if_neg (by decide)] at hA
    have he2 := (he.mv (ExU hE2)).bad
    rw [← hA] at he2
    refine (Br_true _ _).2 ((ih.ex h2).step he2 fun d3 H4 y s4 ha hU4 h4 ⟨q4, e4, g4, o4⟩ he4 => ?_)
    subst e4
    have l4 := (exLv f).ex _ _ _ _ ha
    rw [ha, bind_some] at hA
    refine app_more (H := H2) (lo := H2.size) (OwnL.nil _ _) hU4 (by omega) (Nat.le_refl _) o4 (by simp) fun L1 H6 hU6 o6 => ?_
    have hs4 := hU4.size
    have hU26 : Upd (· = b) H2 H6 := hU4.trans hU6 fun x hx e => by omega
    have h6 : PR H6 b tb s4 := h4.upd hU6 (by omega) (by omega) (by omega)
    refine LoopT.ghost (fun m L H' => ∃ l s', m ≤ f ∧ l.length + m ≤ f + 1 ∧ Upd (· = b) H2 H' ∧ PR H' b tb s' ∧ s'.deep = s.deep + 1 ∧ OwL H2.size H' L l ∧ A = argsL m l s') f ⟨[y], s4, Nat.le_refl _, by simp; omega, hU26, h6, l4.1.trans hd1, o6, hA.symm⟩ ?_
    rintro next m L H7 ⟨l, s', hm, hl, hU7, h7, hd7, o7, e7⟩ hnext
    have he7 : EP b H7 A kp := (he.mv (ExU hE2)).bad.mv hU7
    cases m with
    | zero => exact absurd (e7.trans (by unfold argsL; rfl)) he7.ne
    | succ m =>
    unfold argsL at e7
    refine s_may h7 [44] fun H8 hU8 h8 => ?_
    have hU28 := upU hU7 hU8
    have hs8 := hU28.size
    cases hc : nextB [44] s' with
    | false =>
      rw [hc] at h8
      rw [hc, if_neg (by decide)] at e7
      have he8 := (he.mv (ExU hE2)).next e7 hU28
      exact hkk _ _ ⟨l, s', e7, hd7, upU hU2 hU28, h8, (o7.mv hU8 (by omega)).mono hs2, by omega, he8⟩
    | true =>
      rw [hc, if_pos rfl] at h8
      rw [hc, if_pos rfl] at e7
      have he8 : EP b H8 ((exP m 0 s'.take).bind fun n s => argsL m (l ++ [n]) s) kp := by rw [← e7]; exact he7.mv hU8
      refine (Br_true _ _).2 (((ihs m (by omega)).ex h8).step he8 fun d9 H9 z s9 ha hU9 h9 ⟨q9, e9, g9, o9⟩ _ => ?_)
      subst e9
      have l9 := (exLv m).ex _ _ _ _ ha
      rw [ha, bind_some] at e7
      have hs9 := hU9.size
      refine app_more (o7.mv hU8 (by omega)) hU9 (by omega) hs8 o9 (by omega) fun L2 H10 hU10 o10 => ?_
      refine hnext m _ _ (by omega) ⟨l ++ [z], s9, by omega, by simp; omega, (upU hU28 hU9).trans hU10 fun x hx e => by omega, h9.upd hU10 (by omega) (by omega) (by omega), l9.1.trans hd7, o10, e7⟩
theorem ex_primary {f : Nat} (ihs : ∀ g, g ≤ f → WkE g) {b tb : Nat} {s : PS} (h : PR H b tb s) : Wk fQbe [pA b] (.one (.c .ptr)) b tb H (primP (f + 1) s) (NdO H) := by
  have ih := ihs f (Nat.le_refl _)
  intro kp k he hk
  refine cQa5 _ ?_
  unfold vQa5
  simp only [adr_add, NilCk_some]
  unfold primP at he hk
  have hlb := h.lt
  have htl := h.tlt
  have hok := h.hd.2.1
  have hdp := h.dp
  obtain ⟨sl, r1, r2⟩ := h.rd
  refine Ld_sl r1 (r2 fun a ha => LdC_tok ha (tok_new rfl fun b1 H4 hb1 hE4 hr4 => Ld_int ((hr4.cell 0).trans rfl) ?_))
  clear r1 r2 sl ha a
  have h4 := h.ext hE4
  have ek : ∀ n : Nat, ((s.hd.kind : Nat) : Int) = n ↔ s.hd.kind = n := fun n => by omega
  have hs4 := hE4.size
  have lf : ∀ {Hx : Heap}, OwL H.size Hx ⟨none, 0, 0⟩ [] := OwnL.nil _ _
  refine Br.mk (fun e => ?_) fun e => ?_
  · have e : s.hd.kind = 2 := by have := beqI e; omega
    rw [if_pos e] at hk
    obtain ⟨n1, n2, n3⟩ := hok.num e
    refine s_take h4 (by rw [e]; decide) fun H5 hU5 h5 => ?_
    have hs5 := hU5.size
    refine s_node (t := s.hd) (L := ⟨none, 0, 0⟩) (lf (Hx := H5)) (by omega) fun H6 q hE6 hq o6 => ?_
    have hr6 := hE6.row (hU5.row hr4 (by omega)) fun h => h
    refine Ld_str ((hr6.cell 1).trans rfl) (s_ParseInt n1 (by have := h.hd.2.1.len; exact this) n2 n3 fun v H7 hE7 => ?_)
    simp only [NilCk_some, adr_add]
    refine Own.poke (o6.mv (ExU (b := b) hE7) hlb) (op2 := 30) (tx2 := []) (num2 := (decL 0 s.hd.text : Nat)) (at2 := (s.hd.at' : Nat)) (fun _ => rfl) (by decide) fun H8 hU8 o8 => ?_
    have hqn := (o6.row).1
    have hs6 := hE6.size
    have h7 := (h5.ext hE6).ext hE7
    exact hk _ H8 _ s.take rfl ((upE (upE (upU (ExU hE4) hU5) hE6) hE7).trans hU8 fun c hc e => by omega) (h7.upd hU8 (by omega) (by omega) (by omega)) ⟨q, rfl, by omega, o8⟩
  have e2 : s.hd.kind ≠ 2 := fun g => bneI e (by rw [g]; rfl)
  rw [if_neg e2] at hk he
  refine s_next h4 fun H9 hE9 => ?_
  have h9 := h4.ext hE9
  have hr9 := hE9.row hr4 fun h => h
  have hU9 := upE (ExU (b := b) hE4) hE9
  have hs9 := hU9.size
  cases hn : nextB [40] s with
  | true =>
    rw [hn, if_pos rfl] at hk he
    refine (Br_true _ _).2 ((w_down h9 [40]).step (he.mv hU9) fun d3 H10 t s3 ha hU10 h10 _ he => ?_)
    obtain ⟨_, hd20, rfl, rfl⟩ := down_ok ha
    simp only [ha, bind_some] at hk
    have hU10' := upU hU9 hU10
    have hs10 := hU10'.size
    refine (ih.ex h10).step he fun d4 H11 y s4 ha hU11 h11 ⟨q4, e4, g4, o4⟩ he => ?_
    subst e4
    have l4 := (exLv f).ex _ _ _ _ ha
    have l4d : s4.deep = s.deep + 1 := l4.1
    simp only [ha, bind_some] at hk
    refine (w_up h11 (by omega) [41]).step he fun d5 H12 u s5 ha hU12 h12 _ he => ?_
    simp only [ha, bind_some] at hk
    exact hk _ H12 y s5 rfl (upU (upU hU10' hU11) hU12) h12 ⟨q4, rfl, by omega, (o4.mv hU12 (by omega)).mono hs10⟩
  | false =>
  rw [hn, if_neg (by decide)] at hk he
  refine (Br_false _ _).2 ?_
  refine Jn.mk (fun j H' => Ext H9 H' ∧ j = decide (s.hd.kind = 1 ∧ builtinL.contains s.hd.text = true)) (fun kk hkk => ?_) ?_
  · refine Ld_int ((hr9.cell 0).trans rfl) (Br.mk (fun e => Ld_str ((hr9.cell 1).trans rfl) (s_builtin fun H14 hE14 => hkk _ _ ⟨hE14, ?_⟩)) fun e => hkk _ _ ⟨.refl _ _, ?_⟩)
    · have := beqI e
      rw [Bool.eq_iff_iff, decide_eq_true_eq]
      exact ⟨fun g => ⟨by omega, g⟩, fun g => g.2⟩
    · have := bneI e
      exact (decide_eq_false fun g => this (by rw [g.1]; rfl)).symm
  rintro _ H13 ⟨hE13, rfl⟩
  have h13 := h9.ext hE13
  have hr13 := hE13.row hr9 fun h => h
  have hU13 := upE hU9 hE13
  have hs13 := hU13.size
  refine Br_dec (fun hc => ?_) fun hc => ?_
  · rw [if_pos hc] at hk he
    refine s_take h13 (by rw [hc.1]; decide) fun H15 hU15 h15 => ?_
    have hr15 := hU15.row hr13 (by omega)
    have hU15' := upU hU13 hU15
    have hs15 := hU15'.size
    refine LdC_tok hr15.rd_all ((ih.args h15).step (he.mv hU15') fun L H16 l s6 ha hU16 h16 ⟨o6, hl6⟩ _ => ?_)
    simp only [ha, bind_some] at hk
    have hr16 := hU16.row hr15 (by omega)
    have hU16' := upU hU15' hU16
    refine Stab_all (tok_st hr16) (s_texted (o6.mono hs15) hU16'.size fun H17 q hE17 hq o17 => ?_)
    exact hk _ H17 _ s6 rfl (upE hU16' hE17) (h16.ext hE17) ⟨q, rfl, by have := hU16'.size; omega, o17⟩
  rw [if_neg hc] at hk he
  refine s_next h13 fun H18 hE18 => ?_
  have h18 := h13.ext hE18
  have hr18 := hE18.row hr13 fun h => h
  have hU18 := upE hU13 hE18
  have hs18 := hU18.size
  cases hn2 : nextB [104, 97, 115] s with
  | true =>
    rw [hn2, if_pos rfl] at hk he
    refine (Br_true _ _).2 (s_take h18 (next_kind hn2) fun H19 hU19 h19 => ?_)
    have hU19' := upU hU18 hU19
    refine (w_must h19 [40]).step (he.mv hU19') fun d H20 t s1 ha hU20 h20 _ he => ?_
    simp only [ha, bind_some] at hk
    have hU20' := upU hU19' hU20
    have hs20 := hU20'.size
    refine LdC_tok (hU20.row (hU19.row hr18 (by omega)) (by omega)).rd_all (s_node (L := ⟨none, 0, 0⟩) (lf (Hx := H20)) hs20 fun H21 q hE21 hq o21 => ?_)
    have h21 := h20.ext hE21
    have he20 := he
    refine (w_name h21).step (he.mv (ExU hE21)) fun d H22 t2 s2 ha hU22 h22 e _ => ?_
    subst e
    have ha2 := ha
    simp only [ha, bind_some] at hk
    simp only [NilCk_some, adr_add]
    have hU22' := upU (upE hU20' hE21) hU22
    refine Own.poke (o21.mv hU22 hlb) (op2 := 37) (tx2 := t2.text) (num2 := 0) (at2 := (s.hd.at' : Nat)) (fun _ => rfl) (by decide) fun H23 hU23 o23 => ?_
    have hqn := o23.row.1
    have h23 : PR H23 b tb s2 := h22.upd hU23 (by omega) (by omega) (by omega)
    have hU23' : Upd (· = b) H H23 := hU22'.trans hU23 fun c hc e => by omega
    refine (w_must h23 [41]).step (he20.next ha2 ((upU (ExU hE21) hU22).trans hU23 fun c hc e => by omega)) fun d H24 t3 s3 ha hU24 h24 _ he => ?_
    simp only [ha, bind_some] at hk
    exact hk _ H24 _ s3 rfl (upU hU23' hU24) h24 ⟨q, rfl, by omega, o23.mv hU24 hlb⟩
  | false =>
  rw [hn2, if_neg (by decide)] at hk he
  refine (Br_false _ _).2 (s_next h18 fun H25 hE25 => ?_)
  have h25 := h18.ext hE25
  have hr25 := hE25.row hr18 fun h => h
  have hU25 := upE hU18 hE25
  refine Jn.mk (fun j H' => Ext H25 H' ∧ j = (nextB [116, 105, 99, 107] s || nextB [109, 101] s)) (fun kk hkk => ?_) ?_
  · cases h1 : nextB [116, 105, 99, 107] s with
    | true => exact hkk _ _ ⟨.refl _ _, by rw [h1]; rfl⟩
    | false => exact (Br_false _ _).2 (s_next h25 fun H27 hE27 => hkk _ _ ⟨hE27, by rw [h1]; rfl⟩)
  rintro _ H26 ⟨hE26, rfl⟩
  have h26 := h25.ext hE26
  have hr26 := hE26.row hr25 fun h => h
  have hU26 := upE hU25 hE26
  have hs26 := hU26.size
  refine Br.mk (fun hc => ?_) fun hc => ?_
  · rw [hc, if_pos rfl] at hk
    have hk0 : s.hd.kind ≠ 0 := by
      rcases Bool.or_eq_true _ _ ▸ hc with g | g
      · exact next_kind g
      · exact next_kind g
    refine s_take h26 hk0 fun H28 hU28 h28 => ?_
    have hU28' := upU hU26 hU28
    refine s_texted (L := ⟨none, 0, 0⟩) (lf (Hx := H28)) hU28'.size fun H29 q hE29 hq o29 => ?_
    exact hk _ H29 _ s.take rfl (upE hU28' hE29) (h28.ext hE29) ⟨q, rfl, by have := hU28'.size; omega, o29⟩
  rw [hc, if_neg (by decide)] at hk he
  refine (w_name h26).step (he.mv hU26) fun d H30 t s1 ha hU30 h30 e he => ?_
  subst e
  obtain ⟨_, rfl, rfl⟩ := name_ok ha
  simp only [ha, bind_some] at hk
  have hU30' := upU hU26 hU30
  have hr30 := hU30.row hr26 (by omega)
  refine s_next h30 fun H31 hE31 => ?_
  have h31 := h30.ext hE31
  have hr31 := hE31.row hr30 fun h => h
  have hU31 := upE hU30' hE31
  have hs31 := hU31.size
  cases hn3 : nextB [40] s.take with
  | true =>
    simp only [hn3, if_true] at hk he
    refine (Br_true _ _).2 (LdC_tok hr31.rd_all ((ih.args h31).step (he.mv (ExU hE31)) fun L H32 l s6 ha hU32 h32 ⟨o6, hl6⟩ _ => ?_))
    simp only [ha, bind_some] at hk
    have hU32' := upU hU31 hU32
    refine Stab_all (tok_st (hU32.row hr31 (by omega))) (s_texted (o6.mono hs31) hU32'.size fun H33 q hE33 hq o33 => ?_)
    exact hk _ H33 _ s6 rfl (upE hU32' hE33) (h32.ext hE33) ⟨q, rfl, by have := hU32'.size; omega, o33⟩
  | false =>
  simp only [hn3, Bool.false_eq_true, if_false] at hk he
  refine (Br_false _ _).2 (s_may h31 [46] fun H34 hU34 h34 => ?_)
  have hr34 := hU34.row hr31 (by omega)
  have hU34' := upU hU31 hU34
  have hs34 := hU34'.size
  cases hn4 : nextB [46] s.take with
  | true =>
    simp only [hn4, if_true] at hk he h34
    refine (Br_true _ _).2 (LdC_tok hr34.rd_all ((w_name h34).step (he.mv (upU (ExU hE31) hU34)) fun d H35 u s2 ha hU35 h35 e _ => ?_))
    subst e
    simp only [ha, bind_some] at hk
    have hr35 := hU35.row hr34 (by omega)
    have hU35' := upU hU34' hU35
    have hs35 := hU35'.size
    refine Stab_all (tok_st hr35) (s_texted (L := ⟨none, 0, 0⟩) (lf (Hx := H35)) hs35 fun H36 q1 hE36 hq1 o36 => ?_)
    have hr36 := hE36.row hr35 fun h => h
    have hs36 := hE36.size
    refine Stab_all (tok_st hr36) (OwnT.lit (qs := [some q1]) (OwnT.one o36) (by omega) rfl fun b2 H37 hb2 hE37 o37 => ?_)
    refine Stab_all (tok_st (hE37.row hr36 fun h => h)) (s_texted o37 (by have := hE37.size; omega) fun H38 q hE38 hq o38 => ?_)
    exact hk _ H38 _ s2 rfl (upE (upE (upE hU35' hE36) hE37) hE38) (((h35.ext hE36).ext hE37).ext hE38) ⟨q, rfl, by have := hE37.size; omega, o38⟩
  | false =>
    simp only [hn4, Bool.false_eq_true, if_false] at hk h34
    refine (Br_false _ _).2 (LdC_tok hr34.rd_all (s_texted (L := ⟨none, 0, 0⟩) (lf (Hx := H34)) hs34 fun H39 q hE39 hq o39 => ?_))
    exact hk _ H39 _ s.take rfl (upE hU34' hE39) (h34.ext hE39) ⟨q, rfl, by omega, o39⟩
theorem ex_unary {f : Nat} (ihs : ∀ g, g ≤ f → WkE g) {b tb : Nat} {s : PS} (h : PR H b tb s) : Wk fQbd [pA b] (.one (.c .ptr)) b tb H (exP (f + 1) 7 s) (NdO H) := by
  intro kp k he hk
  refine cQa4 _ ?_
  unfold vQa4
  simp only [adr_add, NilCk_some]
  unfold exP at he hk
  rw [if_neg (by decide), if_pos rfl] at he hk
  have hlb := h.lt
  have htl := h.tlt
  have hdp := h.dp
  cases f with
  | zero =>
    refine absurd ?_ he.ne
    unfold unP primP
    split
    · rfl
    · split <;> rfl
  | succ g =>
  refine Nw_row (vs := [strV [45], strV [33]]) fun b1 H1 hb1 hE1 hz1 hr1 => ?_
  refine LoopT.mk (fun st H' => ∃ i : Nat, st = (i : Int) ∧ i ≤ 2 ∧ Ext H H' ∧ Row H' b1 TQae [strV [45], strV [33]] ∧ (1 ≤ i → nextB [45] s = false) ∧ (2 ≤ i → nextB [33] s = false)) (fun st _ => 2 - st.toNat) ⟨0, rfl, by decide, hE1, hr1, fun h => by omega, fun h => by omega⟩ ?_
  rintro next _ H2 ⟨i, rfl, hi, hE2, hr2, hn1, hn2⟩ hnext
  have h2 := h.ext hE2
  refine Br_dec (fun hlt => ?_) fun hge => ?_
  · have key : ∀ (w : Txt), (i = 0 ∧ w = [45]) ∨ (i = 1 ∧ w = [33]) → (nextB w s = true → (if nextB [45] s = true then unP (g + 1) [45] s else if nextB [33] s = true then unP (g + 1) [33] s else primP (g + 1) s) = unP (g + 1) w s) → (nextB w s = false → (1 ≤ i + 1 → nextB [45] s = false) ∧ (2 ≤ i + 1 → nextB [33] s = false)) → hcell H2 ⟨b1, i, none⟩ = some (strV w) →
        IxA 1 ⟨some (adr b1), 2, 2⟩ (i : Int) fun a1 => Ld .str a1 H2 fun x1 => CallT Pg fQab [pA b, .string x1] (.one (.c .bool)) H2 fun r1 H3 => Br r1 (
          CallE Pg fQar [pA b, .string x1] (.one (.agg [(.int .i64), .str, (.int .i64)])) H3 kp fun (r2 : Int × ByteArray × Int) H4 =>
          Nw #[.int .i64 0, .string ByteArray.empty, .int .i64 0] TQad H4 fun b2 H5 =>
          St ⟨b2, 0, none⟩ (.int .i64 r2.1) H5 fun H6 =>
          St ⟨b2, 1, none⟩ (.string r2.2.1) H6 fun H7 =>
          St ⟨b2, 2, none⟩ (.int .i64 r2.2.2) H7 fun H8 =>
          LdC [(.int .i64), .str, (.int .i64)] (adr b2) H8 fun (c1 : Int × ByteArray × Int) =>
          CallE Pg fQbd [pA b] (.one (.c .ptr)) H8 kp fun (r3 : Option Addr) H9 =>
          Stab [(⟨b2, 0, none⟩, .int .i64 c1.1), (⟨b2, 1, none⟩, .string c1.2.1), (⟨b2, 2, none⟩, .int .i64 c1.2.2)] H9 <|
          Nw #[.pointer r3] TQab H9 fun b3 H10 =>
          Stab [(⟨b2, 0, none⟩, .int .i64 c1.1), (⟨b2, 1, none⟩, .string c1.2.1), (⟨b2, 2, none⟩, .int .i64 c1.2.2)] H10 <|
          CallT Pg fQah [.int .i64 34, .agg #[.int .i64 c1.1, .string c1.2.1, .int .i64 c1.2.2], .slice (some (adr b3)) 1 1] (.one (.c .ptr)) H10 fun (r4 : Option Addr) H11 =>
          Ld (.int .i64) ⟨b, 1, none⟩ H11 fun (x2 : Int) =>
          Lt (IntKind.wrap .i64 (x2 - 1)) fun t1 =>
          St ⟨b, 1, none⟩ (.int .i64 t1) H11 fun H12 =>
          k r4 H12) (
          Lt (IntKind.wrap .i64 ((i : Int) + 1)) fun t2 =>
          next t2 H3) := fun w hw hres hno hc => by
      refine IxA_adr (by omega) (by rcases hw with ⟨e, _⟩ | ⟨e, _⟩ <;> omega) ?_
      rw [Int.toNat_natCast, Nat.mul_one]
      refine Ld_str hc (s_next h2 fun H3 hE3 => ?_)
      have h3 := h2.ext hE3
      have hU3 := upE (ExU (b := b) hE2) hE3
      have hs3 := hU3.size
      cases hn : nextB w s with
      | false =>
        refine (Br_false _ _).2 (Lt.mk (u := ((i + 1 : Nat) : Int)) (by rw [wrap_i64_id] <;> omega) (hnext _ _ ⟨i + 1, rfl, by omega, hE2.trans hE3 fun _ _ h => h, hE3.row hr2 fun h => h, (hno hn).1, (hno hn).2⟩ (by omega)))
      | true =>
        rw [hres hn] at he hk
        unfold unP at he hk
        refine (Br_true _ _).2 ((w_down h3 w).step (he.mv hU3) fun d4 H4 t s1 ha hU4 h4 e he => ?_)
        subst e
        obtain ⟨_, hd20, rfl, rfl⟩ := down_ok ha
        simp only [ha, bind_some] at hk
        have hU4' := upU hU3 hU4
        have hs4 := hU4'.size
        refine tok_new rfl fun b2 H8 hb2 hE8 hr8 => LdC_tok hr8.rd_all ?_
        have h8 := h4.ext hE8
        have hU8 := upE hU4' hE8
        have hs8 := hU8.size
        refine ((ihs g (by omega)).un h8).step (he.mv (ExU hE8)) fun d9 H9 y s9 ha hU9 h9 ⟨q9, e9, g9, o9⟩ _ => ?_
        subst e9
        have l9 := (exLv g).ex _ _ _ _ ha
        have l9d : s9.deep = s.deep + 1 := l9.1
        simp only [ha, bind_some] at hk
        have hr9 := hU9.row hr8 (by omega)
        have hU9' := upU hU8 hU9
        have hs9 := hU9'.size
        refine Stab_all (tok_st hr9) (OwnT.lit (qs := [some q9]) (OwnT.one (o9.mono hs8)) hs9 rfl fun b3 H10 hb3 hE10 o10 => ?_)
        refine Stab_all (tok_st (hE10.row hr9 fun h => h)) (s_texted o10 (by have := hE10.size; omega) fun H11 q hE11 hq o11 => ?_)
        have h11 := (h9.ext hE10).ext hE11
        refine s_deepDown h11 (by omega) fun H12 hU12 h12 => ?_
        exact hk _ H12 _ s9.up rfl (upU (upE (upE hU9' hE10) hE11) hU12) h12 ⟨q, rfl, by have := hE10.size; omega, o11.mv hU12 hlb⟩
    rcases (show i = 0 ∨ i = 1 by omega) with rfl | rfl
    · exact key [45] (.inl ⟨rfl, rfl⟩) (fun e => if_pos e) (fun e => ⟨fun _ => e, fun h => by omega⟩) ((hr2.cell 0).trans rfl)
    · have := hn1 (by omega)
      exact key [33] (.inr ⟨rfl, rfl⟩) (fun e => by rw [if_neg (by rw [this]; decide), if_pos e]) (fun e => ⟨fun _ => this, fun _ => e⟩) ((hr2.cell 1).trans rfl)
  · have e1 := hn1 (by omega)
    have e2 := hn2 (by omega)
    rw [e1, e2, if_neg (by decide), if_neg (by decide)] at he hk
    exact ex_primary (fun g' hg' => ihs g' (by omega)) h2 kp _ (he.mv (ExU hE2)) fun d H' a s' ha hU h' ⟨q, e, g1, o⟩ => hk d H' a s' ha (upU (ExU hE2) hU) h' ⟨q, e, by have := hE2.size; omega, o.mono hE2.size⟩
theorem wkE : ∀ f, f ≤ 2 ^ 30 → WkE f := by
  intro f
  induction f using Nat.strongRecOn with
  | _ f ih =>
    intro hf
    cases f with
    | zero => exact ⟨fun h kp k he => absurd (by unfold exP; rfl) he.ne, fun lv _ _ h kp k he => absurd (by unfold exP; rfl) he.ne, fun h kp k he => absurd (by unfold exP; rfl) he.ne, fun h kp k he => absurd (by unfold argsP; rfl) he.ne⟩
    | succ f =>
      have ihs : ∀ g, g ≤ f → WkE g := fun g hg => ih g (by omega) (by omega)
      exact ⟨fun h => ex_cond ihs h, fun lv h1 h2 h => ex_binary ihs lv h1 h2 (fun _ => ex_unary ihs h) h, fun h => ex_unary ihs h, fun h => ex_args (by omega) ihs h⟩
end
section
open Hc Hc.Lex Hc.Syn
variable {H : Heap}
theorem Wk.st {B : Heap} {α β : Type} {f : FuncId} {args : List Value} {r : RTy} {b tb : Nat} {A : R α} {Rel : α → r.den → Heap → Prop} (w : Wk f args r b tb H A Rel) {res : R β} {kp : Value → Heap → Prop} (heB : EP b B res kp) (hU : Upd (· = b) B H) {F : α → PS → R β} (hres : res = A.bind F)
    {k : r.den → Heap → Prop} (hk : ∀ d H' a s', res = F a s' → A = some (.ok (a, s')) → Upd (· = b) B H' → Upd (· = b) H H' → PR H' b tb s' → Rel a d H' → k d H') : CallE Pg f args r H kp k :=
  w kp k ((heB.mv hU).to hres).bad fun d H' a s' ha hU' hR hrel => hk d H' a s' (by rw [hres, ha]; rfl) ha (upU hU hU') hU' hR hrel
theorem give_lit {B H0 : Heap} {b tb q : Nat} {s : PS} {op num at' : Int} {tx : Txt} {ns : List Nd} {qs : List (Option Nat)} (hB : Upd (· = b) B H) (hb : b < B.size) (htb : tb < B.size) (ho : Ow B.size H0 (.mk op tx num [] at') q) (h0 : B.size ≤ H0.size) (hU : Upd (· = b) H0 H) (hP : PR H b tb s)
    (hT : OwT H0.size H ns qs) {m : Nat} (hm : qs.length = m) {K : Heap → Prop} (hk : ∀ H2, Upd (· = b) B H2 → PR H2 b tb s → Ow B.size H2 (.mk op tx num ns at') q → K H2) :
    Nw ⟨qs.map ptrV⟩ TQab H fun b1 H1 => St ⟨q, 3, none⟩ (.slice (some (adr b1)) m m) H1 K := by
  have hs := hU.size
  refine OwnT.lit hT hs hm fun b1 H1 hb1 hE1 o1 => ?_
  have hq := ho.row.1
  refine Own.give (L := ⟨some (adr b1), m, m⟩) ho (upE hU hE1) (fun x hx _ => by omega) o1 h0 fun H2 hU2 o2 => hk H2 ((upE hB hE1).trans hU2 fun c hc e => by omega) ((hP.ext hE1).upd hU2 (by omega) (by omega) (by omega)) o2
theorem poke_text {B : Heap} {b tb q : Nat} {s : PS} {op num at' : Int} {tx : Txt} {ns : List Nd} (hB : Upd (· = b) B H) (hb : b < B.size) (htb : tb < B.size) (ho : Ow B.size H (.mk op tx num ns at') q) (hP : PR H b tb s) (tx2 : Txt) {K : Heap → Prop}
    (hk : ∀ H2, Upd (· = b) B H2 → Upd (· = q) H H2 → PR H2 b tb s → Ow B.size H2 (.mk op tx2 num ns at') q → K H2) : St ⟨q, 1, none⟩ (strV tx2) H K := by
  have hq := ho.row.1
  exact Own.poke ho (op2 := op) (tx2 := tx2) (num2 := num) (at2 := at') (fun _ => rfl) (by decide) fun H2 hU2 o2 => hk H2 (hB.trans hU2 fun c hc e => by omega) hU2 (hP.upd hU2 (by omega) (by omega) (by omega)) o2
theorem add_child {B : Heap} {β : Type} {f : FuncId} {args : List Value} {b tb q : Nat} {op num at' : Int} {tx : Txt} {ns : List Nd} {A : R Nd} {res : R β} {kp : Value → Heap → Prop} {F : Nd → PS → R β} (hB : Upd (· = b) B H) (hb : b < B.size) (htb : tb < B.size) (ho : Ow B.size H (.mk op tx num ns at') q) (hlen : ns.length ≤ 2 ^ 40)
    (w : Wk f args (.one (.c .ptr)) b tb H A (NdO H)) (heB : EP b B res kp) (hres : res = A.bind F) {K : Heap → Prop}
    (hk : ∀ n s' H8, res = F n s' → A = some (.ok (n, s')) → Upd (· = b) B H8 → PR H8 b tb s' → Ow B.size H8 (.mk op tx num (ns ++ [n]) at') q → K H8) :
    Ld .sl ⟨q, 3, none⟩ H fun x1 => CallE Pg f args (.one (.c .ptr)) H kp fun (r4 : Option Addr) H5 => Stab [((⟨q, 3, none⟩ : Addr), .slice x1.a x1.len x1.cap)] H5 <| Nw #[.pointer r4] TQab H5 fun b1 H6 =>
      Stab [((⟨q, 3, none⟩ : Addr), .slice x1.a x1.len x1.cap)] H6 <| App TQab 1 8 #[.pointer none] x1 ⟨some (adr b1), 1, 1⟩ H6 fun l1 H7 => St ⟨q, 3, none⟩ (.slice l1.a l1.len l1.cap) H7 K := by
  obtain ⟨L, g1, g2⟩ := Own.app ho hB.size hlen
  have hs := hB.size
  refine Ld_sl (s := L) (g1 (.refl (fun _ => False) H) fun _ _ _ h => h) ?_
  refine w.st heB hB hres fun d H5 n s' e ha hB5 hU5 h5 ⟨q2, e2, k1, o5⟩ => ?_
  subst e2
  have hM : ∀ x, B.size ≤ x → x < H.size → ¬ x = b := fun x hx _ => by omega
  refine Stab_1 (g1 hU5 hM) (Nw_row (vs := [ptrV (some q2)]) fun b1 H6 hb1 hE6 _ hr6 => Stab_1 (g1 (upE hU5 hE6) hM) ?_)
  refine g2 (upE hU5 hE6) hM (o5.mv (ExU (b := b) hE6) (by omega)) hr6 fun L' H7 _ hst => hst fun H8 hU8 o8 => ?_
  exact hk n s' H8 e ha ((upE hB5 hE6).trans hU8 fun c hc e => by omega) ((h5.ext hE6).upd hU8 (by omega) (by omega) (by omega)) o8
theorem bind_ret {α : Type} (A : R α) : A = A.bind retP := by
  cases A with
  | none => rfl
  | some r => cases r <;> rfl
theorem bind_assoc {α β γ : Type} (A : R α) (F : α → PS → R β) (G : β → PS → R γ) : (A.bind F).bind G = A.bind fun a s => (F a s).bind G := by
  cases A with
  | none => rfl
  | some r => cases r <;> rfl
theorem lfO {lo : Nat} {Hx : Heap} : OwL lo Hx ⟨none, 0, 0⟩ [] := OwnL.nil _ _
theorem w_ended {B : Heap} {b tb : Nat} {s : PS} (h : PR H b tb s) {n : Nd} {q : Nat} (ho : Ow B.size H n q) (hb : b < B.size) : Wk fQa9 [pA b, .pointer (some (adr q))] (.one (.c .ptr)) b tb H (endP n s) fun n' d H' => n' = n ∧ d = some (adr q) ∧ Ow B.size H' n q := by
  intro kp k he hk
  refine cQaq _ _ ?_
  unfold vQaq
  unfold endP at he hk
  refine (w_must h [59]).step he fun d H1 t s1 ha hU1 h1 _ _ => ?_
  simp only [ha, bind_some] at hk
  exact hk _ H1 n s1 rfl hU1 h1 ⟨rfl, rfl, ho.mv hU1 hb⟩
theorem own_ge {lo : Nat} {op num at' : Int} {tx : Txt} {ns : List Nd} {q : Nat} (h : Ow lo H (.mk op tx num ns at') q) : lo ≤ q := h.row.1
variable {F : Nat}
theorem fin_ended2 {B : Heap} {b tb : Nat} {s : PS} (h : PR H b tb s) {n : Nd} {q : Nat} (ho : Ow B.size H n q) (hb : b < B.size) (hq : B.size ≤ q) {res : R Nd} {kp : Value → Heap → Prop} (heB : EP b B res kp) (hB : Upd (· = b) B H) (e : res = endP n s)
    {k : Option Addr → Heap → Prop} (hk : ∀ d H' a s', res = some (.ok (a, s')) → Upd (· = b) B H' → Upd (· = b) H H' → PR H' b tb s' → NdO B a d H' → k d H') :
    CallE Pg fQa9 [pA b, .pointer (some (adr q))] (.one (.c .ptr)) H kp k :=
  (w_ended h ho hb).st heB hB (e.trans (bind_ret _)) fun d H9 n9 s9 e9 ha hB9 hU9 h9 ⟨en, ed, o9⟩ => by
    subst en ed
    exact hk _ H9 _ s9 e9 hB9 hU9 h9 ⟨q, rfl, hq, o9⟩
theorem fin_ended {B : Heap} {b tb : Nat} {s : PS} (h : PR H b tb s) {n : Nd} {q : Nat} (ho : Ow B.size H n q) (hb : b < B.size) (hq : B.size ≤ q) {res : R Nd} {kp : Value → Heap → Prop} (heB : EP b B res kp) (hB : Upd (· = b) B H) (e : res = endP n s)
    {k : Option Addr → Heap → Prop} (hk : ∀ d H' a s', res = some (.ok (a, s')) → Upd (· = b) B H' → PR H' b tb s' → NdO B a d H' → k d H') :
    CallE Pg fQa9 [pA b, .pointer (some (adr q))] (.one (.c .ptr)) H kp k := fin_ended2 h ho hb hq heB hB e fun d H' a s' e1 e2 _ => hk d H' a s' e1 e2
theorem st_let (hF : F ≤ 2 ^ 30) {b tb : Nat} {s : PS} (h : PR H b tb s) (h0 : s.hd.kind ≠ 0) : Wk fQa0 [pA b] (.one (.c .ptr)) b tb H (letP F s) (NdO H) := by
  intro kp k he hk
  refine cQar _ ?_
  unfold vQar
  have hlb := h.lt
  have htb := h.tlt.1
  generalize hres : letP F s = res at *
  unfold letP at hres
  refine s_take h h0 fun H1 hU1 h1 => s_node (t := s.hd) (L := ⟨none, 0, 0⟩) (lo := H.size) lfO hU1.size fun H2 q hE2 hq o2 => ?_
  have hB2 := upE hU1 hE2
  simp only [NilCk_some, adr_add]
  refine (w_name (h1.ext hE2)).st he hB2 hres.symm fun d H3 t s3 e ha hB3 hU3 h3 et => ?_
  subst et
  refine poke_text hB3 hlb htb (o2.mv hU3 hlb) h3 t.text fun H4 hB4 _ h4 o4 => ?_
  refine (w_must h4 [61]).st he hB4 e fun d H5 u s5 e ha hB5 hU5 h5 _ => ?_
  refine ((wkE F hF).ex h5).st he hB5 e fun d H6 n s6 e ha hB6 hU6 h6 ⟨q6, e6, g6, o6⟩ => ?_
  subst e6
  refine give_lit (qs := [some q6]) hB6 hlb htb (o4.mv hU5 hlb) hB5.size hU6 h6 (OwnT.one o6) rfl fun H8 hB8 h8 o8 => ?_
  exact fin_ended h8 o8 hlb (own_ge o8) he hB8 e hk
theorem st_remove {b tb : Nat} {s : PS} (h : PR H b tb s) (h0 : s.hd.kind ≠ 0) : Wk fQa6 [pA b] (.one (.c .ptr)) b tb H (removeP s) (NdO H) := by
  intro kp k he hk
  refine cQay _ ?_
  unfold vQay
  have hlb := h.lt
  have htb := h.tlt.1
  generalize hres : removeP s = res at *
  unfold removeP at hres
  refine s_take h h0 fun H1 hU1 h1 => s_node (t := s.hd) (L := ⟨none, 0, 0⟩) (lo := H.size) lfO hU1.size fun H2 q hE2 hq o2 => ?_
  have hB2 := upE hU1 hE2
  simp only [NilCk_some, adr_add]
  refine (w_name (h1.ext hE2)).st he hB2 hres.symm fun d H3 t s3 e ha hB3 hU3 h3 et => ?_
  subst et
  refine poke_text hB3 hlb htb (o2.mv hU3 hlb) h3 t.text fun H4 hB4 _ h4 o4 => ?_
  exact fin_ended h4 o4 hlb (own_ge o4) he hB4 e hk
theorem st_answer (hF : F ≤ 2 ^ 30) {b tb : Nat} {s : PS} (h : PR H b tb s) (h0 : s.hd.kind ≠ 0) : Wk fQa8 [pA b] (.one (.c .ptr)) b tb H (answerP F s) (NdO H) := by
  intro kp k he hk
  refine cQa0 _ ?_
  unfold vQa0
  have hlb := h.lt
  have htb := h.tlt.1
  generalize hres : answerP F s = res at *
  unfold answerP at hres
  refine s_take h h0 fun H1 hU1 h1 => s_node (t := s.hd) (L := ⟨none, 0, 0⟩) (lo := H.size) lfO hU1.size fun H2 q hE2 hq o2 => ?_
  have hB2 := upE hU1 hE2
  simp only [NilCk_some, adr_add]
  refine ((wkE F hF).ex (h1.ext hE2)).st he hB2 hres.symm fun d H6 n s6 e ha hB6 hU6 h6 ⟨q6, e6, g6, o6⟩ => ?_
  subst e6
  refine give_lit (qs := [some q6]) hB6 hlb htb o2 hB2.size hU6 h6 (OwnT.one o6) rfl fun H8 hB8 h8 o8 => ?_
  exact fin_ended h8 o8 hlb (own_ge o8) he hB8 e hk
theorem st_emit (hF : F ≤ 2 ^ 30) {b tb : Nat} {s : PS} (h : PR H b tb s) (h0 : s.hd.kind ≠ 0) : Wk fQa3 [pA b] (.one (.c .ptr)) b tb H (emitP F s) (NdO H) := by
  intro kp k he hk
  refine cQav _ ?_
  unfold vQav
  have hlb := h.lt
  have htb := h.tlt.1
  generalize hres : emitP F s = res at *
  unfold emitP at hres
  refine s_take h h0 fun H1 hU1 h1 => s_node (t := s.hd) (L := ⟨none, 0, 0⟩) (lo := H.size) lfO hU1.size fun H2 q hE2 hq o2 => ?_
  have hB2 := upE hU1 hE2
  have hs2 := hB2.size
  simp only [NilCk_some, adr_add]
  refine ((wkE F hF).ex (h1.ext hE2)).st he hB2 hres.symm fun d H3 n s3 e ha hB3 hU3 h3 ⟨q3, e3, g3, o3⟩ => ?_
  subst e3
  refine (w_must h3 [44]).st he hB3 e fun d H5 u s5 e ha hB5 hU5 h5 _ => ?_
  have hU25 := upU hU3 hU5
  refine ((wkE F hF).ex h5).st he hB5 e fun d H6 m s6 e ha hB6 hU6 h6 ⟨q6, e6, g6, o6⟩ => ?_
  subst e6
  refine give_lit (qs := [some q3, some q6]) hB6 hlb htb o2 hs2 (upU hU25 hU6) h6 (((OwnT.one o3).mv hU5 (by omega)).more hU6 (by omega) hU25.size o6) rfl fun H8 hB8 h8 o8 => ?_
  exact fin_ended h8 o8 hlb (own_ge o8) he hB8 e hk
theorem st_short {b tb : Nat} {s : PS} (h : PR H b tb s) (h0 : s.hd.kind ≠ 0) : Wk fQa7 [pA b] (.one (.c .ptr)) b tb H (shortP s) (NdO H) := by
  intro kp k he hk
  refine cQaz _ ?_
  unfold vQaz
  have hlb := h.lt
  have htb := h.tlt.1
  generalize hres : shortP s = res at *
  unfold shortP at hres
  refine s_next h fun H1 hE1 => Jn.mk (fun j H' => H1 = H' ∧ j = if nextB [100, 105, 101] s then (20 : Int) else 21) (fun kk hkk => by cases hn : nextB [100, 105, 101] s <;> exact hkk _ _ ⟨rfl, by rw [hn]; rfl⟩) ?_
  rintro j _ ⟨rfl, rfl⟩
  refine s_take (h.ext hE1) h0 fun H2 hU2 h2 => ?_
  have hB2 := upU (ExU hE1) hU2
  refine s_node (t := s.hd) (L := ⟨none, 0, 0⟩) (lo := H.size) lfO hB2.size fun H3 q hE3 hq o3 => ?_
  exact fin_ended (h2.ext hE3) o3 hlb (own_ge o3) he (upE hB2 hE3) hres.symm hk
theorem st_set (hF : F ≤ 2 ^ 30) {b tb : Nat} {s : PS} (h : PR H b tb s) (h0 : s.hd.kind ≠ 0) : Wk fQaz [pA b] (.one (.c .ptr)) b tb H (setP F s) (NdO H) := by
  intro kp k he hk
  refine cQas _ ?_
  unfold vQas
  have hlb := h.lt
  have htb := h.tlt.1
  generalize hres : setP F s = res at *
  unfold setP at hres
  simp only [adr_add]
  refine s_take h h0 fun H1 hU1 h1 => tok_new rfl fun b1 H5 hb1 hE5 r5 => s_may (h1.ext hE5) [46] fun H6 hU6 h6 => ?_
  have hs1 := hU1.size
  have hB6 := upU (upE hU1 hE5) hU6
  have hs6 := hB6.size
  have r6 := hU6.row r5 (by omega)
  cases hn : nextB [46] s.take with
  | true =>
    rw [hn, if_pos rfl] at hres h6
    refine (Br_true _ _).2 ((w_name h6).st he hB6 hres.symm fun d H7 t s7 e ha hB7 hU7 h7 et => ?_)
    subst et
    refine s_texted (t := t) (L := ⟨none, 0, 0⟩) (lo := H.size) lfO hB7.size fun H8 q hE8 hq o8 => ?_
    have hB8 := upE hB7 hE8
    refine (w_must (h7.ext hE8) [61]).st he hB8 e fun d H9 u s9 e ha hB9 hU9 h9 _ => ?_
    have r9 := hU9.row (hE8.row (hU7.row r6 (by omega)) fun h => h) (by omega)
    refine LdC_tok r9.rd_all (((wkE F hF).ex h9).st he hB9 e fun d H10 n s10 e ha hB10 hU10 h10 ⟨q10, e10, g10, o10⟩ => ?_)
    subst e10
    have r10 := hU10.row r9 (by omega)
    refine Stab_all (tok_st r10) (OwnT.lit (qs := [some q, some q10]) (((OwnT.one o8).mv hU9 hlb).more hU10 hlb hB9.size o10) hB10.size rfl fun b2 H11 hb2 hE11 o11 => ?_)
    have r11 := hE11.row r10 fun h => h
    refine Stab_all (tok_st r11) (s_texted o11 (upE hB10 hE11).size fun H12 q' hE12 hq' o12 => ?_)
    have r12 := hE12.row r11 fun h => h
    exact fin_ended2 ((h10.ext hE11).ext hE12) o12 hlb (own_ge o12) he (upE (upE hB10 hE11) hE12) e fun d H13 a s13 e13 hB13 hU13 h13 hN => Stab_all (tok_st (hU13.row r12 (by omega))) (hk d H13 a s13 e13 hB13 h13 hN)
  | false =>
    rw [hn, if_neg (by decide)] at hres h6
    refine (Br_false _ _).2 ((w_must h6 [61]).st he hB6 hres.symm fun d H9 u s9 e ha hB9 hU9 h9 _ => ?_)
    have r9 := hU9.row r6 (by omega)
    refine LdC_tok r9.rd_all (((wkE F hF).ex h9).st he hB9 e fun d H10 n s10 e ha hB10 hU10 h10 ⟨q10, e10, g10, o10⟩ => ?_)
    subst e10
    have r10 := hU10.row r9 (by omega)
    refine Stab_all (tok_st r10) (OwnT.lit (qs := [some q10]) (OwnT.one (o10.mono hB9.size)) hB10.size rfl fun b2 H11 hb2 hE11 o11 => ?_)
    have r11 := hE11.row r10 fun h => h
    refine Stab_all (tok_st r11) (s_texted o11 (upE hB10 hE11).size fun H12 q' hE12 hq' o12 => ?_)
    have r12 := hE12.row r11 fun h => h
    exact fin_ended2 ((h10.ext hE11).ext hE12) o12 hlb (own_ge o12) he (upE (upE hB10 hE11) hE12) e fun d H13 a s13 e13 hB13 hU13 h13 hN => Stab_all (tok_st (hU13.row r12 (by omega))) (hk d H13 a s13 e13 hB13 h13 hN)
theorem must_lv {w : Txt} {s s' : PS} {t : Tk} (h : mustP w s = some (.ok (t, s'))) : Lv s s' := by
  obtain ⟨_, _, rfl⟩ := must_ok h; exact ⟨rfl, rfl⟩
theorem name_lv {s s' : PS} {t : Tk} (h : nameP s = some (.ok (t, s'))) : Lv s s' := by
  obtain ⟨_, _, rfl⟩ := name_ok h; exact ⟨rfl, rfl⟩
theorem st_part (hF : F ≤ 2 ^ 30) {b tb : Nat} {s : PS} (h : PR H b tb s) : Wk fQbb [pA b] (.one (.c .ptr)) b tb H (partP F s) (NdO H) := by
  intro kp k he hk
  refine cQa1 _ ?_
  unfold vQa1
  have hlb := h.lt
  have htb := h.tlt.1
  generalize hres : partP F s = res at *
  unfold partP at hres
  refine (w_name h).st he (.refl _ _) hres.symm fun d H1 t s1 e ha hB1 _ h1 et => ?_
  have l1 := name_lv ha
  subst et
  refine s_texted (t := t) (L := ⟨none, 0, 0⟩) (lo := H.size) lfO hB1.size fun H2 q hE2 hq o2 => ?_
  have hB2 := upE hB1 hE2
  refine (w_down (h1.ext hE2) [123]).st he hB2 e fun d H3 t3 s3 e ha hB3 hU3 h3 _ => ?_
  obtain ⟨_, _, _, e3⟩ := down_ok ha
  have hd3 : s3.deep = s.deep + 1 := by rw [e3]; show s1.deep + 1 = _; rw [l1.1]
  simp only [NilCk_some, adr_add]
  have hdp := h.dp
  -- the values
  refine LoopT.ghost (fun m _ H' => ∃ l s', m ≤ F ∧ l.length + m ≤ F ∧ s'.deep = s.deep + 1 ∧ Upd (· = b) H H' ∧ PR H' b tb s' ∧ Ow H.size H' (texted 23 t l) q ∧ res = (partL F m l s').bind fun l s => (upP [125] s).bind fun _ s => retP (texted 23 t l) s) F ⟨[], s3, Nat.le_refl _, by simp, hd3, hB3, h3, o2.mv hU3 hlb, e⟩ ?_
  rintro next m _ H4 ⟨l, s', hm, hl, hd, hB4, h4, o4, e4⟩ hnext
  cases m with
  | zero => exact absurd e4 (by unfold partL; exact he.ne)
  | succ m =>
  unfold partL at e4
  refine s_next h4 fun H5 hE5 => ?_
  have h5 := h4.ext hE5
  have hB5 := upE hB4 hE5
  have o5 := o4.mv (ExU (b := b) hE5) hlb
  cases hn : nextB [125] s' with
  | true =>
    rw [hn, if_pos rfl] at e4
    refine (Br_false _ _).2 ((w_up h5 (by omega) [125]).st he hB5 e4 fun d H22 u s22 e ha hB22 hU22 h22 _ => ?_)
    exact hk _ H22 _ s22 e hB22 h22 ⟨q, rfl, own_ge o5, o5.mv hU22 hlb⟩
  | false =>
    rw [hn, if_neg (by decide)] at e4
    refine (Br_true _ _).2 ?_
    refine Jn.mk (fun _ H6 => ∃ n s6, s6.deep = s.deep + 1 ∧ Upd (· = b) H H6 ∧ PR H6 b tb s6 ∧ Ow H.size H6 (texted 23 t (l ++ [n])) q ∧ res = (partL F m (l ++ [n]) s6).bind fun l s => (upP [125] s).bind fun _ s => retP (texted 23 t l) s) (fun kk hkk => ?_) ?_
    rotate_left
    · rintro _ H6 ⟨n, s6, g1, g2, g3, g4, g5⟩
      exact hnext m _ _ (by omega) ⟨_, s6, by omega, by simp; omega, g1, g2, g3, g4, g5⟩
    simp only [bind_assoc] at e4
    have htl5 := h5.tlt
    have hlb5 := h5.lt
    refine (w_name h5).st he hB5 e4 fun d H7 t7 s7 e ha hB7 hU7 h7 et => ?_
    have l7 := name_lv ha
    subst et
    refine s_texted (t := t7) (L := ⟨none, 0, 0⟩) (lo := H5.size) lfO hU7.size fun H8 q6 hE8 hq6 o8 => ?_
    have hB8 := upE hB7 hE8
    have hU58 := upE hU7 hE8
    refine (w_must (h7.ext hE8) [58]).st he hB8 e fun d H9 u s9 e ha hB9 hU9 h9 _ => ?_
    have l9 := must_lv ha
    have hU59 := upU hU58 hU9
    refine ((wkE F hF).ex h9).st he hB9 e fun d H10 n s10 e ha hB10 hU10 h10 ⟨q10, e10, g10, o10⟩ => ?_
    subst e10
    have l10 := (exLv F).ex _ _ _ _ ha
    simp only [NilCk_some, adr_add]
    refine give_lit (B := H5) (qs := [some q10]) (upU hU59 hU10) hlb5 htl5.1 (o8.mv hU9 hlb5) hU59.size hU10 h10 (OwnT.one o10) rfl fun H12 hU12 h12 o12 => ?_
    have hM : ∀ x, H.size ≤ x → x < H5.size → ¬ x = b := fun x hx _ => by omega
    obtain ⟨L, g1, g2⟩ := Own.app o5 hB5.size (by omega)
    refine Ld_sl (g1 hU12 hM) (Nw_row (vs := [ptrV (some q6)]) fun b2 H13 hb2 hE13 _ hr13 => ?_)
    refine g2 (upE hU12 hE13) hM (o12.mv (ExU (b := b) hE13) hlb5) hr13 fun L' H14 _ hst => hst fun H15 hU15 o15 => ?_
    have hs5 := hB5.size
    have h15 : PR H15 b tb s10 := (h12.ext hE13).upd hU15 (by omega) (by omega) (by omega)
    have hB15 : Upd (· = b) H H15 := ((upU hB5 hU12).trans hE13 fun _ _ h => h.elim).trans hU15 fun c hc e => by omega
    refine s_next h15 fun H16 hE16 => ?_
    have h16 := h15.ext hE16
    have hB16 := upE hB15 hE16
    have o16 := o15.mv (ExU (b := b) hE16) hlb
    have hd10 : s10.deep = s.deep + 1 := by rw [l10.1, l9.1, l7.1]; exact hd
    refine Jn.mk (fun _ H17 => ∃ s17, s17.deep = s.deep + 1 ∧ Upd (· = b) H H17 ∧ PR H17 b tb s17 ∧ Ow H.size H17 (texted 23 t (l ++ [texted 24 t7 [n]])) q ∧ res = (partL F m (l ++ [texted 24 t7 [n]]) s17).bind fun l s => (upP [125] s).bind fun _ s => retP (texted 23 t l) s) (fun kk2 hkk2 => ?_) ?_
    rotate_left
    · rintro _ H17 ⟨s17, g1, g2, g3, g4, g5⟩
      exact hkk _ _ ⟨_, s17, g1, g2, g3, g4, g5⟩
    cases hn2 : nextB [125] s10 with
    | true =>
      simp only [hn2, if_true] at e
      exact hkk2 _ _ ⟨s10, hd10, hB16, h16, o16, e⟩
    | false =>
      simp only [hn2, Bool.false_eq_true, if_false, bind_assoc] at e
      refine (Br_true _ _).2 ((w_must h16 [44]).st he hB16 e fun d H18 u s18 e ha hB18 hU18 h18 _ => s_named h18 fun H19 hE19 => ?_)
      have l18 := must_lv ha
      have h19 := h18.ext hE19
      have hB19 := upE hB18 hE19
      refine Jn.mk (fun _ H' => H19 = H' ∧ namedB s18 = true) (fun kk3 hkk3 => ?_) ?_
      · cases hn3 : namedB s18 with
        | false =>
          simp only [hn3, Bool.false_eq_true, if_false] at e
          exact s_wrong (α := Unit) h19 ((he.mv hB19).to e).bad
        | true => exact hkk3 _ _ ⟨rfl, hn3⟩
      · rintro _ _ ⟨rfl, hn3⟩
        simp only [hn3, if_true] at e
        exact hkk2 _ _ ⟨s18, l18.1.trans hd10, hB19, h19, (o16.mv hU18 hlb).mv (ExU (b := b) hE19) hlb, e⟩
theorem st_add (hF : F ≤ 2 ^ 30) {b tb : Nat} {s : PS} (h : PR H b tb s) (h0 : s.hd.kind ≠ 0) : Wk fQa5 [pA b] (.one (.c .ptr)) b tb H (addP F s) (NdO H) := by
  intro kp k he hk
  refine cQax _ ?_
  unfold vQax
  have hlb := h.lt
  have htb := h.tlt.1
  generalize hres : addP F s = res at *
  unfold addP at hres
  refine s_take h h0 fun H1 hU1 h1 => s_node (t := s.hd) (L := ⟨none, 0, 0⟩) (lo := H.size) lfO hU1.size fun H2 q hE2 hq o2 => ?_
  have hB2 := upE hU1 hE2
  simp only [NilCk_some, adr_add]
  refine (st_part hF (h1.ext hE2)).st he hB2 hres.symm fun d H6 n s6 e ha hB6 hU6 h6 ⟨q6, e6, g6, o6⟩ => ?_
  subst e6
  refine give_lit (qs := [some q6]) hB6 hlb htb o2 hB2.size hU6 h6 (OwnT.one o6) rfl fun H8 hB8 h8 o8 => ?_
  exact fin_ended h8 o8 hlb (own_ge o8) he hB8 e hk
theorem st_spawn (hF : F ≤ 2 ^ 30) {b tb : Nat} {s : PS} (h : PR H b tb s) (h0 : s.hd.kind ≠ 0) : Wk fQa4 [pA b] (.one (.c .ptr)) b tb H (spawnP F s) (NdO H) := by
  intro kp k he hk
  refine cQaw _ ?_
  unfold vQaw
  have hlb := h.lt
  have htb := h.tlt.1
  generalize hres : spawnP F s = res at *
  unfold spawnP at hres
  refine s_take h h0 fun H1 hU1 h1 => s_node (t := s.hd) (L := ⟨none, 0, 0⟩) (lo := H.size) lfO hU1.size fun H2 q hE2 hq o2 => s_may (h1.ext hE2) [59] fun H3 hU3 h3 => ?_
  have hB3 := upU (upE hU1 hE2) hU3
  have o3 := o2.mv hU3 hlb
  simp only [NilCk_some, adr_add]
  cases hn : nextB [59] s.take with
  | true =>
    rw [hn, if_pos rfl] at hres h3
    exact hk _ H3 _ _ hres.symm hB3 h3 ⟨q, rfl, own_ge o3, o3⟩
  | false =>
  rw [hn, if_neg (by decide)] at hres h3
  refine (Br_false _ _).2 (add_child hB3 hlb htb o3 (by decide) (st_part hF h3) he hres.symm fun n s7 H7 e ha hB7 h7 o7 => ?_)
  refine LoopT.ghost (fun m _ H' => ∃ l s', m ≤ F ∧ l.length + m ≤ F + 1 ∧ Upd (· = b) H H' ∧ PR H' b tb s' ∧ Ow H.size H' (node 17 s.hd l) q ∧ res = (spawnL F m l s').bind fun l s2 => endP (node 17 s.hd l) s2) F ⟨[n], s7, Nat.le_refl _, by simp; omega, hB7, h7, o7, e⟩ ?_
  rintro next m _ H8 ⟨l, s', hm, hl, hB8, h8, o8, e8⟩ hnext
  cases m with
  | zero => exact absurd e8 (by unfold spawnL; exact he.ne)
  | succ m =>
  unfold spawnL at e8
  refine s_may h8 [44] fun H9 hU9 h9 => ?_
  have hB9 := upU hB8 hU9
  have o9 := o8.mv hU9 hlb
  cases hc : nextB [44] s' with
  | true =>
    rw [hc, if_pos rfl] at e8 h9
    rw [bind_assoc] at e8
    refine (Br_true _ _).2 (add_child hB9 hlb htb o9 (by omega) (st_part hF h9) he e8 fun n s7 H7 e ha hB7 h7 o7 => hnext m _ _ (by omega) ⟨_, s7, by omega, by simp; omega, hB7, h7, o7, e⟩)
  | false =>
    rw [hc, if_neg (by decide)] at e8 h9
    exact (Br_false _ _).2 (fin_ended h9 o9 hlb (own_ge o9) he hB9 e8 hk)
end
end Go.Proofs.YtfpmgpblhhcpgaaGreatDoor
