/-
  Places; the head of all laws; is what came out the document's?
-/
import Derived.Test.YtlkmmplgfjicjaaDoorLexF
namespace Go.Proofs.YtlkmmplgfjicjaaDoor
set_option linter.unusedVariables false
set_option linter.unusedSimpArgs false
open Go.Proofs.YtlkmmplgfjicjaaDoor.Hc Go.Proofs.YtlkmmplgfjicjaaDoor.Hc.Lex
set_option maxRecDepth 100000
variable {lo : Nat} {H : Heap} {s : ByteArray} {p : Nat}

/-! ### places -/
theorem clamp_ex (z : Nat) (at' : Int) : ∃ n : Nat, n ≤ z ∧ (if 0 < if (z : Int) < at' then (z : Int) else at' then if (z : Int) < at' then (z : Int) else at' else 0) = (n : Int) ∧ n = (min at' z).toNat := by
  refine ⟨(min at' z).toNat, by omega, ?_, rfl⟩
  split <;> split <;> omega
def lineI (s : ByteArray) (n : Nat) : Int := ((bs s).take n).count 10 + 1
def colI (s : ByteArray) (n : Nat) : Int := (n : Int) - Lib.lastIdx s 10 n
theorem lastIdx_bd (s : ByteArray) (c : Int) : ∀ k, -1 ≤ Lib.lastIdx s c k ∧ Lib.lastIdx s c k < (k : Int)
  | 0 => by simp [Lib.lastIdx]
  | k + 1 => by
    have := lastIdx_bd s c k
    unfold Lib.lastIdx
    split <;> omega
theorem data_get {s : ByteArray} {k : Nat} (h : k < s.size) : s.data[k]! = (bs s)[k]! := by
  have h1 : k < s.data.size := h
  rw [getElem!_pos s.data k h1, getElem!_pos (bs s) k (by rw [bs_size]; exact h)]
  simp [bs]
theorem lastIdx_pre {s t : ByteArray} (c : Int) : ∀ (k : Nat), (∀ j, j < k → s.data[j]! = t.data[j]!) → Lib.lastIdx s c k = Lib.lastIdx t c k
  | 0, _ => rfl
  | k + 1, h => by
    unfold Lib.lastIdx
    rw [h k (by omega), lastIdx_pre c k fun j hj => h j (by omega)]
theorem s_Place {at' : Int} {n : Nat} (hs : s.size ≤ 1000000000000000) (hn : n = (min at' s.size).toNat) {k : Int × Int → Heap → Prop} (hk : k (lineI s n, colI s n) H) :
    CallT Pg f_lex_Place [.string s, .int .i64 at'] (.tup [(.c (.int .i64)), (.c (.int .i64))]) H k := by
  refine c_lex_Place _ _ ?_
  unfold v_lex_Place
  obtain ⟨m, hm, he, hm2⟩ := clamp_ex s.size at'
  obtain rfl : m = n := by omega
  rw [he]
  refine StrS_bs (a := 0) (b := m) rfl rfl (by omega) hm ?_
  rw [List.drop_zero, Nat.sub_zero]
  have hsz : ((⟨⟨(bs s).take m⟩⟩ : ByteArray)).size = m := by
    show ((bs s).take m).length = m
    rw [List.length_take, bs_size]; omega
  have hcnt : ((bs s).take m).count 10 ≤ m := Nat.le_trans List.count_le_length (by rw [List.length_take]; omega)
  refine s_Count (c := 10) ?_
  have e1 : bs ⟨⟨(bs s).take m⟩⟩ = (bs s).take m := rfl
  rw [e1]
  refine Lt.mk (u := lineI s m) (by unfold lineI; rw [wrap_i64_id] <;> omega) (s_LastIndexByte (by rw [hsz]; omega) ?_)
  have e2 : Lib.lastIndexByte ⟨⟨(bs s).take m⟩⟩ 10 = Lib.lastIdx s 10 m := by
    unfold Lib.lastIndexByte
    rw [hsz]
    refine lastIdx_pre _ _ fun j hj => ?_
    rw [data_get (by rw [hsz]; exact hj), data_get (by omega), e1]
    rw [getElem!_pos _ j (by rw [List.length_take, bs_size]; omega), getElem!_pos (bs s) j (by rw [bs_size]; omega), List.getElem_take]
  rw [e2]
  have hb := lastIdx_bd s 10 m
  refine Lt.mk (u := colI s m) (by unfold colI; rw [hsz, wrap_i64_id] <;> omega) hk
theorem s_rPlace {at' : Int} {n : Nat} (hs : s.size ≤ 1000000000000000) (hn : n = (min at' s.size).toNat) {k : Int × Int → Heap → Prop} (hk : k (lineI s n, colI s n) H) :
    CallT Pg f_hindcastref09_Place [.string s, .int .i64 at'] (.tup [(.c (.int .i64)), (.c (.int .i64))]) H k := by
  refine c_hindcastref09_Place _ _ ?_
  unfold v_hindcastref09_Place
  obtain ⟨m, hm, he, hm2⟩ := clamp_ex s.size at'
  obtain rfl : m = n := by omega
  rw [he]
  refine LoopT.mk (fun (st : Int × Int × Int) H' => H = H' ∧ ∃ i : Nat, i ≤ m ∧ st = (lineI s i, colI s i, ((i : Nat) : Int))) (fun st _ => m - st.2.2.toNat) ⟨rfl, 0, Nat.zero_le _, rfl⟩ ?_
  rintro next _ _ ⟨rfl, i, hi, rfl⟩ hnext
  dsimp only
  refine Br_dec (fun hlt => ?_) fun hge => ?_
  · rcases drop_cases (bs s) i with ⟨e, _⟩ | ⟨c, t, hd, hl⟩
    · rw [bs_size] at e; omega
    have htk := take_succ_drop hd
    have hcnt : ((bs s).take i).count 10 ≤ i := Nat.le_trans List.count_le_length (by rw [List.length_take]; omega)
    have hb := lastIdx_bd s 10 i
    have hget : s.data[i]! = c := by
      rw [data_get (by omega), getElem!_pos (bs s) i hl]
      have := congrArg (fun l => l[0]?) hd
      simp only [List.getElem?_drop, Nat.add_zero, List.getElem?_cons_zero] at this
      rw [List.getElem?_eq_getElem hl] at this
      exact Option.some.inj this
    have nx : ∀ a b : Int, a = lineI s (i + 1) → b = colI s (i + 1) → Lt (IntKind.wrap .i64 ((i : Int) + 1)) fun t3 => next (a, b, t3) H := by
      rintro a b rfl rfl
      exact Lt.mk (u := ((i + 1 : Nat) : Int)) (by rw [wrap_i64_id] <;> omega) (hnext _ _ ⟨rfl, i + 1, by omega, rfl⟩ (by dsimp only; omega))
    refine Jn_in ?_
    refine Lt.mk (u := colI s i + 1) (by unfold colI; rw [wrap_i64_id] <;> omega) (StrI_bs hd rfl (Jn_in ?_))
    have e10 := beq_byte c 10 (by decide)
    refine Br.mk (fun h => ?_) fun h => ?_
    · have hc : c = 10 := by simpa using e10.symm.trans h
      subst hc
      refine Lt.mk (u := lineI s i + 1) (by unfold lineI; rw [wrap_i64_id] <;> omega) (nx _ _ ?_ ?_)
      · unfold lineI; rw [htk, List.count_append]; simp
      · have hx : Lib.lastIdx s 10 (i + 1) = i := by unfold Lib.lastIdx; rw [hget, if_pos (by decide)]
        dsimp only; unfold colI; rw [hx]; omega
    · have hc : c ≠ 10 := by simpa using e10.symm.trans h
      refine nx _ _ ?_ ?_
      · unfold lineI; rw [htk, List.count_append]
        have : [c].count 10 = 0 := List.count_eq_zero.2 (by simpa using fun e => hc e.symm)
        omega
      · have hx : Lib.lastIdx s 10 (i + 1) = Lib.lastIdx s 10 i := by
          conv => lhs; unfold Lib.lastIdx
          rw [hget, if_neg (fun e => hc (by apply UInt8.toNat_inj.1; simpa using (by omega : c.toNat = 10)))]
        dsimp only; unfold colI; rw [hx]; omega
  · obtain rfl : i = m := by omega
    exact hk

/-! ### tokens that read -/
abbrev RT (H : Heap) (s : Sl) (ts : List Tk) : Prop := RN tokV 3 H s ts ∧ ∀ a, s.a = some a → a.spot = none
theorem RT.ofVec {l : Sl} {ts : List Tk} (h : VecN H T_api_Token 3 l (tokVs ts)) : RT H l ts := ⟨h.rn tokV_len (by omega), h.spot⟩
theorem IxA_tok {l : Sl} {ts : List Tk} (h : RT H l ts) {i : Int} {j : Nat} (hj : i = j) (hl : j < ts.length) {k : Addr → Prop} (hk : ∀ a, hcells H a 0 (tokV ts[j]!) → k a) : IxA 3 l i k :=
  IxA_rn tokV_len h.1 h.2 (by omega) hj hl hk
theorem LdC_tok {a : Addr} {t : Tk} (h : hcells H a 0 (tokV t)) {k : Int × ByteArray × Int → Prop} (hk : k ((t.kind : Nat), ⟨⟨t.text⟩⟩, (t.at' : Nat))) : LdC [(.int .i64), .str, (.int .i64)] a H k := ⟨(((t.kind : Nat) : Int), (⟨⟨t.text⟩⟩ : ByteArray), ((t.at' : Nat) : Int)), h, hk⟩
theorem eqL_tok (a b : Tk) : eqL [(.int .i64), .str, (.int .i64)] ((a.kind : Nat), (⟨⟨a.text⟩⟩ : ByteArray), (a.at' : Nat)) ((b.kind : Nat), (⟨⟨b.text⟩⟩ : ByteArray), (b.at' : Nat)) = decide (a = b) := by
  obtain ⟨k, x, p⟩ := a
  obtain ⟨k2, x2, p2⟩ := b
  simp only [eqL, eqT]
  rw [beq_bs]
  rw [Bool.eq_iff_iff]
  simp only [Bool.and_eq_true, beq_iff_eq, decide_eq_true_eq, Tk.mk.injEq]
  constructor
  · rintro ⟨h1, h2, h3⟩
    have h1' : ((k : Nat) : Int) = (k2 : Nat) := h1
    have h3' : ((p : Nat) : Int) = (p2 : Nat) := h3
    exact ⟨by omega, h2, by omega⟩
  · rintro ⟨rfl, rfl, rfl⟩; exact ⟨rfl, rfl, rfl⟩
/-- The same, however its right side is written. -/
theorem eqL_tok' (a b : Tk) {x y : Int} {z : ByteArray} (h1 : x = (b.kind : Nat)) (h2 : bs z = b.text) (h3 : y = (b.at' : Nat)) : eqL [(.int .i64), .str, (.int .i64)] ((a.kind : Nat), (⟨⟨a.text⟩⟩ : ByteArray), (a.at' : Nat)) (x, z, y) = decide (a = b) := by
  subst h1 h3
  have : z = ⟨⟨b.text⟩⟩ := bs_inj h2
  subst this
  exact eqL_tok a b

theorem Br_tok (a b : Tk) {x y : Int} {z : ByteArray} (h1 : x = (b.kind : Nat)) (h2 : bs z = b.text) (h3 : y = (b.at' : Nat)) {X Y : Prop} (hX : a = b → X) (hY : a ≠ b → Y) : Br (eqL [(.int .i64), .str, (.int .i64)] (((a.kind : Nat) : Int), (⟨⟨a.text⟩⟩ : ByteArray), ((a.at' : Nat) : Int)) (x, z, y)) X Y := by
  rw [eqL_tok' a b h1 h2 h3]
  exact Br_dec hX hY
/-! ### the head of all laws -/
def shownS : ByteArray := ⟨#[120, 49, 32, 61, 32, 45, 49, 50, 59, 32, 47, 47, 32, 110, 111]⟩
def shownT : List Tk := [⟨1, [120, 49], 0⟩, ⟨3, [61], 3⟩, ⟨3, [45], 5⟩, ⟨2, [49, 50], 6⟩, ⟨3, [59], 8⟩, ⟨0, [], 15⟩]
theorem lex_shown : lexS shownS = .ok shownT := by rfl
theorem lex_012 : lexS ⟨#[48, 49, 50]⟩ = .error (0, 90) := by rfl
theorem s_shown (hg : GE H.size H) {k : Bool → Heap → Prop} (hk : ∀ H', Ext H H' → k true H') : CallT Pg f_hindcastlaw09_shown [] (.one (.c .bool)) H k := by
  refine c_hindcastlaw09_shown ?_
  unfold v_hindcastlaw09_shown
  refine s_Lex (s := shownS) hg fun r H1 hE1 ho1 => ?_
  have hg1 : GE H1.size H1 := by have := hg.ext hE1; exact ⟨Nat.le_trans hg.lt hE1.size, this.mx, this.er⟩
  refine s_Lex (s := ⟨#[48, 49, 50]⟩) hg1 fun r2 H2 hE2 ho2 => ?_
  unfold LexOut at ho1 ho2
  rw [lex_shown] at ho1
  rw [lex_012] at ho2
  obtain ⟨e1, hv, _⟩ := ho1
  obtain ⟨e2, f, e3, hf, hr⟩ := ho2
  refine s_Place (n := 3) (by decide) (by decide) ?_
  have hT := RT.ofVec (hv.upd hE2 fun _ _ h => h)
  have hlen : r.1.len = 6 := hT.1.len
  refine Jn.mk (fun j H' => H2 = H' ∧ j = true) (fun kk hkk => ?_) (by rintro j _ ⟨rfl, rfl⟩; exact hk _ (hE1.trans hE2 fun _ _ h => h))
  rw [e1, e3]
  refine .inl ⟨rfl, .inr ⟨⟨_, _, rfl⟩, ?_⟩⟩
  rw [hlen]
  refine IxA_tok hT (j := 0) rfl (by decide) fun a ha => LdC_tok ha ?_
  refine Br_tok shownT[0]! ⟨1, [120, 49], 0⟩ rfl rfl rfl (fun _ => ?_) (fun h => absurd rfl h)
  refine IxA_tok hT (j := 3) rfl (by decide) fun a ha => LdC_tok ha ?_
  refine Br_tok shownT[3]! ⟨2, [49, 50], 6⟩ rfl rfl rfl (fun _ => ?_) (fun h => absurd rfl h)
  refine IxA_tok hT (j := 5) rfl (by decide) fun a ha => LdC_tok ha ?_
  refine Br_tok shownT[5]! ⟨0, [], 15⟩ rfl rfl rfl (fun _ => ?_) (fun h => absurd rfl h)
  exact hkk _ _ ⟨rfl, by decide⟩
theorem GE.up {H' : Heap} (h : GE H.size H) (hE : Ext H H') : GE H'.size H' := by have := h.ext hE; exact ⟨Nat.le_trans h.lt hE.size, this.mx, this.er⟩

/-- LexPlaces. -/
theorem w_Places {at' : Int} (hg : GE H.size H) (hs : s.size ≤ 1000000000000000) : CallT Pg f_hindcastlaw09_LexPlaces [.string s, .int .i64 at'] (.one (.c .bool)) H fun b H' => b = true ∧ Ext H H' := by
  refine c_hindcastlaw09_LexPlaces _ _ ?_
  unfold v_hindcastlaw09_LexPlaces
  refine s_shown hg fun H1 hE => s_Place hs rfl (s_rPlace hs rfl (Jn_in ?_))
  dsimp only
  rw [beq_self_eq_true, beq_self_eq_true]
  exact ⟨rfl, hE⟩
end Go.Proofs.YtlkmmplgfjicjaaDoor
