/-
  The condition of any operation, and that it gives the model's own 'Oper.wp'.
-/
import Derived.Test.YtlkmmplgfjicjaaDoorHcMem
namespace Go.Proofs.YtlkmmplgfjicjaaDoor.Hc
set_option linter.unusedVariables false
set_option linter.unusedSimpArgs false

def evL (F : AFrame) : List Operand → Option (List Value)
  | [] => some []
  | x :: xs => (ev F x).bind fun v => (evL F xs).map fun vs => v :: vs
def evP (F : AFrame) : List (Nat × Operand) → Option (List (Nat × Value))
  | [] => some []
  | (i, x) :: xs => (ev F x).bind fun v => (evP F xs).map fun vs => (i, v) :: vs
theorem evL_eval {n : Nat} {F : AFrame} {a : Act} (hag : Ag n F a) : ∀ {l : List Operand} {vs : List Value}, evL F l = some vs → l.map a.eval = vs
  | [], vs, h => by simp only [evL, Option.some.injEq] at h; subst h; rfl
  | x :: xs, vs, h => by
    simp only [evL, Option.bind_eq_some_iff, Option.map_eq_some_iff] at h
    obtain ⟨v, hv, us, hus, rfl⟩ := h
    simp [hag.ev hv, evL_eval hag hus]
theorem evP_eval {n : Nat} {F : AFrame} {a : Act} (hag : Ag n F a) : ∀ {l : List (Nat × Operand)} {vs : List (Nat × Value)}, evP F l = some vs → l.map (fun p => (p.1, a.eval p.2)) = vs
  | [], vs, h => by simp only [evP, Option.some.injEq] at h; subst h; rfl
  | (i, x) :: xs, vs, h => by
    simp only [evP, Option.bind_eq_some_iff, Option.map_eq_some_iff] at h
    obtain ⟨v, hv, us, hus, rfl⟩ := h
    simp [hag.ev hv, evP_eval hag hus]

def nextK (P : Program) (k : Value → Heap → Prop) : Next → Heap → Prop
  | .value v, H => k v H
  | .skip, H => k undef H
  | .enter f args, H => CallV P f args H k
  | _, _ => False

/-- 0: touches no memory · 1: reads · 2: acts · 3: not taken. -/
def kindOf (P : Program) (o : Oper) : Nat :=
  match o.op with
  | .load _ _ => 1
  | .store _ _ _ | .alloc _ | .box _ _ | .buildSlice _ _ _ | .makeSlice _ _ _ | .makeMap _ _ | .lookup _ _ _ _ | .mapUpdate _ _ _ _ | .insert _ _ _ _ => 2
  | .range t _ => match P.underlying t with
    | some (.map _ _) => 2
    | _ => 3
  | .next _ s => match s with
    | true => 3
    | false => 2
  | .convert s d _ => match P.underlying s, P.underlying d with
    | some (.slice _), some .string => 2
    | some .string, some (.slice _) => 2
    | some (.slice _), some (.slice _) => 2
    | _, _ => 0
  | .call c => match c.callee with
    | .builtin .len => (match c.argTypes.toList with
      | [t] => (match P.underlying t with
        | some (.map _ _) => 2
        | _ => 0)
      | _ => 0)
    | .builtin .cap | .builtin .min | .builtin .max => 0
    | _ => 2
  | .select _ _ | .go _ | .defer _ | .panic _ | .send _ _ | .recv _ _ _ => 3
  | _ => 0

def EAppend (P : Program) (sv xv : Value) (t u : TypeId) (H : Heap) (k : Value → Heap → Prop) : Prop :=
  match sv, P.underlying t with
  | .slice a l c, some (.slice e) => (match P.info? e with
    | some i => (match i.zero with
      | some z => (match xv, P.underlying u with
        | .slice a' l' c', some (.slice _) => App e i.size i.bytes z.cells ⟨a, l, c⟩ ⟨a', l', c'⟩ H fun s H' => k (.slice s.a s.len s.cap) H'
        | .string x, some .string => bif Nat.beq i.size 1 then AppStr e i.bytes z.cells ⟨a, l, c⟩ x H fun s H' => k (.slice s.a s.len s.cap) H' else False
        | _, _ => False)
      | none => False)
    | none => False)
  | _, _ => False
def ECopy (P : Program) (dv sv : Value) (t : TypeId) (H : Heap) (k : Value → Heap → Prop) : Prop :=
  match dv, sv, P.underlying t with
  | .slice a l c, .slice a' l' c', some (.slice e) => (match P.info? e with
    | some i => Cpy i.size ⟨a, l, c⟩ ⟨a', l', c'⟩ H fun n H' => k (.int .i64 n) H'
    | none => False)
  | _, _, _ => False
def EClear (P : Program) (sv : Value) (t : TypeId) (H : Heap) (k : Value → Heap → Prop) : Prop :=
  match sv, P.underlying t with
  | .slice a l c, some (.slice e) => (match P.info? e with
    | some i => (match i.zero with
      | some z => Clr z.cells ⟨a, l, c⟩ H fun H' => k (.tuple #[]) H'
      | none => False)
    | none => False)
  | _, _ => False
def ECall (P : Program) (c : Go.Call) (ty : TypeId) (F : AFrame) (H : Heap) (k : Value → Heap → Prop) : Prop :=
  match c.callee with
  | .value (.func g) => match evL F c.args.toList, rtyOf P ty with
    | some vs, some r => CallT P g vs r H fun d H' => k (r.emb d) H'
    | _, _ => False
  | .value f => match ev F f, evL F c.args.toList, rtyOf P ty with
    | some v, some vs, some r => CallX P v vs r H fun d H' => k (r.emb d) H'
    | _, _, _ => False
  | .builtin .len => match evL F c.args.toList, c.argTypes.toList with
    | some [m], [t] => (match P.underlying t with
      | some (.map _ _) => MpN m H fun n => k (.int .i64 n) H
      | _ => False)
    | _, _ => False
  | .builtin .append => match evL F c.args.toList, c.argTypes.toList with
    | some [s, x], [t, u] => EAppend P s x t u H k
    | _, _ => False
  | .builtin .copy => match evL F c.args.toList, c.argTypes.toList with
    | some [s, x], [t, _] => ECopy P s x t H k
    | _, _ => False
  | .builtin .clear => match evL F c.args.toList, c.argTypes.toList with
    | some [s], [t] => EClear P s t H k
    | _, _ => False
  | _ => False
/-- One step of an iteration over a map, its key and value typed. -/
def MpY (ka va : ATy) (it : Addr) (H : Heap) (kn : Heap → Prop) (ks : ka.den → va.den → Heap → Prop) : Prop :=
  MpX it H fun r H' => match r with
    | none => kn H'
    | some p => ∃ x y, p = (ka.emb x, va.emb y) ∧ ks x y H'
def MpYk (ka : ATy) (it : Addr) (H : Heap) (kn : Heap → Prop) (ks : ka.den → Value → Heap → Prop) : Prop :=
  MpX it H fun r H' => match r with
    | none => kn H'
    | some p => ∃ x y, p = (ka.emb x, y) ∧ ks x y H'
def EAct (P : Program) (o : Oper) (F : AFrame) (H : Heap) (k : Value → Heap → Prop) : Prop :=
  match o.op with
  | .store t x y => match ev F x, ev F y with
    | some (.pointer (some a)), some v => EStore P t a v H (k undef)
    | _, _ => False
  | .alloc e => match P.info? e with
    | some i => (match i.zero with
      | some z => Nw z.cells e H fun b H' => k (.pointer (some ⟨b, 0, none⟩)) H'
      | none => False)
    | none => False
  | .box e x => match ev F x with
    | some v => Nw v.cells e H fun b H' => k (.pointer (some ⟨b, 0, none⟩)) H'
    | none => False
  | .buildSlice t len parts => match P.underlying t, evP F parts.toList with
    | some (.slice e), some vs => (match P.info? e with
      | some i => (match i.zero with
        | some z => bif Nat.ble (len * i.size) (2 ^ 24) then (match Instr.fill (fun j => some (j * i.size, i.size)) (zcells z.cells (len * i.size)) vs with
          | some cs => Nw cs e H fun b H' => k (.slice (some ⟨b, 0, none⟩) len len) H'
          | none => False) else False
        | none => False)
      | none => False)
    | _, _ => False
  | .makeSlice t x y => match P.underlying t, ev F x, ev F y with
    | some (.slice e), some (.int _ l), some (.int _ c) => (match P.info? e with
      | some i => (match i.zero with
        | some z => Mks e i.size i.bytes z.cells l c H fun s H' => k (.slice s.a s.len s.cap) H'
        | none => False)
      | none => False)
    | _, _, _ => False
  | .convert s d x => match P.underlying s, P.underlying d, ev F x with
    | some (.slice e), some .string, some (.slice a l c) => (match P.underlying e with
      | some (.int .u8) => B2S ⟨a, l, c⟩ H fun r => k (.string r) H
      | _ => False)
    | some .string, some (.slice e), some (.string r) => (match P.underlying e with
      | some (.int .u8) => S2B e r H fun s H' => k (.slice s.a s.len s.cap) H'
      | _ => False)
    | some (.slice _), some (.slice e), some (.slice (some a) l c) => (match P.underlying e with
      | some (.int .u8) => bif Nat.beq s d then Mrk a H fun H' => k (.slice (some a) l c) H' else False
      | _ => False)
    | _, _, _ => False
  | .makeMap _ r => (match r with
    | none => MkM H k
    | some x => (match ev F x with
      | some (.int _ _) => bif Nat.beq 0 1 then False else False
      | _ => False))
  | .lookup t x i ok => match P.underlying t, ev F x, ev F i with
    | some (.map kt et), some m, some key => (match P.underlying kt, tyA P et, P.info? et with
      | some d, some a, some inf => bif keyD d then (match inf.zero with
        | some z => opt (a.un z) fun zd => MpL d a zd m key H fun x b => k (match ok with | true => .tuple #[a.emb x, .bool b] | false => a.emb x) H
        | none => False) else False
      | _, _, _ => False)
    | _, _, _ => False
  | .mapUpdate t x i y => match P.underlying t, ev F x, ev F i, ev F y with
    | some (.map kt _), some m, some key, some v => (match P.underlying kt with
      | some d => bif keyD d then MpU d m key v H (k undef) else False
      | none => False)
    | _, _, _, _ => False
  | .insert t x i y => match P.underlying t, ev F x, ev F i, ev F y with
    | some (.map kt _), some m, some key, some v => (match P.underlying kt with
      | some d => bif keyD d then MpU d m key v H (k undef) else False
      | none => False)
    | _, _, _, _ => False
  | .range t x => match P.underlying t, ev F x with
    | some (.map _ _), some m => MpR m H fun a H' => k (.pointer (some a)) H'
    | _, _ => False
  | .next x s => match s, ev F x, P.underlying o.type with
    | false, some (.pointer (some a)), some (.tuple ts) => (match ts.toList with
      | [_, kt, et] => (match tyA P kt, tyA P et with
        | some ka, some va => MpY ka va a H (fun H' => k (.tuple #[.bool false]) H') fun x y H' => k (.tuple #[.bool true, ka.emb x, va.emb y]) H'
        | some ka, none => MpYk ka a H (fun H' => k (.tuple #[.bool false]) H') fun x y H' => k (.tuple #[.bool true, ka.emb x, y]) H'
        | _, _ => False)
      | _ => False)
    | _, _, _ => False
  | .call c => ECall P c o.type F H k
  | _ => False

theorem SW_value {P : Program} {s : Sem Value} {k : Value → Heap → Prop} {H : Heap} (h : SW P s k H) : SW P (do pure (Next.value (← s))) (nextK P k) H := by
  rw [SW_bind]; exact SW_mono (fun _ _ h => h) h
theorem slFix {k : Value → Heap → Prop} {v : Value} {H' : Heap} : (∃ s : Sl, v = .slice s.a s.len s.cap ∧ k (.slice s.a s.len s.cap) H') → k v H' := by
  rintro ⟨s, rfl, h⟩; exact h

theorem ECall.sound {P : Program} {c : Go.Call} {ty : TypeId} {n : Nat} {F : AFrame} {a : Act} (hag : Ag n F a) {H : Heap} {k : Value → Heap → Prop} (h : ECall P c ty F H k) :
    SW P (do let d ← resolve a.eval c ty; invoke d.target d.args) (nextK P k) H := by
  unfold ECall at h
  split at h
  · rename_i g hc
    split at h
    · rename_i vs r hvs hr
      obtain ⟨⟨fn, hfn, hne, hbody⟩, hcall⟩ := h
      have hv := evL_eval hag hvs
      have hargs : c.args.map a.eval = ⟨vs⟩ := by rw [← hv]; apply Array.ext'; simp
      unfold resolve
      simp only [hc, Act.eval, Deferred.ofValue, SW_bind, SW_pure', invoke, callFunc, program, SW, hfn]
      simp only [hne, Bool.false_eq_true, if_false, hbody, SW_pure', nextK]
      intro w hw
      have harr : (#[] : Array Value) ++ c.args.map a.eval ++ #[] = ⟨vs⟩ := by
        rw [hargs]; apply Array.ext'; simp
      rw [harr]
      exact (hcall w hw).mono fun e w' ⟨he, d, h1, h2⟩ => ⟨he, _, h1, h2⟩
    · exact h.elim
  · rename_i f hnf hc
    split at h
    · rename_i v vs r hf hvs hr
      obtain ⟨g, fi, ca, rfl, ⟨fn, hfn, hne, hbody⟩, hcall⟩ := h
      have hv := evL_eval hag hvs
      have hargs : c.args.map a.eval = ⟨vs⟩ := by rw [← hv]; apply Array.ext'; simp
      unfold resolve
      simp only [hc, hag.ev hf, Deferred.ofValue, SW_bind, SW_pure', invoke, callFunc, program, SW, hfn]
      simp only [hne, Bool.false_eq_true, if_false, hbody, SW_pure', nextK]
      intro w hw
      have harr : fi ++ c.args.map a.eval ++ ca = ⟨fi.toList ++ (vs ++ ca.toList)⟩ := by
        rw [hargs]; apply Array.ext'; simp
      rw [harr]
      exact (hcall w hw).mono fun e w' ⟨he, d, h1, h2⟩ => ⟨he, _, h1, h2⟩
    · exact h.elim
  · rename_i hc
    split at h
    · rename_i m t hvs hts
      split at h
      · rename_i kt et ht
        have hv := evL_eval hag hvs
        have hargs : c.args.map a.eval = #[m] := by apply Array.ext'; simpa using hv
        have htys : c.argTypes = #[t] := by apply Array.ext'; simpa using hts
        unfold resolve
        simp only [hc, hargs, htys, SW_bind, SW_pure', invoke, builtin]
        exact SW_mono (fun v H' ⟨hH, n, hn, hk⟩ => by subst hH hn; exact hk) (MpN.sound ht h)
      · exact h.elim
    · exact h.elim
  · rename_i hc
    split at h
    · rename_i s x t u hvs hts
      have hv := evL_eval hag hvs
      have hargs : c.args.map a.eval = #[s, x] := by apply Array.ext'; simpa using hv
      have htys : c.argTypes = #[t, u] := by apply Array.ext'; simpa using hts
      unfold resolve
      simp only [hc, hargs, htys, SW_bind, SW_pure', invoke, builtin]
      refine SW_mono (fun v H' hk => ?_) (k := k) ?_
      · exact hk
      unfold EAppend at h
      split at h
      · rename_i b l cp e ht
        split at h
        · rename_i i hi
          split at h
          · rename_i z hz
            split at h
            · rename_i b' l' c' e' hu
              exact SW_mono (fun _ _ => slFix) (App.sound (s := ⟨b, l, cp⟩) (x := ⟨b', l', c'⟩) ht hu (by simp) hi hz h)
            · rename_i r hu
              cases hb : Nat.beq i.size 1 with
              | false => rw [hb] at h; exact h.elim
              | true =>
                rw [hb] at h
                exact SW_mono (fun _ _ => slFix) (AppStr.sound (s := ⟨b, l, cp⟩) ht hu hi hz (Nat.eq_of_beq_eq_true hb) h)
            · exact h.elim
          · exact h.elim
        · exact h.elim
      · exact h.elim
    · exact h.elim
  · rename_i hc
    split at h
    · rename_i s x t u hvs hts
      have hv := evL_eval hag hvs
      have hargs : c.args.map a.eval = #[s, x] := by apply Array.ext'; simpa using hv
      have htys : c.argTypes = #[t, u] := by apply Array.ext'; simpa using hts
      unfold resolve
      simp only [hc, hargs, htys, SW_bind, SW_pure', invoke, builtin]
      refine SW_mono (fun v H' hk => ?_) (k := k) ?_
      · exact hk
      unfold ECopy at h
      split at h
      · rename_i b l cp b' l' c' e ht
        split at h
        · rename_i i hi
          exact SW_mono (fun _ _ ⟨n, hn, hk⟩ => by subst hn; exact hk) (Cpy.sound (d := ⟨b, l, cp⟩) (s := ⟨b', l', c'⟩) ht hi h)
        · exact h.elim
      · exact h.elim
    · exact h.elim
  · rename_i hc
    split at h
    · rename_i s t hvs hts
      have hv := evL_eval hag hvs
      have hargs : c.args.map a.eval = #[s] := by apply Array.ext'; simpa using hv
      have htys : c.argTypes = #[t] := by apply Array.ext'; simpa using hts
      unfold resolve
      simp only [hc, hargs, htys, SW_bind, SW_pure', invoke, builtin]
      refine SW_mono (fun v H' hk => ?_) (k := k) ?_
      · exact hk
      unfold EClear at h
      split at h
      · rename_i b l cp e ht
        split at h
        · rename_i i hi
          split at h
          · rename_i z hz
            exact SW_mono (fun _ _ ⟨hn, hk⟩ => by subst hn; exact hk) (Clr.sound ht hi hz h)
          · exact h.elim
        · exact h.elim
      · exact h.elim
    · exact h.elim
  · exact h.elim

theorem EAct.sound {P : Program} {o : Oper} {n : Nat} {F : AFrame} {a : Act} (hag : Ag n F a) {H : Heap} {k : Value → Heap → Prop} (h : EAct P o F H k) :
    SW P (execOp a.eval o) (nextK P k) H := by
  unfold EAct at h
  split at h
  · rename_i t x y ho
    split at h
    · rename_i p v hp hv
      simp only [execOp, ho, SW_bind, hag.ev hp, hag.ev hv, Instr.storeAt, Instr.sureAddr, SW_pure']
      exact SW_mono (fun _ _ hk => hk) (EStore.sound h)
    · exact h.elim
  · rename_i e ho
    split at h
    · rename_i i hi
      split at h
      · rename_i z hz
        simp only [execOp, ho]
        refine SW_value ?_
        simp only [Instr.alloc, SW_bind, SW_zeroValue hi hz, newVar, SW_newRow, SW_pure']
        exact h
      · exact h.elim
    · exact h.elim
  · rename_i e x ho
    split at h
    · rename_i v hv
      simp only [execOp, ho, hag.ev hv]
      refine SW_value ?_
      simp only [Instr.box, SW_bind, newVar, SW_newRow, SW_pure']
      exact h
    · exact h.elim
  · rename_i t len parts ho
    split at h
    · rename_i e vs ht hvs
      split at h
      · rename_i i hi
        split at h
        · rename_i z hz
          cases hb : Nat.ble (len * i.size) (2 ^ 24) with
          | false => rw [hb] at h; exact h.elim
          | true =>
            rw [hb] at h
            simp only [cond_true] at h
            split at h
            · rename_i cs hcs
              have hle : len * i.size ≤ 2 ^ 24 := Nat.le_of_ble_eq_true hb
              have hv := evP_eval hag hvs
              have hparts : (parts.map fun (i, x) => (i, a.eval x)).toList = vs := by rw [← hv]; simp
              simp only [execOp, ho]
              refine SW_value ?_
              have hz0 : (len * i.size = 0) → (Array.range (len * i.size)).map ((#[] : Array Value)[· % (#[] : Array Value).size]!) = zcells z.cells (len * i.size) := by
                intro h0; rw [h0]; simp [zcells]
              simp only [Instr.buildSlice, SW_bind, SW_underlying ht, SW_sizeOf hi, SW_ite, hparts, Nat.not_lt.2 hle, gt_iff_lt, if_false, SW_pure']
              by_cases h0 : len * i.size = 0
              · simp only [h0, if_true]
                simp only [h0] at hz0 hcs
                rw [hz0 trivial, hcs]
                simp only [SW_bind, SW_newRow, SW_pure']
                exact h
              · simp only [h0, if_false, SW_zeroValue hi hz]
                unfold zcells at hcs
                rw [hcs]
                simp only [SW_bind, SW_newRow, SW_pure']
                exact h
            · exact h.elim
        · exact h.elim
      · exact h.elim
    · exact h.elim
  · rename_i t x y ho
    split at h
    · rename_i e k1 l k2 c ht hx hy
      split at h
      · rename_i i hi
        split at h
        · rename_i z hz
          simp only [execOp, ho, hag.ev hx, hag.ev hy]
          refine SW_value ?_
          exact SW_mono (fun _ _ => slFix) (Mks.sound ht hi hz h)
        · exact h.elim
      · exact h.elim
    · exact h.elim
  · rename_i s d x ho
    split at h
    · rename_i e b l c hs hd hx
      split at h
      · rename_i he
        simp only [execOp, ho, hag.ev hx]
        refine SW_value ?_
        simp only [convert, SW_bind, SW_underlying hs, SW_underlying hd, SW_underlying he]
        exact SW_mono (fun v H' ⟨hH, r, hr, hk⟩ => by subst hH hr; exact hk) (B2S.sound (s := ⟨b, l, c⟩) h)
      · exact h.elim
    · rename_i e r hs hd hx
      split at h
      · rename_i he
        simp only [execOp, ho, hag.ev hx]
        refine SW_value ?_
        simp only [convert, SW_bind, SW_underlying hs, SW_underlying hd, SW_underlying he]
        exact SW_mono (fun _ _ => slFix) (S2B.sound h)
      · exact h.elim
    · rename_i e' e b l c hs hd hx
      split at h
      · rename_i he
        cases hb : Nat.beq s d with
        | false => rw [hb] at h; exact h.elim
        | true =>
          rw [hb] at h
          obtain ⟨e2, n2, hsh, hk⟩ := (h : Mrk _ _ _)
          have hsd : s = d := Nat.eq_of_beq_eq_true hb
          subst hsd
          have hee : e' = e := by rw [hs] at hd; simpa using hd
          subst hee
          simp only [execOp, ho, hag.ev hx]
          refine SW_value ?_
          simp only [convert, SW_bind, SW_underlying hs, SW_underlying he, beq_self_eq_true, markStringish, shape, SW, hsh, freeze, SW_pure']
          exact hk
      · exact h.elim
    · exact h.elim
  · rename_i mt r ho
    split at h
    · simp only [execOp, ho]
      refine SW_value ?_
      simp only [Instr.makeMap, Option.map_none, SW_bind, SW_pure', newObj, SW]
      exact h
    · split at h
      · exact h.elim
      · exact h.elim
  · rename_i t x i ok ho
    split at h
    · rename_i kt et m key ht hx hi
      split at h
      · rename_i d b inf hkt hb hinf
        cases hkd : keyD d with
        | false => rw [hkd] at h; exact h.elim
        | true =>
          rw [hkd] at h
          simp only [cond_true] at h
          split at h
          · rename_i z hz
            obtain ⟨zd, hzd, h⟩ := opt_cases h
            simp only [execOp, ho, hag.ev hx, hag.ev hi]
            refine SW_value (SW_mono (fun v H' ⟨hH, x, bb, hv, hk⟩ => ?_) (MpL.sound (ok := ok) ht hkt hkd hinf hz hzd h))
            subst hH hv
            cases ok <;> exact hk
          · exact h.elim
      · exact h.elim
    · exact h.elim
  · rename_i t x i y ho
    split at h
    · rename_i kt et m key v ht hx hi hy
      split at h
      · rename_i d hkt
        cases hkd : keyD d with
        | false => rw [hkd] at h; exact h.elim
        | true =>
          rw [hkd] at h
          simp only [execOp, ho, hag.ev hx, hag.ev hi, hag.ev hy, SW_bind]
          exact SW_mono (fun _ _ hk => hk) (MpU.sound ht hkt hkd h)
      · exact h.elim
    · exact h.elim
  · rename_i t x i y ho
    split at h
    · rename_i kt et m key v ht hx hi hy
      split at h
      · rename_i d hkt
        cases hkd : keyD d with
        | false => rw [hkd] at h; exact h.elim
        | true =>
          rw [hkd] at h
          simp only [execOp, ho, hag.ev hx, hag.ev hi, hag.ev hy, SW_bind]
          exact SW_mono (fun _ _ hk => hk) (MpU.sound ht hkt hkd h)
      · exact h.elim
    · exact h.elim
  · rename_i t x ho
    split at h
    · rename_i kt et m ht hx
      simp only [execOp, ho, hag.ev hx]
      exact SW_value (SW_mono (fun v H' ⟨b, hv, hk⟩ => by subst hv; exact hk) (MpR.sound ht h))
    · exact h.elim
  · rename_i x s ho
    split at h
    · rename_i it ts hx hts
      split at h
      · rename_i bt kt et htl
        split at h
        · rename_i ka va hka hva
          simp only [execOp, ho, hag.ev hx]
          refine SW_value (SW_mono (fun v H' hk => ?_) (MpX.sound h))
          rcases hk with ⟨rfl, hk⟩ | ⟨x, y, rfl, dx, dy, he, hk⟩
          · exact hk
          · cases he; exact hk
        · rename_i ka hka hva
          simp only [execOp, ho, hag.ev hx]
          refine SW_value (SW_mono (fun v H' hk => ?_) (MpX.sound h))
          rcases hk with ⟨rfl, hk⟩ | ⟨x, y, rfl, dx, dy, he, hk⟩
          · exact hk
          · cases he; exact hk
        · exact h.elim
      · exact h.elim
    · exact h.elim
  · rename_i c ho
    simp only [execOp, ho]
    exact ECall.sound hag h
  · exact h.elim

/-- What any operation asks. -/
def EOp (P : Program) (o : Oper) (F : AFrame) (H : Heap) (k : Value → Heap → Prop) : Prop :=
  match kindOf P o with
  | 0 => EPure P o F fun v => k v H
  | 1 => ELoad P o F H fun v _ => k v H
  | 2 => EAct P o F H k
  | _ => False

theorem upon_of_SW {P : Program} {o : Oper} {a : Act} {w : World} {k : Value → Heap → Prop} {next : Act → World → Prop} {Q : Exit → Act → World → Prop}
    (h : SW P (execOp a.eval o) (nextK P k) w.heap) (hk : ∀ v w', SameEnv w w' → k v w'.heap → next (a.put o.dst v) w') : o.wp P a w next Q := by
  obtain ⟨nx, w', hr, he, hn⟩ := SW.sound h
  unfold Oper.wp
  rw [hr]
  cases nx <;> simp only [nextK] at hn
  case value v => exact hk v w' he hn
  case skip => exact hk undef w' he hn
  case enter f args => exact (hn w' rfl).mono fun e w'' ⟨he', v, hv, hkv⟩ => by subst hv; exact hk v w'' (he.trans he') hkv

theorem kindOf_select {P : Program} {o : Oper} (h : kindOf P o ≠ 3) : ∀ cs b, o.op ≠ .select cs b := by
  intro cs b he; exact h (by unfold kindOf; rw [he])

theorem EOp.sound {P : Program} {o : Oper} {n : Nat} {F : AFrame} {a : Act} (hag : Ag n F a) {w : World} {k : Value → Heap → Prop} {next : Act → World → Prop} {Q : Exit → Act → World → Prop}
    (h : EOp P o F w.heap k) (hk : ∀ v w', SameEnv w w' → k v w'.heap → next (a.put o.dst v) w') : o.wp P a w next Q := by
  unfold EOp at h
  split at h
  · rename_i hkind
    obtain ⟨v, hr, hv⟩ := EPure.sound hag (kindOf_select (P := P) (by rw [hkind]; decide)) h
    unfold Oper.wp
    rw [hr w]
    exact hk v w (.refl w) hv
  · obtain ⟨v, Ls, hr, hL, hv⟩ := ELoad.sound hag h
    unfold Oper.wp
    rw [hr w hL]
    exact hk v w (.refl w) hv
  · exact upon_of_SW (EAct.sound hag h) hk
  · exact h.elim
end Go.Proofs.YtlkmmplgfjicjaaDoor.Hc
