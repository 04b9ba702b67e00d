/-
  The condition of each operation, and that it gives the operation's own run.
-/
import Derived.Test.YtlkmmplgfjicjaaDoorHcOps
import Derived.ChangeKeysEq
namespace Go.Proofs.YtlkmmplgfjicjaaDoor.Hc
set_option linter.unusedVariables false
set_option linter.unusedSimpArgs false

/-! ### types -/
def tyC (P : Program) : Nat → TypeId → Option (List CTy)
  | 0, _ => none
  | d + 1, t => match P.underlying t with
    | some (.int k) => some [.int k]
    | some .bool => some [.bool]
    | some .string => some [.str]
    | some (.pointer _) => some [.ptr]
    | some (.slice _) => some [.sl]
    | some (.struct fs) => fs.toList.foldr (fun f acc => (tyC P d f.type).bind fun l => acc.map fun m => l ++ m) (some [])
    | some (.array n e) => bif Nat.ble n 16 then (tyC P d e).map fun l => (List.replicate n l).flatten else none
    | some (.map _ _) | some (.interface _) | some (.func _ _ _) | some (.chan _ _) | some (.float _) => some [.raw]
    | _ => none
def tyA (P : Program) (t : TypeId) : Option ATy :=
  match P.underlying t with
  | some (.struct _) => (tyC P 8 t).map .agg
  | some (.array n e) => bif Nat.ble n 16 then (tyC P 8 t).map .agg else (match tyC P 8 e with | some [c] => some (.big n c) | _ => none)
  | some (.int k) => some (.c (.int k))
  | some .bool => some (.c .bool)
  | some .string => some (.c .str)
  | some (.pointer _) => some (.c .ptr)
  | some (.slice _) => some (.c .sl)
  | some (.map _ _) | some (.interface _) | some (.func _ _ _) | some (.chan _ _) | some (.float _) => some (.c .raw)
  | _ => none
def tyAs (P : Program) : List TypeId → Option (List ATy)
  | [] => some []
  | t :: ts => (tyA P t).bind fun a => (tyAs P ts).map fun l => a :: l
def rtyOf (P : Program) (t : TypeId) : Option RTy :=
  match P.underlying t with
  | some (.tuple ts) => (tyAs P ts.toList).map .tup
  | _ => (tyA P t).map .one

theorem tyA_c {P : Program} {t : TypeId} {c : CTy} (h : tyA P t = some (.c c)) (w : World) : (isAgg t).run P w = .ok false w := by
  unfold tyA at h
  unfold isAgg
  split at h <;> first
    | (simp only [Option.map_eq_some_iff, reduceCtorEq, and_false, exists_false] at h; done)
    | (rename_i hu; simp only [Sem.run_bind, run_underlying hu, Result.andThen_ok]; rfl)
    | (rename_i n e hu
       exfalso
       cases hb : Nat.ble n 16 with
       | true => rw [hb] at h; simp only [cond_true, Option.map_eq_some_iff, reduceCtorEq, and_false, exists_false] at h
       | false => rw [hb] at h; simp only [cond_false] at h; split at h <;> simp at h)
    | cases h
theorem tyA_agg {P : Program} {t : TypeId} {l : List CTy} (h : tyA P t = some (.agg l)) (w : World) : (isAgg t).run P w = .ok true w := by
  unfold tyA at h
  unfold isAgg
  split at h <;> first
    | (rename_i hu; simp only [Sem.run_bind, run_underlying hu, Result.andThen_ok]; rfl)
    | (simp only [Option.some.injEq, reduceCtorEq] at h; done)
    | cases h
theorem tyA_big {P : Program} {t : TypeId} {n : Nat} {c : CTy} (h : tyA P t = some (.big n c)) (w : World) : (isAgg t).run P w = .ok true w := by
  unfold tyA at h
  unfold isAgg
  split at h <;> first
    | (rename_i hu; simp only [Sem.run_bind, run_underlying hu, Result.andThen_ok]; rfl)
    | (simp only [Option.some.injEq, reduceCtorEq] at h; done)
    | cases h
/-! ### pure operations, all of them -/
def known (F : AFrame) (o : Oper) : Bool := o.op.operands.toList.all fun x => (ev F x).isSome
def evI (F : AFrame) (d : Int) : Option Operand → Option Int
  | none => some d
  | some x => match ev F x with
    | some (.int _ i) => some i
    | _ => none
def EPure (P : Program) (o : Oper) (F : AFrame) (kk : Value → Prop) : Prop :=
  match o.op with
  | .move x => opt (ev F x) kk
  | .assign x => opt (ev F x) kk
  | .pick c a b => match ev F c with
    | some (.bool t) => Br t (opt (ev F a) kk) (opt (ev F b) kk)
    | _ => False
  | .nilCheck x => match ev F x with
    | some (.pointer p) => NilCk p fun a => kk (.pointer (some a))
    | some (.func (.func f) fi ca) => kk (.func (.func f) fi ca)
    | _ => False
  | .binOp op t x y _ => match ev F x, ev F y with
    | some v, some u => EBin P op t x y v u kk
    | _, _ => False
  | .indexAddr t x ix => match ev F x, ev F ix, P.underlying t with
    | some (.slice a l c), some (.int _ i), some (.slice e) => (match P.info? e with
      | some f => IxA f.size ⟨a, l, c⟩ i fun p => kk (.pointer (some p))
      | none => False)
    | some (.pointer (some a)), some (.int _ i), some (.array n e) => (match P.info? e with
      | some f => IxR f.size n a i fun p => kk (.pointer (some p))
      | none => False)
    | _, _, _ => False
  | .typeAssert x _ T ok => match ev F x, tyA P T, P.underlying T with
    | some _, some _, some (.interface _) => False
    | some v, some a, some _ => (match ok with
      | true => (match P.info? T with
        | some i => (match i.zero with
          | some z => opt (a.un z) fun zd => TAs a T zd v fun d b => kk (.tuple #[a.emb d, .bool b])
          | none => False)
        | none => False)
      | false => TAs1 a T v fun d => kk (a.emb d))
    | _, _, _ => False
  | .index t x ix => match tyA P t, ev F x, ev F ix, P.underlying t with
   | some (.big _ _), some v, some (.int _ i), some (.array n e) => (match tyA P e, P.info? e with
      | some (.c c), some f => bif Nat.beq f.size 1 then ArX c n v i fun d => kk (c.emb d) else False
      | _, _ => False)
   | _, _, _, _ => match ev F x, ev F ix, P.underlying t with
    | some (.string s), some (.int _ i), some .string => StrI s i fun b => kk (.int .u8 b)
    | some (.agg cs), some (.int _ i), some (.array n e) => (match tyA P e, P.info? e with
      | some (.c c), some f => bif Nat.beq f.size 1 then ArI c n cs i fun d => kk (c.emb d) else False
      | _, _ => False)
    | _, _, _ => False
  | .slice t x lo hi mx => match ev F x, P.underlying t with
    | some (.slice a l c), some (.slice e) => (match P.info? e, evI F 0 lo, evI F l hi, evI F c mx, hi, mx with
      | some f, some lo, some h, some m, some _, _ => SlA f.size ⟨a, l, c⟩ lo h m fun s => kk (.slice s.a s.len s.cap)
      | some f, some lo, some h, some m, none, none => SlA f.size ⟨a, l, c⟩ lo h m fun s => kk (.slice s.a s.len s.cap)
      | _, _, _, _, _, _ => False)
    | some (.string s), some .string => (match evI F 0 lo, evI F s.size hi, mx with
      | some lo, some hi, none => StrS s lo hi fun r => kk (.string r)
      | _, _, _ => False)
    | _, _ => False
  | _ => bif known F o then SP P (execOp (rho F) o) (fun nx => match nx with | .value v => kk v | _ => False) else False

theorem run_sizeOf' {P : Program} {t : TypeId} {i : TypeInfo} (h : P.info? t = some i) (w : World) : (sizeOf t).run P w = .ok i.size w := by
  simp [sizeOf, typeInfo, h]

theorem execOp_rho {n : Nat} {F : AFrame} {a : Act} (hag : Ag n F a) {o : Oper} (hs : ∀ cs b, o.op ≠ .select cs b) (hk : known F o = true) :
    execOp a.eval o = execOp (rho F) o := by
  refine execOp_congr o hs fun x hx => ?_
  simp only [known, List.all_eq_true] at hk
  obtain ⟨v, hv⟩ := Option.isSome_iff_exists.1 (hk x (by simpa using hx))
  rw [hag.ev hv, rho, hv]; rfl

theorem opt_cases {α : Type} {v : Option α} {k : α → Prop} (h : opt v k) : ∃ x, v = some x ∧ k x := by
  cases v with
  | none => exact h.elim
  | some x => exact ⟨x, rfl, h⟩

theorem evI_cases {n : Nat} {F : AFrame} {a : Act} (hag : Ag n F a) {d i : Int} {x : Option Operand} (h : evI F d x = some i) :
    (x = none ∧ i = d) ∨ ∃ y k, x = some y ∧ a.eval y = .int k i := by
  cases x with
  | none => simp only [evI, Option.some.injEq] at h; exact .inl ⟨rfl, h.symm⟩
  | some y =>
    right
    simp only [evI] at h
    split at h
    · rename_i k j he
      simp only [Option.some.injEq] at h; subst h
      exact ⟨y, k, rfl, hag.ev he⟩
    · cases h

/-- A bound of a slice expression: not given, or a number. -/
def Bnd (v : Option Value) (d i : Int) : Prop := (v = none ∧ i = d) ∨ ∃ k, v = some (.int k i)
theorem run_bounds {P : Program} {w : World} {isSlice : Bool} {len cap : Nat} {lo hi mx : Option Value} {l h m : Int}
    (hl : Bnd lo 0 l) (hh : Bnd hi len h) (hm : Bnd mx cap m) (hs : hi.isSome = true ∨ mx = none) (h0 : 0 ≤ l) (h1 : l ≤ h) (h2 : h ≤ m) (h3 : m ≤ cap) :
    (Instr.sliceBounds isSlice len cap lo hi mx).run P w = .ok (l.toNat, h.toNat, m.toNat) w := by
  have em : (m.toNat : Int) = m := Int.toNat_of_nonneg (by omega)
  have eh : (h.toNat : Int) = h := Int.toNat_of_nonneg (by omega)
  unfold Instr.sliceBounds
  have bm : ∀ k code, (Instr.sliceBound (.int k m) cap code).run P w = .ok m.toNat w := fun k code => run_sliceBound w k m cap code (by omega) (by omega)
  have bh : ∀ k code, (Instr.sliceBound (.int k h) m.toNat code).run P w = .ok h.toNat w := fun k code => run_sliceBound w k h m.toNat code (by omega) (by omega)
  have bl : ∀ k code, (Instr.sliceBound (.int k l) h.toNat code).run P w = .ok l.toNat w := fun k code => run_sliceBound w k l h.toNat code (by omega) (by omega)
  rcases hl with ⟨rfl, rfl⟩ | ⟨kl, rfl⟩ <;> rcases hh with ⟨rfl, rfl⟩ | ⟨kh, rfl⟩ <;> rcases hm with ⟨rfl, rfl⟩ | ⟨km, rfl⟩ <;>
    first
      | (rcases hs with hs | hs <;> simp at hs; done)
      | (simp only [Sem.run_bind, Sem.run_pure, Result.andThen_ok, bm, bh, bl]; done)
      | (simp only [Sem.run_bind, Sem.run_pure, Result.andThen_ok, bm, bh, bl, Int.toNat_natCast]; done)
      | (simp only [Int.toNat_natCast] at bh bl ⊢; simp only [Sem.run_bind, Sem.run_pure, Result.andThen_ok, bm, bh, bl, Int.toNat_natCast]; done)
      | (simp only [Int.toNat_natCast] at bh bl ⊢; simp only [Sem.run_bind, Sem.run_pure, Result.andThen_ok, bm, bh, bl, Int.toNat_natCast]; rfl)

theorem evI_bnd {n : Nat} {F : AFrame} {a : Act} (hag : Ag n F a) {d i : Int} {x : Option Operand} (h : evI F d x = some i) : Bnd (x.map a.eval) d i := by
  rcases evI_cases hag h with ⟨rfl, rfl⟩ | ⟨y, k, rfl, e⟩
  · exact .inl ⟨rfl, rfl⟩
  · exact .inr ⟨k, by simp [e]⟩

theorem EPure.sound {P : Program} {o : Oper} {n : Nat} {F : AFrame} {a : Act} (hag : Ag n F a) (hs : ∀ cs b, o.op ≠ .select cs b) {kk : Value → Prop} (h : EPure P o F kk) :
    ∃ v, (∀ w, (execOp a.eval o).run P w = .ok (.value v) w) ∧ kk v := by
  unfold EPure at h
  split at h
  case h_1 x hx => obtain ⟨v, hv, hk⟩ := opt_cases h; exact ⟨v, fun w => by simp [execOp, hx, hag.ev hv], hk⟩
  case h_2 x hx => obtain ⟨v, hv, hk⟩ := opt_cases h; exact ⟨v, fun w => by simp [execOp, hx, hag.ev hv], hk⟩
  case h_3 c x y hx =>
    split at h
    · rename_i t hc
      cases t with
      | true => obtain ⟨v, hv, hk⟩ := opt_cases (h : opt _ _); exact ⟨v, fun w => by simp [execOp, hx, hag.ev hv, hag.ev hc, asBool], hk⟩
      | false => obtain ⟨v, hv, hk⟩ := opt_cases (h : opt _ _); exact ⟨v, fun w => by simp [execOp, hx, hag.ev hv, hag.ev hc, asBool], hk⟩
    · exact h.elim
  case h_4 x hx =>
    split at h
    · rename_i p hp
      obtain ⟨b, rfl, hk⟩ := h
      exact ⟨_, fun w => by simp [execOp, hx, hag.ev hp], hk⟩
    · rename_i f fi ca hp
      exact ⟨_, fun w => by simp [execOp, hx, hag.ev hp], h⟩
    · exact h.elim
  case h_5 op t x y ty hx =>
    split at h
    · rename_i v u hv hu
      obtain ⟨r, hr, hk⟩ := h.sound
      refine ⟨r, fun w => ?_, hk⟩
      have := hr w
      simp only [execOp, hx, hag.ev hv, hag.ev hu]
      simp only [Sem.run_bind] at this ⊢
      rw [this]; rfl
    · exact h.elim
  case h_6 t x ix hx =>
    split at h
    · rename_i b l c k i e hb hi ht
      split at h
      · rename_i f hf
        obtain ⟨p, hp, h0, h1, hk⟩ := h
        dsimp only at hp h1; subst hp
        exact ⟨_, fun w => by simp [execOp, hx, hag.ev hb, hag.ev hi, Instr.indexAt, run_underlying ht, asIntOf, h0, h1, run_sizeOf' hf], hk⟩
      · exact h.elim
    · rename_i b k i m e hb hi ht
      split at h
      · rename_i f hf
        obtain ⟨h0, h1, hk⟩ := h
        exact ⟨_, fun w => by simp [execOp, hx, hag.ev hb, hag.ev hi, Instr.indexAt, Instr.sureAddr, run_underlying ht, asIntOf, h0, h1, run_sizeOf' hf], hk⟩
      · exact h.elim
    · exact h.elim
  case h_7 x xt T ok hx =>
    split at h
    · exact h.elim
    · rename_i v b d hni hv hb hd
      have hnot : ∀ ms, d ≠ .interface ms := fun ms e => hni ms e
      cases ok with
      | true =>
        simp only at h
        split at h
        · rename_i i hi
          split at h
          · rename_i z hz
            obtain ⟨zd, hzd, h⟩ := opt_cases h
            rcases h with ⟨dd, rfl, hk⟩ | ⟨hn, hk⟩
            · refine ⟨_, fun w => ?_, hk⟩
              simp only [execOp, hx, hag.ev hv, Instr.typeAssert, Sem.run_bind, run_underlying hd, Result.andThen_ok]
              cases d <;> first | exact absurd rfl (hnot _) | simp
            · refine ⟨_, fun w => ?_, hk⟩
              have hzv : (zeroValue T).run P w = .ok z w := by
                simp [zeroValue, typeInfo, hi, hz]
              have hz' := ATy.un_emb hzd
              subst hz'
              rcases hn with rfl | ⟨t', x', rfl, hne⟩
              · simp only [execOp, hx, hag.ev hv, Instr.typeAssert, Sem.run_bind, run_underlying hd, Result.andThen_ok]
                cases d <;> first | exact absurd rfl (hnot _) | simp [hzv]
              · simp only [execOp, hx, hag.ev hv, Instr.typeAssert, Sem.run_bind, run_underlying hd, Result.andThen_ok]
                cases d <;> first | exact absurd rfl (hnot _) | simp [hzv, hne]
          · exact h.elim
        · exact h.elim
      | false =>
        obtain ⟨dd, rfl, hk⟩ := h
        refine ⟨_, fun w => ?_, hk⟩
        simp only [execOp, hx, hag.ev hv, Instr.typeAssert, Sem.run_bind, run_underlying hd, Result.andThen_ok]
        cases d <;> first | exact absurd rfl (hnot _) | simp
    · exact h.elim
  case h_8 t x ix hx =>
    split at h
    · rename_i v k i n' c' n e hbig hb hi ht
      split at h
      · rename_i c f hc hf
        cases hbq : Nat.beq f.size 1 with
        | false => rw [hbq] at h; exact h.elim
        | true =>
          rw [hbq] at h
          obtain ⟨cs, rfl, d, h0, h1, h2, hk⟩ := (h : ArX _ _ _ _ _)
          have hsz : f.size = 1 := Nat.eq_of_beq_eq_true hbq
          refine ⟨_, fun w => ?_, hk⟩
          simp only [execOp, hx, hag.ev hb, hag.ev hi, Instr.index, Sem.run_bind, run_underlying ht, asIntOf, Sem.run_pure, Result.andThen_ok, Sem.run_ite, h0, h1, and_self, if_true, run_sizeOf' hf, hsz, Nat.mul_one, part, tyA_c hc, Bool.false_eq_true, if_false, h2]
      · exact h.elim
    split at h
    · rename_i s k i hb hi ht
      obtain ⟨b, h0, h1, hk⟩ := h
      exact ⟨_, fun w => by simp [execOp, hx, hag.ev hb, hag.ev hi, Instr.index, run_underlying ht, asIntOf, h0, h1], hk⟩
    · rename_i cs k i m e hb hi ht
      split at h
      · rename_i c f hc hf
        cases hbq : Nat.beq f.size 1 with
        | false => rw [hbq] at h; exact h.elim
        | true =>
          rw [hbq] at h
          obtain ⟨d, h0, h1, h2, hk⟩ := (h : ArI _ _ _ _ _)
          have hsz : f.size = 1 := Nat.eq_of_beq_eq_true hbq
          refine ⟨_, fun w => ?_, hk⟩
          simp only [execOp, hx, hag.ev hb, hag.ev hi, Instr.index, Sem.run_bind, run_underlying ht, asIntOf, Sem.run_pure, Result.andThen_ok, Sem.run_ite, h0, h1, and_self, if_true, run_sizeOf' hf, hsz, Nat.mul_one, part, tyA_c hc, Bool.false_eq_true, if_false, h2]
      · exact h.elim
    · exact h.elim
  case h_9 t x lo hi mx hx =>
    split at h
    · rename_i b l c e hb ht
      have key : ∀ (f : TypeInfo) (lo' h' m' : Int), P.info? e = some f → evI F 0 lo = some lo' → evI F l hi = some h' → evI F c mx = some m' → (hi.isSome = true ∨ mx = none) →
          SlA f.size ⟨b, l, c⟩ lo' h' m' (fun s => kk (.slice s.a s.len s.cap)) → ∃ v, (∀ w, (execOp a.eval o).run P w = .ok (.value v) w) ∧ kk v := by
        intro f lo' h' m' hf hlo hhi hmx hsome hsl
        obtain ⟨h0, h1, h2, h3, hk⟩ := hsl
        refine ⟨_, fun w => ?_, hk⟩
        have hb' := run_bounds (P := P) (w := w) (isSlice := true) (evI_bnd hag hlo) (evI_bnd hag hhi) (evI_bnd hag hmx) (show (hi.map a.eval).isSome = true ∨ mx.map a.eval = none by rcases hsome with h | h <;> simp [h]) h0 h1 h2 h3
        simp only [execOp, hx, hag.ev hb, Instr.sliceAt, Instr.slice, Sem.run_bind, run_underlying ht, Result.andThen_ok, hb', run_sizeOf' hf, Sem.run_pure]
      split at h
      · rename_i hf hlo hhi hmx; exact key _ _ _ _ hf hlo hhi hmx (.inl rfl) h
      · rename_i hf hlo hhi hmx; exact key _ _ _ _ hf hlo hhi hmx (.inr rfl) h
      · exact h.elim
    · rename_i s hb ht
      split at h
      · rename_i lo' h' hlo hhi
        obtain ⟨h0, h1, h2, hk⟩ := h
        refine ⟨_, fun w => ?_, hk⟩
        have hb' := run_bounds (P := P) (w := w) (isSlice := false) (len := s.size) (cap := s.size) (mx := none) (m := s.size) (evI_bnd hag hlo) (evI_bnd hag hhi) (.inl ⟨rfl, rfl⟩) (.inr rfl) h0 h1 h2 (by omega)
        simp only [execOp, hx, hag.ev hb, Instr.sliceAt, Instr.slice, Sem.run_bind, run_underlying ht, Result.andThen_ok, hb', Sem.run_pure, Option.map_none, Option.isSome_none, Bool.false_eq_true, if_false]
      · exact h.elim
    · exact h.elim
  case h_10 =>
    cases hk : known F o with
    | false => rw [hk] at h; exact h.elim
    | true =>
      rw [hk] at h
      obtain ⟨nx, hr, hnx⟩ := SP.sound (h : SP P (execOp (rho F) o) _)
      split at hnx
      · rename_i v; exact ⟨v, fun w => by rw [execOp_rho hag hs hk]; exact hr w, hnx⟩
      · exact hnx.elim
end Go.Proofs.YtlkmmplgfjicjaaDoor.Hc
