/-
  Operations that read or turn memory, and calls.
-/
import Derived.Test.YtlkmmplgfjicjaaDoorHcExec
namespace Go.Proofs.YtlkmmplgfjicjaaDoor.Hc
set_option linter.unusedVariables false
set_option linter.unusedSimpArgs false

theorem Addr.add_zero' (a : Addr) : a.add 0 = a := rfl

/-! ### loads -/
def ents (a : Addr) : Nat → List Value → List (Addr × Value)
  | _, [] => []
  | i, v :: vs => (a.add i, v) :: ents a (i + 1) vs
def ELoad (P : Program) (o : Oper) (F : AFrame) (H : Heap) (k : Value → List (Addr × Value) → Prop) : Prop :=
  match o.op with
  | .load t x => match ev F x, tyA P t, P.info? t with
    | some (.pointer (some a)), some (.c c), _ => Ld c a H fun d => k (c.emb d) [(a, c.emb d)]
    | some (.pointer (some a)), some (.agg l), some i => bif Nat.beq i.size l.length then LdC l a H fun d => k (.agg ⟨embC l d⟩) (ents a 0 (embC l d)) else False
    | some (.pointer (some a)), some (.big n _), some i => bif Nat.beq i.size n then LdB n a H fun vs => k (.agg ⟨vs⟩) (ents a 0 vs) else False
    | _, _, _ => False
  | _ => False

theorem hcells_ents {H : Heap} {a : Addr} : ∀ {vs : List Value} {i : Nat}, hcells H a i vs ↔ ∀ e ∈ ents a i vs, hcell H e.1 = some e.2
  | [], i => by simp [hcells, ents]
  | v :: vs, i => by simp [hcells, ents, hcells_ents]
theorem run_loadCellsFrom {P : Program} {a : Addr} {w : World} : ∀ {vs : List Value} {i : Nat} {acc : Array Value}, hcells w.heap a i vs →
    (loadCellsFrom a i vs.length acc).run P w = .ok (acc ++ vs.toArray) w
  | [], i, acc, _ => by simp [loadCellsFrom]
  | v :: vs, i, acc, h => by
    simp only [List.length_cons, loadCellsFrom, Sem.run_bind, run_load, cell?_eq, h.1, Result.andThen_ok]
    rw [run_loadCellsFrom h.2]
    simp
theorem run_loadCells {P : Program} {a : Addr} {w : World} {vs : List Value} (h : hcells w.heap a 0 vs) : (loadCells a vs.length).run P w = .ok ⟨vs⟩ w := by
  unfold loadCells; rw [run_loadCellsFrom h]; simp

theorem ELoad.sound {P : Program} {o : Oper} {n : Nat} {F : AFrame} {a : Act} (hag : Ag n F a) {H : Heap} {k : Value → List (Addr × Value) → Prop} (h : ELoad P o F H k) :
    ∃ v Ls, (∀ w, (∀ e ∈ Ls, hcell w.heap e.1 = some e.2) → (execOp a.eval o).run P w = .ok (.value v) w) ∧ (∀ e ∈ Ls, hcell H e.1 = some e.2) ∧ k v Ls := by
  unfold ELoad at h
  split at h
  · rename_i t x hx
    split at h
    · rename_i p c hp ht
      obtain ⟨d, hd, hk⟩ := h
      refine ⟨_, _, fun w hw => ?_, ?_, hk⟩
      · have := hw (p, c.emb d) (by simp)
        simp only [execOp, hx, hag.ev hp, Instr.loadAt, Instr.sureAddr, loadVar, Sem.run_bind, Sem.run_pure, Result.andThen_ok, tyA_c ht, Bool.false_eq_true, if_false, run_load, cell?_eq, this]
      · intro e he; simp only [List.mem_singleton] at he; subst he; exact hd
    · rename_i p l i hp ht hi
      cases hb : Nat.beq i.size l.length with
      | false => rw [hb] at h; exact h.elim
      | true =>
        rw [hb] at h
        obtain ⟨d, hd, hk⟩ := (h : LdC l p H _)
        refine ⟨_, _, fun w hw => ?_, hcells_ents.1 hd, hk⟩
        have hl := run_loadCells (P := P) (hcells_ents.2 hw)
        rw [embC_length] at hl
        have hsz : i.size = l.length := Nat.eq_of_beq_eq_true hb
        simp only [execOp, hx, hag.ev hp, Instr.loadAt, Instr.sureAddr, loadVar, Sem.run_bind, Sem.run_pure, Result.andThen_ok, tyA_agg ht, if_true, run_sizeOf' hi, hsz, hl]
    · rename_i p m c i hp ht hi
      cases hb : Nat.beq i.size m with
      | false => rw [hb] at h; exact h.elim
      | true =>
        rw [hb] at h
        obtain ⟨vs, hvl, hd, hk⟩ := (h : LdB m p H _)
        refine ⟨_, _, fun w hw => ?_, hcells_ents.1 hd, hk⟩
        have hl := run_loadCells (P := P) (hcells_ents.2 hw)
        rw [hvl] at hl
        have hsz : i.size = m := Nat.eq_of_beq_eq_true hb
        simp only [execOp, hx, hag.ev hp, Instr.loadAt, Instr.sureAddr, loadVar, Sem.run_bind, Sem.run_pure, Result.andThen_ok, tyA_big ht, if_true, run_sizeOf' hi, hsz, hl]
    · exact h.elim
  · exact h.elim

/-! ### stores -/
def EStC : List CTy → Addr → Nat → List Value → Heap → (Heap → Prop) → Prop
  | [], _, _, [], H, k => k H
  | .raw :: l, a, i, v :: vs, H, k => StV (a.add i) v H fun H' => EStC l a (i + 1) vs H' k
  | c :: l, a, i, v :: vs, H, k => match c.un v with
    | some d => St (a.add i) (c.emb d) H fun H' => EStC l a (i + 1) vs H' k
    | none => False
  | _, _, _, _, _, _ => False
def EStore (P : Program) (t : TypeId) (a : Addr) (v : Value) (H : Heap) (k : Heap → Prop) : Prop :=
  match tyA P t, P.info? t with
  | some (.c .raw), some i => bif Nat.beq i.size 1 then StV a v H k else False
  | some (.c c), some i => bif Nat.beq i.size 1 then (match c.un v with
    | some d => St a (c.emb d) H k
    | none => False) else False
  | some (.agg l), some i => (match v with
    | .agg cs => bif Nat.beq i.size cs.size then EStC l a 0 cs.toList H k else False
    | _ => False)
  | some (.big _ _), some i => StB v i.size a H k
  | _, _ => False

theorem oneCell_emb {c : CTy} (h : c ≠ .raw) (d : c.den) : (c.emb d).oneCell' = true := by cases c <;> first | rfl | exact absurd rfl h
theorem SW_store {α : Type} {P : Program} {m : Mode} {a : Addr} {v : Value} {f : Sem α} {k : α → Heap → Prop} {H : Heap} (hv : v.oneCell' = true) :
    SW P (.store m a v f) k H = ((hcell H a).isSome = true ∧ hfrozen H a = false ∧ SW P f k (hset H a v)) := by
  cases v <;> first | rfl | (simp [Value.oneCell'] at hv; done)
theorem SW_store' {P : Program} {m : Mode} {a : Addr} {v : Value} {k : Unit → Heap → Prop} {H : Heap} (hv : v.oneCell' = true) :
    SW P (store a v m) k H = St a v H (k ()) := by unfold store; rw [SW_store hv]; rfl
theorem EStC.sound {P : Program} : ∀ {l : List CTy} {a : Addr} {i : Nat} {vs : List Value} {H : Heap} {k : Heap → Prop}, EStC l a i vs H k → SW P (storeCells a vs i) (fun _ => k) H
  | [], a, i, [], H, k, h => h
  | [], a, i, v :: vs, H, k, h => by simp [EStC] at h
  | c :: l, a, i, [], H, k, h => by cases c <;> simp [EStC] at h
  | c :: l, a, i, v :: vs, H, k, h => by
    simp only [storeCells, SW_bind]
    have main : ∀ u, u.oneCell' = true → u = v → St (a.add i) u H (fun H' => EStC l a (i + 1) vs H' k) →
        SW P (store (a.add i) v) (fun _ H' => SW P (storeCells a vs (i + 1)) (fun _ => k) H') H := by
      rintro u hu rfl hs
      rw [SW_store' hu]
      exact ⟨hs.1, hs.2.1, EStC.sound hs.2.2⟩
    cases c with
    | raw => simp only [EStC] at h; exact main v h.1 rfl h.2
    | _ =>
      simp only [EStC] at h
      split at h
      · rename_i d hd
        exact main _ (oneCell_emb (by simp) d) (CTy.un_emb hd).symm h
      · exact h.elim

theorem SW_StL {P : Program} : ∀ {vs : List Value} {a : Addr} {i : Nat} {H : Heap} {k : Heap → Prop}, StL a i vs H k → SW P (storeCells a vs i) (fun _ => k) H
  | [], _, _, _, _, h => h
  | v :: vs, a, i, H, k, h => by
    simp only [storeCells, SW_bind, SW_store' h.1]
    exact ⟨h.2.1, h.2.2.1, SW_StL h.2.2.2⟩

theorem cells_one {v : Value} (h : v.oneCell' = true) : v.cells = #[v] := by cases v <;> first | rfl | (simp [Value.oneCell'] at h; done)
theorem SW_sizeOf {P : Program} {t : TypeId} {i : TypeInfo} (h : P.info? t = some i) (k : Nat → Heap → Prop) (H : Heap) : SW P (sizeOf t) k H = k i.size H := by
  unfold sizeOf typeInfo program
  simp only [SW_bind, SW, h]
  rfl
theorem EStore.sound {P : Program} {t : TypeId} {a : Addr} {v : Value} {H : Heap} {k : Heap → Prop} (h : EStore P t a v H k) :
    SW P (storeVar t a v) (fun _ => k) H := by
  have one : ∀ (i : TypeInfo) u, P.info? t = some i → Nat.beq i.size 1 = true → u = v → u.oneCell' = true → St a u H k → SW P (storeVar t a v) (fun _ => k) H := by
    rintro i u hi hsz rfl hu hs
    have hsz' : i.size = 1 := Nat.eq_of_beq_eq_true hsz
    unfold storeVar
    simp only [SW_bind, SW_sizeOf hi, cells_one hu, hsz']
    show SW P (storeCells a [u]) _ H
    simp only [storeCells, SW_bind, SW_store' hu, Addr.add_zero']
    exact hs
  unfold EStore at h
  split at h
  · rename_i i ht hi
    cases hb : Nat.beq i.size 1 with
    | false => rw [hb] at h; exact h.elim
    | true => rw [hb] at h; exact one i v hi hb rfl (h : StV a v H k).1 (h : StV a v H k).2
  · rename_i c i hne ht hi
    cases hb : Nat.beq i.size 1 with
    | false => rw [hb] at h; exact h.elim
    | true =>
      rw [hb] at h
      simp only [cond_true] at h
      split at h
      · rename_i d hd; exact one i _ hi hb (CTy.un_emb hd).symm (oneCell_emb (fun e => hne e) d) h
      · exact h.elim
  · rename_i l i ht hi
    split at h
    · rename_i cs
      cases hb : Nat.beq i.size cs.size with
      | false => rw [hb] at h; exact h.elim
      | true =>
        rw [hb] at h
        have hsz' : i.size = cs.size := Nat.eq_of_beq_eq_true hb
        unfold storeVar
        simp only [SW_bind, SW_sizeOf hi, Value.cells, hsz', ne_eq, not_true_eq_false, if_false]
        exact EStC.sound h
    · exact h.elim
  · rename_i n c i ht hi
    obtain ⟨vs, rfl, hl, hs⟩ := h
    unfold storeVar
    have hsz : (⟨vs⟩ : Array Value).size = i.size := by simpa using hl
    simp only [SW_bind, SW_sizeOf hi, Value.cells, hsz, ne_eq, not_true_eq_false, if_false]
    exact SW_StL hs
  · exact h.elim
end Go.Proofs.YtlkmmplgfjicjaaDoor.Hc
