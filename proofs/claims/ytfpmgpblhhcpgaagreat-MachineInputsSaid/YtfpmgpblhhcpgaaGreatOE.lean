/-
  Machine: what is handed in.
-/
import Derived.Test.YtfpmgpblhhcpgaaGreatOC
import Derived.Test.YtfpmgpblhhcpgaaGreatHcLawB
namespace Go.Proofs.YtfpmgpblhhcpgaaGreat
set_option linter.unusedVariables false
set_option linter.unusedSimpArgs false
open Go.Proofs.YtfpmgpblhhcpgaaGreat.Hc Go.Proofs.YtfpmgpblhhcpgaaGreat.Hc.Vf Go.Proofs.YtfpmgpblhhcpgaaGreat.Hc.Mc
set_option maxRecDepth 100000

theorem rdC_string {P : Program} {t : TypeId} (hu : P.underlying t = some .string) {H : Heap} {f : Nat} {cs : List Value} (h : RdC P H f t cs) : ∃ s : ByteArray, cs = [.string s] ∧ s.size ≤ reachBytes := by
  cases f with
  | zero => exact h.elim
  | succ f => simp only [RdC, hu] at h; exact h
theorem rdC_bool {P : Program} {t : TypeId} (hu : P.underlying t = some .bool) {H : Heap} {f : Nat} {cs : List Value} (h : RdC P H f t cs) : ∃ b : Bool, cs = [.bool b] := by
  cases f with
  | zero => exact h.elim
  | succ f => simp only [RdC, hu] at h; exact h
/-- A slice argument of elements of n cells each. -/
theorem rdC_rows {P : Program} {t e : TypeId} (hu : P.underlying t = some (.slice e)) {n : Nat} (hce : P.cellsOf e = n) {α : Type} {g : α → List Value} (hg : ∀ x, (g x).length = n) {Q : α → Prop} {H : Heap} (hR : ∀ f cs, RdC P H f e cs → ∃ x, cs = g x ∧ Q x) {f : Nat} {v : Value} (h : RdC P H f t [v]) :
    ∃ (s : Sl) (xs : List α), v = .slice s.a s.len s.cap ∧ RN g n H s xs ∧ (∀ x ∈ xs, Q x) ∧ s.cap * P.bytesOf e ≤ reachBytes := by
  obtain ⟨s, xs, h1, h2, h3, h4, h5, h6⟩ := rdC_elems hu hce (R := fun cs x => cs = g x ∧ Q x) hR h
  refine ⟨s, xs, h1, RN.of_elems hg h2 h3 fun i hi => ?_, fun x hx => ?_, h4⟩
  · obtain ⟨a, ha, cs, _, k2, k3, _⟩ := h6 i hi
    subst k3; exact ⟨a, ha, k2⟩
  · obtain ⟨i, hi, rfl⟩ := List.getElem_of_mem hx
    obtain ⟨_, _, _, _, _, _, k⟩ := h6 i hi
    exact k
theorem list2_api_Program {cs : List Value} (h : cs.length = 2) : ∃ x0 x1, cs = [x0, x1] := by
  match cs, h with
  | [x0, x1], _ => exact ⟨x0, x1, rfl⟩
theorem rdS_api_Program {H : Heap} {f : Nat} {cs : List Value} (h : RdC Tryz.prog H f 25 cs) : ∃ x0 x1, cs = [x0, x1] ∧ ∃ f', RdC Tryz.prog H f' 22 [x0] ∧ RdC Tryz.prog H f' 23 [x1] := by
  obtain ⟨f', hl, hall⟩ := rdC_struct Tryz.underlying25 h
  obtain ⟨x0, x1, rfl⟩ := list2_api_Program (hl.trans (by kernel_rfl))
  simp only [List.mem_cons, List.not_mem_nil, or_false, forall_eq_or_imp, forall_eq] at hall
  have c22 : Tryz.prog.cellsOf 22 = 1 := by kernel_rfl
  have c23 : Tryz.prog.cellsOf 23 = 1 := by kernel_rfl
  obtain ⟨h0, h1⟩ := hall
  exact ⟨x0, x1, rfl, f', by simpa [c22] using h0, by simpa [c23] using h1⟩
theorem list2_api_Entity {cs : List Value} (h : cs.length = 2) : ∃ x0 x1, cs = [x0, x1] := by
  match cs, h with
  | [x0, x1], _ => exact ⟨x0, x1, rfl⟩
theorem rdS_api_Entity {H : Heap} {f : Nat} {cs : List Value} (h : RdC Tryz.prog H f 28 cs) : ∃ x0 x1, cs = [x0, x1] ∧ ∃ f', RdC Tryz.prog H f' 3 [x0] ∧ RdC Tryz.prog H f' 3 [x1] := by
  obtain ⟨f', hl, hall⟩ := rdC_struct Tryz.underlying28 h
  obtain ⟨x0, x1, rfl⟩ := list2_api_Entity (hl.trans (by kernel_rfl))
  simp only [List.mem_cons, List.not_mem_nil, or_false, forall_eq_or_imp, forall_eq] at hall
  have c3 : Tryz.prog.cellsOf 3 = 1 := by kernel_rfl
  obtain ⟨h0, h1⟩ := hall
  exact ⟨x0, x1, rfl, f', by simpa [c3] using h0, by simpa [c3] using h1⟩
theorem list3_api_Row {cs : List Value} (h : cs.length = 3) : ∃ x0 x1 x2, cs = [x0, x1, x2] := by
  match cs, h with
  | [x0, x1, x2], _ => exact ⟨x0, x1, x2, rfl⟩
theorem rdS_api_Row {H : Heap} {f : Nat} {cs : List Value} (h : RdC Tryz.prog H f 31 cs) : ∃ x0 x1 x2, cs = [x0, x1, x2] ∧ ∃ f', RdC Tryz.prog H f' 28 [x0, x1] ∧ RdC Tryz.prog H f' 29 [x2] := by
  obtain ⟨f', hl, hall⟩ := rdC_struct Tryz.underlying31 h
  obtain ⟨x0, x1, x2, rfl⟩ := list3_api_Row (hl.trans (by kernel_rfl))
  simp only [List.mem_cons, List.not_mem_nil, or_false, forall_eq_or_imp, forall_eq] at hall
  have c28 : Tryz.prog.cellsOf 28 = 2 := by kernel_rfl
  have c29 : Tryz.prog.cellsOf 29 = 1 := by kernel_rfl
  obtain ⟨h0, h1⟩ := hall
  exact ⟨x0, x1, x2, rfl, f', by simpa [c28] using h0, by simpa [c29] using h1⟩
theorem list7_api_Env {cs : List Value} (h : cs.length = 7) : ∃ x0 x1 x2 x3 x4 x5 x6, cs = [x0, x1, x2, x3, x4, x5, x6] := by
  match cs, h with
  | [x0, x1, x2, x3, x4, x5, x6], _ => exact ⟨x0, x1, x2, x3, x4, x5, x6, rfl⟩
theorem rdS_api_Env {H : Heap} {f : Nat} {cs : List Value} (h : RdC Tryz.prog H f 33 cs) : ∃ x0 x1 x2 x3 x4 x5 x6, cs = [x0, x1, x2, x3, x4, x5, x6] ∧ ∃ f', RdC Tryz.prog H f' 3 [x0] ∧ RdC Tryz.prog H f' 2 [x1] ∧ RdC Tryz.prog H f' 3 [x2] ∧ RdC Tryz.prog H f' 26 [x3] ∧ RdC Tryz.prog H f' 31 [x4, x5, x6] := by
  obtain ⟨f', hl, hall⟩ := rdC_struct Tryz.underlying33 h
  obtain ⟨x0, x1, x2, x3, x4, x5, x6, rfl⟩ := list7_api_Env (hl.trans (by kernel_rfl))
  simp only [List.mem_cons, List.not_mem_nil, or_false, forall_eq_or_imp, forall_eq] at hall
  have c2 : Tryz.prog.cellsOf 2 = 1 := by kernel_rfl
  have c3 : Tryz.prog.cellsOf 3 = 1 := by kernel_rfl
  have c26 : Tryz.prog.cellsOf 26 = 1 := by kernel_rfl
  have c31 : Tryz.prog.cellsOf 31 = 3 := by kernel_rfl
  obtain ⟨h0, h1, h2, h3, h4⟩ := hall
  exact ⟨x0, x1, x2, x3, x4, x5, x6, rfl, f', by simpa [c3] using h0, by simpa [c2] using h1, by simpa [c3] using h2, by simpa [c26] using h3, by simpa [c31] using h4⟩
theorem list4_api_Routine {cs : List Value} (h : cs.length = 4) : ∃ x0 x1 x2 x3, cs = [x0, x1, x2, x3] := by
  match cs, h with
  | [x0, x1, x2, x3], _ => exact ⟨x0, x1, x2, x3, rfl⟩
theorem rdS_api_Routine {H : Heap} {f : Nat} {cs : List Value} (h : RdC Tryz.prog H f 52 cs) : ∃ x0 x1 x2 x3, cs = [x0, x1, x2, x3] ∧ ∃ f', RdC Tryz.prog H f' 9 [x0] ∧ RdC Tryz.prog H f' 3 [x1] ∧ RdC Tryz.prog H f' 3 [x2] ∧ RdC Tryz.prog H f' 50 [x3] := by
  obtain ⟨f', hl, hall⟩ := rdC_struct Tryz.underlying52 h
  obtain ⟨x0, x1, x2, x3, rfl⟩ := list4_api_Routine (hl.trans (by kernel_rfl))
  simp only [List.mem_cons, List.not_mem_nil, or_false, forall_eq_or_imp, forall_eq] at hall
  have c3 : Tryz.prog.cellsOf 3 = 1 := by kernel_rfl
  have c9 : Tryz.prog.cellsOf 9 = 1 := by kernel_rfl
  have c50 : Tryz.prog.cellsOf 50 = 1 := by kernel_rfl
  obtain ⟨h0, h1, h2, h3⟩ := hall
  exact ⟨x0, x1, x2, x3, rfl, f', by simpa [c9] using h0, by simpa [c3] using h1, by simpa [c3] using h2, by simpa [c50] using h3⟩
theorem list8_api_System {cs : List Value} (h : cs.length = 8) : ∃ x0 x1 x2 x3 x4 x5 x6 x7, cs = [x0, x1, x2, x3, x4, x5, x6, x7] := by
  match cs, h with
  | [x0, x1, x2, x3, x4, x5, x6, x7], _ => exact ⟨x0, x1, x2, x3, x4, x5, x6, x7, rfl⟩
theorem rdS_api_System {H : Heap} {f : Nat} {cs : List Value} (h : RdC Tryz.prog H f 55 cs) : ∃ x0 x1 x2 x3 x4 x5 x6 x7, cs = [x0, x1, x2, x3, x4, x5, x6, x7] ∧ ∃ f', RdC Tryz.prog H f' 53 [x0] ∧ RdC Tryz.prog H f' 53 [x1] ∧ RdC Tryz.prog H f' 53 [x2] ∧ RdC Tryz.prog H f' 53 [x3] ∧ RdC Tryz.prog H f' 52 [x4, x5, x6, x7] := by
  obtain ⟨f', hl, hall⟩ := rdC_struct Tryz.underlying55 h
  obtain ⟨x0, x1, x2, x3, x4, x5, x6, x7, rfl⟩ := list8_api_System (hl.trans (by kernel_rfl))
  simp only [List.mem_cons, List.not_mem_nil, or_false, forall_eq_or_imp, forall_eq] at hall
  have c52 : Tryz.prog.cellsOf 52 = 4 := by kernel_rfl
  have c53 : Tryz.prog.cellsOf 53 = 1 := by kernel_rfl
  obtain ⟨h0, h1, h2, h3, h4⟩ := hall
  exact ⟨x0, x1, x2, x3, x4, x5, x6, x7, rfl, f', by simpa [c53] using h0, by simpa [c53] using h1, by simpa [c53] using h2, by simpa [c53] using h3, by simpa [c52] using h4⟩
theorem list3_api_Input {cs : List Value} (h : cs.length = 3) : ∃ x0 x1 x2, cs = [x0, x1, x2] := by
  match cs, h with
  | [x0, x1, x2], _ => exact ⟨x0, x1, x2, rfl⟩
theorem rdS_api_Input {H : Heap} {f : Nat} {cs : List Value} (h : RdC Tryz.prog H f 57 cs) : ∃ x0 x1 x2, cs = [x0, x1, x2] ∧ ∃ f', RdC Tryz.prog H f' 3 [x0] ∧ RdC Tryz.prog H f' 3 [x1] ∧ RdC Tryz.prog H f' 2 [x2] := by
  obtain ⟨f', hl, hall⟩ := rdC_struct Tryz.underlying57 h
  obtain ⟨x0, x1, x2, rfl⟩ := list3_api_Input (hl.trans (by kernel_rfl))
  simp only [List.mem_cons, List.not_mem_nil, or_false, forall_eq_or_imp, forall_eq] at hall
  have c2 : Tryz.prog.cellsOf 2 = 1 := by kernel_rfl
  have c3 : Tryz.prog.cellsOf 3 = 1 := by kernel_rfl
  obtain ⟨h0, h1, h2⟩ := hall
  exact ⟨x0, x1, x2, rfl, f', by simpa [c3] using h0, by simpa [c3] using h1, by simpa [c2] using h2⟩
theorem list2_api_Part {cs : List Value} (h : cs.length = 2) : ∃ x0 x1, cs = [x0, x1] := by
  match cs, h with
  | [x0, x1], _ => exact ⟨x0, x1, rfl⟩
theorem rdS_api_Part {H : Heap} {f : Nat} {cs : List Value} (h : RdC Tryz.prog H f 60 cs) : ∃ x0 x1, cs = [x0, x1] ∧ ∃ f', RdC Tryz.prog H f' 3 [x0] ∧ RdC Tryz.prog H f' 58 [x1] := by
  obtain ⟨f', hl, hall⟩ := rdC_struct Tryz.underlying60 h
  obtain ⟨x0, x1, rfl⟩ := list2_api_Part (hl.trans (by kernel_rfl))
  simp only [List.mem_cons, List.not_mem_nil, or_false, forall_eq_or_imp, forall_eq] at hall
  have c3 : Tryz.prog.cellsOf 3 = 1 := by kernel_rfl
  have c58 : Tryz.prog.cellsOf 58 = 1 := by kernel_rfl
  obtain ⟨h0, h1⟩ := hall
  exact ⟨x0, x1, rfl, f', by simpa [c3] using h0, by simpa [c58] using h1⟩
theorem list2_api_Instr {cs : List Value} (h : cs.length = 2) : ∃ x0 x1, cs = [x0, x1] := by
  match cs, h with
  | [x0, x1], _ => exact ⟨x0, x1, rfl⟩
theorem rdS_api_Instr {H : Heap} {f : Nat} {cs : List Value} (h : RdC Tryz.prog H f 74 cs) : ∃ x0 x1, cs = [x0, x1] ∧ ∃ f', RdC Tryz.prog H f' 3 [x0] ∧ RdC Tryz.prog H f' 2 [x1] := by
  obtain ⟨f', hl, hall⟩ := rdC_struct Tryz.underlying74 h
  obtain ⟨x0, x1, rfl⟩ := list2_api_Instr (hl.trans (by kernel_rfl))
  simp only [List.mem_cons, List.not_mem_nil, or_false, forall_eq_or_imp, forall_eq] at hall
  have c2 : Tryz.prog.cellsOf 2 = 1 := by kernel_rfl
  have c3 : Tryz.prog.cellsOf 3 = 1 := by kernel_rfl
  obtain ⟨h0, h1⟩ := hall
  exact ⟨x0, x1, rfl, f', by simpa [c3] using h0, by simpa [c2] using h1⟩
abbrev prgA (p : Sl × Sl) : Value := .agg #[.slice p.1.a p.1.len p.1.cap, .slice p.2.a p.2.len p.2.cap]
/-- What a program that was handed in is. -/
structure RouI (H : Heap) (r : Rou) : Prop where
  code : CodeR H r
  len : r.code.length ≤ 2 ^ 43
  par : I64 r.params
  loc : I64 r.locals
  ins : ∀ i ∈ r.code, I64 i.1 ∧ I64 i.2
  name : r.name.size ≤ 2 ^ 47
structure SyI (H : Heap) (x : Sy) : Prop where
  sets : ∀ q, q < 4 → RL (Value.int .i64) H (x.s q) (x.l q)
  lens : ∀ q, q < 4 → (x.l q).length ≤ 2 ^ 44
  ints : ∀ q, q < 4 → ∀ y ∈ x.l q, I64 y
  rou : RouI H x.rou
structure PrgI (H : Heap) (p : Sl × Sl) (ss : List Sy) (fs : List Rou) : Prop where
  sys : RN sysV 8 H p.1 ss
  sysR : ∀ x ∈ ss, SyI H x
  fun' : RN rouV 4 H p.2 fs
  funR : ∀ r ∈ fs, RouI H r
  sl : ss.length * 152 ≤ 2 ^ 47
  fl : fs.length * 56 ≤ 2 ^ 47
theorem PrgI.prg {H : Heap} {p : Sl × Sl} {ss : List Sy} {fs : List Rou} (h : PrgI H p ss fs) : PrgR H p ss fs :=
  ⟨h.sys, fun x hx => ⟨(h.sysR x hx).sets, (h.sysR x hx).rou.code, fun q hq => by have := (h.sysR x hx).lens q hq; omega, by have := (h.sysR x hx).rou.len; omega⟩, h.fun', fun r hr => (h.funR r hr).code, fun r hr => by have := (h.funR r hr).len; omega⟩
theorem PrgI.par {H : Heap} {p : Sl × Sl} {ss : List Sy} {fs : List Rou} (h : PrgI H p ss fs) : ∀ x ∈ parms fs, I64 x := fun x hx => by
  obtain ⟨r, hr, rfl⟩ := List.mem_map.1 hx
  exact (h.funR r hr).par
theorem b47 : Tryz.prog.bytesOf 74 = 16 := by kernel_rfl
theorem rdC_rou {H : Heap} {f : Nat} {cs : List Value} (h : RdC Tryz.prog H f 52 cs) : ∃ r : Rou, cs = rouV r ∧ RouI H r := by
  have c47 : Tryz.prog.cellsOf 74 = 2 := by kernel_rfl
  obtain ⟨x0, x1, x2, x3, rfl, f', h0, h1, h2, h3⟩ := rdS_api_Routine h
  obtain ⟨n, e0, hn⟩ := rdC_string Tryz.underlying9 h0
  obtain ⟨a, e1, ha⟩ := rdC_i64 Tryz.underlying3 h1
  obtain ⟨b, e2, hb⟩ := rdC_i64 Tryz.underlying3 h2
  obtain ⟨s, xs, e3, hs, hx, hc⟩ := rdC_rows Tryz.underlying50 c47 insV_len (Q := fun i => I64 i.1 ∧ I64 i.2) (fun f cs hh => by
    obtain ⟨y0, y1, rfl, f', g0, g1⟩ := rdS_api_Instr hh
    obtain ⟨a, e0, ha⟩ := rdC_i64 Tryz.underlying3 g0
    obtain ⟨b, e1, hb⟩ := rdC_i64 Tryz.underlying2 g1
    simp only [List.cons.injEq, and_true] at e0 e1
    subst e0 e1
    exact ⟨(a, b), rfl, ha, hb⟩) h3
  simp only [List.cons.injEq, and_true] at e0 e1 e2
  subst e0 e1 e2 e3
  refine ⟨⟨n, a, b, s, xs⟩, rfl, hs, ?_, ha, hb, hx, by have := reach47; show n.size ≤ _; omega⟩
  rw [b47] at hc
  have h1 := hs.len
  have h2 := hs.cap
  have := reach47
  show xs.length ≤ _
  omega
theorem rdC_set {H : Heap} {f : Nat} {v : Value} (h : RdC Tryz.prog H f 53 [v]) : ∃ (s : Sl) (xs : List Int), v = slV s ∧ RL (Value.int .i64) H s xs ∧ (∀ x ∈ xs, I64 x) ∧ xs.length ≤ 2 ^ 44 := by
  have c3 : Tryz.prog.cellsOf 3 = 1 := by kernel_rfl
  have b3 : Tryz.prog.bytesOf 3 = 8 := by kernel_rfl
  obtain ⟨s, xs, e, h1, h2, h3, h4⟩ := rdC_ints Tryz.underlying53 Tryz.underlying3 c3 h
  rw [b3] at h3
  refine ⟨s, xs, e, h1, h2, ?_⟩
  have := h1.len; have := h1.cap; have := reach47; omega
def pick4 {α : Type} (a b c d : α) (q : Nat) : α := if q = 0 then a else if q = 1 then b else if q = 2 then c else d
theorem rdC_sys {H : Heap} {f : Nat} {cs : List Value} (h : RdC Tryz.prog H f 55 cs) : ∃ x : Sy, cs = sysV x ∧ SyI H x := by
  obtain ⟨x0, x1, x2, x3, x4, x5, x6, x7, rfl, f', h0, h1, h2, h3, h4⟩ := rdS_api_System h
  obtain ⟨s0, l0, rfl, r0, i0, n0⟩ := rdC_set h0
  obtain ⟨s1, l1, rfl, r1, i1, n1⟩ := rdC_set h1
  obtain ⟨s2, l2, rfl, r2, i2, n2⟩ := rdC_set h2
  obtain ⟨s3, l3, rfl, r3, i3, n3⟩ := rdC_set h3
  obtain ⟨r, e, hr⟩ := rdC_rou h4
  simp only [List.cons.injEq, and_true] at e
  obtain ⟨rfl, rfl, rfl, rfl⟩ := e
  refine ⟨⟨pick4 s0 s1 s2 s3, pick4 l0 l1 l2 l3, r⟩, rfl, fun q hq => ?_, fun q hq => ?_, fun q hq => ?_, hr⟩
  all_goals
    match q, hq with
    | 0, _ => assumption
    | 1, _ => assumption
    | 2, _ => assumption
    | 3, _ => assumption
theorem rd_prog {H : Heap} {v : Value} (h : RdV Tryz.prog H 25 v) : ∃ (p : Sl × Sl) (ss : List Sy) (fs : List Rou), v = prgA p ∧ PrgI H p ss fs := by
  have c60 : Tryz.prog.cellsOf 55 = 8 := by kernel_rfl
  have c28 : Tryz.prog.cellsOf 52 = 4 := by kernel_rfl
  have b60 : Tryz.prog.bytesOf 55 = 152 := by kernel_rfl
  have b28 : Tryz.prog.bytesOf 52 = 56 := by kernel_rfl
  obtain ⟨f, cs, rfl, hr⟩ := rd_struct Tryz.underlying25 h
  obtain ⟨x0, x1, e, f', h0, h1⟩ := rdS_api_Program hr
  obtain ⟨s, ss, rfl, hs, hx, hc⟩ := rdC_rows Tryz.underlying22 c60 sysV_len (fun f cs hh => rdC_sys hh) h0
  obtain ⟨t, fs, rfl, ht, hy, hd⟩ := rdC_rows Tryz.underlying23 c28 rouV_len (fun f cs hh => rdC_rou hh) h1
  rw [b60] at hc
  rw [b28] at hd
  have := reach47
  have g1 := hs.len
  have g2 := hs.cap
  have g3 := ht.len
  have g4 := ht.cap
  subst e
  exact ⟨(s, t), ss, fs, rfl, hs, hx, ht, hy, by omega, by omega⟩
/-- What an Env that was handed in is. -/
structure EnvI (H : Heap) (e : EnV) (ins : List (Int × Int × Int)) (ps : List PtP) : Prop where
  fr : I64 e.fr
  sd : I64 e.sd
  en : I64 e.en
  ix : I64 e.ix
  gn : I64 e.gn
  inp : RN inV 3 H e.inS ins
  in64 : ∀ x ∈ ins, I64 x.1 ∧ I64 x.2.1 ∧ I64 x.2.2
  inL : ins.length * 24 ≤ 140737488351232
  prt : RN ptV 2 H e.rp ps
  prR : ∀ q ∈ ps, RL (Value.int .i64) H q.sl q.vals ∧ q.vals.length ≤ 2 ^ 44 ∧ All64 q.vals ∧ I64 q.kind
  prL : ps.length * 32 ≤ 2 ^ 47
theorem rdC_nums {H : Heap} {f : Nat} {v : Value} (h : RdC Tryz.prog H f 58 [v]) : ∃ (s : Sl) (xs : List Int), v = slV s ∧ RL (Value.int .i64) H s xs ∧ (∀ x ∈ xs, I64 x) ∧ xs.length ≤ 2 ^ 44 := by
  have c3 : Tryz.prog.cellsOf 2 = 1 := by kernel_rfl
  have b3 : Tryz.prog.bytesOf 2 = 8 := by kernel_rfl
  obtain ⟨s, xs, e, h1, h2, h3, h4⟩ := rdC_ints Tryz.underlying58 Tryz.underlying2 c3 h
  rw [b3] at h3
  refine ⟨s, xs, e, h1, h2, ?_⟩
  have := h1.len; have := h1.cap; have := reach47; omega
theorem rd_env {H : Heap} {v : Value} (h : RdV Tryz.prog H 33 v) : ∃ (e : EnV) (ins : List (Int × Int × Int)) (ps : List PtP), v = envA e ∧ EnvI H e ins ps := by
  have c57 : Tryz.prog.cellsOf 57 = 3 := by kernel_rfl
  have b57 : Tryz.prog.bytesOf 57 = 24 := by kernel_rfl
  have c60 : Tryz.prog.cellsOf 60 = 2 := by kernel_rfl
  have b60 : Tryz.prog.bytesOf 60 = 32 := by kernel_rfl
  obtain ⟨f, cs, rfl, hr⟩ := rd_struct Tryz.underlying33 h
  obtain ⟨x0, x1, x2, x3, x4, x5, x6, e, f', h0, h1, h2, h3, h4⟩ := rdS_api_Env hr
  obtain ⟨y0, y1, y2, e', f2, g0, g1⟩ := rdS_api_Row h4
  obtain ⟨z0, z1, e'', f3, k0, k1⟩ := rdS_api_Entity g0
  simp only [List.cons.injEq, and_true] at e' e''
  obtain ⟨rfl, rfl, rfl⟩ := e'
  obtain ⟨rfl, rfl⟩ := e''
  obtain ⟨a0, e0, i0⟩ := rdC_i64 Tryz.underlying3 h0
  obtain ⟨a1, e1, i1⟩ := rdC_i64 Tryz.underlying2 h1
  obtain ⟨a2, e2, i2⟩ := rdC_i64 Tryz.underlying3 h2
  obtain ⟨a4, e4, i4⟩ := rdC_i64 Tryz.underlying3 k0
  obtain ⟨a5, e5, i5⟩ := rdC_i64 Tryz.underlying3 k1
  simp only [List.cons.injEq, and_true] at e0 e1 e2 e4 e5
  subst e0 e1 e2 e4 e5
  obtain ⟨s, ins, rfl, hs, hx, hc⟩ := rdC_rows Tryz.underlying26 c57 inV_len (Q := fun x => I64 x.1 ∧ I64 x.2.1 ∧ I64 x.2.2) (fun f cs hh => by
    obtain ⟨y0, y1, y2, rfl, f', g0, g1, g2⟩ := rdS_api_Input hh
    obtain ⟨a, e0, ha⟩ := rdC_i64 Tryz.underlying3 g0
    obtain ⟨b, e1, hb⟩ := rdC_i64 Tryz.underlying3 g1
    obtain ⟨c, e2, hc⟩ := rdC_i64 Tryz.underlying2 g2
    simp only [List.cons.injEq, and_true] at e0 e1 e2
    subst e0 e1 e2
    exact ⟨(a, b, c), rfl, ha, hb, hc⟩) h3
  obtain ⟨t, ps, rfl, ht, hy, hd⟩ := rdC_rows Tryz.underlying29 c60 ptV_len (Q := fun q : PtP => RL (Value.int .i64) H q.sl q.vals ∧ q.vals.length ≤ 2 ^ 44 ∧ All64 q.vals ∧ I64 q.kind) (fun f cs hh => by
    obtain ⟨y0, y1, rfl, f', g0, g1⟩ := rdS_api_Part hh
    obtain ⟨a, e0, ha⟩ := rdC_i64 Tryz.underlying3 g0
    obtain ⟨u, xs, rfl, h1, h2, h3⟩ := rdC_nums g1
    simp only [List.cons.injEq, and_true] at e0
    subst e0
    exact ⟨⟨a, u, xs⟩, rfl, h1, h3, h2, ha⟩) g1
  rw [b57] at hc
  rw [b60] at hd
  have hrb : reachBytes = 140737488351232 := rfl
  have q1 := hs.len
  have q2 := hs.cap
  have q3 := ht.len
  have q4 := ht.cap
  subst e
  exact ⟨⟨a0, a1, a2, s, a4, a5, t⟩, ins, ps, rfl, i0, i1, i2, i4, i5, hs, hx, by omega, ht, hy, by omega⟩
end Go.Proofs.YtfpmgpblhhcpgaaGreat
/-
  Machine: how a run ends.
-/
namespace Go.Proofs.YtfpmgpblhhcpgaaGreat
set_option linter.unusedVariables false
set_option linter.unusedSimpArgs false
open Go.Proofs.YtfpmgpblhhcpgaaGreat.Hc Go.Proofs.YtfpmgpblhhcpgaaGreat.Hc.Vf Go.Proofs.YtfpmgpblhhcpgaaGreat.Hc.Mc Go.Proofs.YtfpmgpblhhcpgaaGreat.Hc.Dice
set_option maxRecDepth 100000
variable {H : Heap}

/-! ### plain -/
theorem ready_codes {P : MP} {m : Ms} : ready P m = 0 ∨ ready P m = 150 ∨ ready P m = 153 ∨ ready P m = 152 ∨ ready P m = 151 ∨ ready P m = 102 := by
  unfold ready
  repeat' split
  all_goals simp
theorem runs_end {P : MP} {E : En} (hP : POk P) (hE : EOk E) {m m' : Ms} {N : Nat} {er : Int} (h : Runs P E m N er m') (hM : MOk P m) :
    (er = 0 ∧ MOk P m') ∨ (er = 120 ∧ m'.steps = 2001) ∨ (er ≠ 0 ∧ er ≠ 120 ∧ er ≠ 190 ∧ 0 ≤ m'.steps ∧ m'.steps ≤ 2000) := by
  induction h with
  | over _ => exact .inl ⟨rfl, hM⟩
  | bad _ he =>
    rename_i m _
    unfold stepM at he ⊢
    split at he
    · rename_i hr
      rw [if_pos hr]
      rcases hM.does hP hE (ready_iff hr) with ⟨h0, _⟩ | ⟨h1, h2⟩
      · exact absurd h0 he
      · exact .inr (.inl ⟨h1, h2⟩)
    · rename_i hr
      rw [if_neg hr]
      refine .inr (.inr ⟨hr, ?_, ?_, hM.steps.1, hM.steps.2⟩)
      · show ready P m ≠ _
        rcases ready_codes (P := P) (m := m) with e | e | e | e | e | e <;> rw [e] <;> decide
      · show ready P m ≠ _
        rcases ready_codes (P := P) (m := m) with e | e | e | e | e | e <;> rw [e] <;> decide
  | step ho he _ ih =>
    rename_i m _ _ _ _
    refine ih ?_
    have hrdy : ready P m = 0 := by
      unfold stepM at he
      split at he
      · assumption
      · rename_i hne; exact absurd he hne
    have hst : stepM P E m = does P E m m.top.fn.code[m.top.nx.toNat]! := by unfold stepM; rw [if_pos hrdy]
    rw [hst] at he ⊢
    rcases hM.does hP hE (ready_iff hrdy) with ⟨_, hmo⟩ | ⟨h120, _⟩
    · exact hmo
    · rw [he] at h120; cases h120
/-- What is kept by an instruction is kept by a run. -/
theorem runs_keep {P : MP} {E : En} (Q : Ms → Prop) (hs : ∀ m, Q m → Q (stepM P E m).2) {m m' : Ms} {N : Nat} {er : Int} (h : Runs P E m N er m') (h0 : Q m) : Q m' := by
  induction h with
  | over _ => exact h0
  | bad _ _ => exact hs _ h0
  | step _ _ _ ih => exact ih (hs _ h0)
abbrev shp2 (l : List Pt) : List (Int × Nat) := l.map fun p => (p.kind, p.vals.length)
theorem put_shp (l : List Pt) (k : Int) (f : Nat) (x : Int) : shp2 (putV l k f x) = shp2 l := by
  induction l with
  | nil => rfl
  | cons p r ih => unfold putV; split <;> simp_all [shp2]
theorem step_keep {P : MP} {E : En} {m : Ms} (h : ∀ ev ∈ m.evs, ev.e = (E.idx, E.gen) ∧ ev.sys = P.sysN) : shp2 (stepM P E m).2.vals = shp2 m.vals ∧ ∀ ev ∈ (stepM P E m).2.evs, ev.e = (E.idx, E.gen) ∧ ev.sys = P.sysN := by
  unfold stepM
  split
  · unfold does
    dsimp only
    split
    · exact ⟨rfl, h⟩
    split
    · exact ⟨rfl, h⟩
    · unfold act
      split
      case h_5 => exact ⟨put_shp _ _ _ _, h⟩
      case h_7 => dsimp only; split <;> exact ⟨rfl, h⟩
      case h_8 => split <;> exact ⟨rfl, h⟩
      case h_11 => split <;> exact ⟨rfl, h⟩
      case h_12 =>
        refine ⟨rfl, fun ev hev => ?_⟩
        rcases List.mem_append.1 hev with hev | hev
        · exact h ev hev
        · rw [List.mem_singleton.1 hev]; exact ⟨rfl, rfl⟩
      all_goals exact ⟨rfl, h⟩
  · exact ⟨rfl, h⟩
theorem runs_shape {P : MP} {E : En} {m m' : Ms} {N : Nat} {er : Int} (h : Runs P E m N er m') (h0 : ∀ ev ∈ m.evs, ev.e = (E.idx, E.gen) ∧ ev.sys = P.sysN) : shp2 m'.vals = shp2 m.vals ∧ ∀ ev ∈ m'.evs, ev.e = (E.idx, E.gen) ∧ ev.sys = P.sysN :=
  runs_keep (fun x => shp2 x.vals = shp2 m.vals ∧ ∀ ev ∈ x.evs, ev.e = (E.idx, E.gen) ∧ ev.sys = P.sysN) (fun x hx => by
    have := step_keep (P := P) (E := E) (m := x) hx.2
    exact ⟨this.1.trans hx.1, this.2⟩) h ⟨rfl, h0⟩
/-- Of the shape of the first of each kind. -/
theorem shp_look {ps : List Pt} {q : List Pt} (h : shp2 q = shp2 (firsts ps)) {p : Pt} (hp : p ∈ q) : ∃ v, lookV ps p.kind = some v ∧ (((q.map Pt.kind).Nodup) → v.length = p.vals.length) := by
  have hk : q.map Pt.kind = (firsts ps).map Pt.kind := by
    have := congrArg (List.map Prod.fst) h
    simpa [shp2, List.map_map, Function.comp_def] using this
  obtain ⟨i, hi, rfl⟩ := List.getElem_of_mem hp
  have hl : q.length = (firsts ps).length := by have := congrArg List.length h; simpa [shp2] using this
  have hi2 : i < (firsts ps).length := by omega
  have e : (shp2 q)[i]? = (shp2 (firsts ps))[i]? := by rw [h]
  simp only [shp2, List.getElem?_map, List.getElem?_eq_getElem hi, List.getElem?_eq_getElem hi2, Option.map_some, Option.some.injEq, Prod.mk.injEq] at e
  have hmem : (firsts ps)[i] ∈ firsts ps := List.getElem_mem hi2
  have hsome : lookV (firsts ps) q[i].kind ≠ none := by
    unfold lookV
    rw [ne_eq, Option.map_eq_none_iff, List.find?_eq_none]
    intro hno
    exact hno _ hmem (by simp [e.1])
  rw [look_firsts] at hsome
  obtain ⟨v, hv⟩ := Option.ne_none_iff_exists'.1 hsome
  refine ⟨v, hv, fun hnd => ?_⟩
  rw [hk] at hnd
  rw [← look_firsts] at hv
  have hf : (firsts ps).find? (fun p => p.kind == q[i].kind) = some (firsts ps)[i] := by
    rw [List.find?_eq_some_iff_getElem]
    refine ⟨by simp [e.1], i, hi2, rfl, fun j hj => ?_⟩
    have hne := List.pairwise_iff_getElem.1 hnd j i (by rw [List.length_map]; omega) (by rw [List.length_map]; exact hi2) hj
    rw [List.getElem_map, List.getElem_map] at hne
    simp only [Bool.not_eq_eq_eq_not, Bool.not_true, beq_eq_false_iff_ne, ne_eq]
    rw [e.1]; exact hne
  unfold lookV at hv
  rw [hf] at hv
  simp only [Option.map_some, Option.some.injEq] at hv
  rw [← hv]; exact e.2.symm
/-- What is asked of an outcome. -/
structure EndsP (p : Sl × Sl) (ss : List Sy) (n : Int) (e : EnV) (ps0 : List PtP) (H : Heap) (vs cs es : Sl) (st er : Int) : Prop where
  h_sys : er = 190 ↔ ¬ (0 ≤ n ∧ n < (ss.length : Int))
  h_st : 0 ≤ st ∧ st ≤ 2001
  h_fuel : er = 120 ↔ st = 2001
  h_cl : cs.len ≤ 16
  h_el : es.len ≤ 16
  h_bad : er ≠ 0 → vs.len = 0 ∧ cs.len = 0 ∧ es.len = 0
  h_ok : er = 0 → (∃ qs : List PtP, RN ptV 2 H vs qs ∧ (qs.map PtP.kind).Pairwise (· < ·) ∧ ∀ q ∈ qs, q.sl.len = q.vals.length ∧ q.kind ∈ (ss[n.toNat]!).l 3 ∧ ∃ v, lookV (ps0.map PtP.pt) q.kind = some v ∧ v.length = q.vals.length) ∧
    ∃ evs : List Ev, RN evV 5 H es evs ∧ ∀ ev ∈ evs, ev.e = (e.ix, e.gn) ∧ ev.sys = n
theorem ends_tail {p : Sl × Sl} {ss : List Sy} {system_ : Int} {e : EnV} {ps0 : List PtP} {H14 : Heap} {b1 b2 b3 : Nat} {vs cs es : Sl} {st er : Int} {r1 : Bool} (hr1 : r1 = true) (h1 : Row H14 b1 T_api_Program [slV p.1, slV p.2]) (h2 : Row H14 b2 T_api_Env (envL e)) (h3 : Row H14 b3 T_api_Outcome [slV vs, slV cs, slV es, .int .i64 st, .int .i64 er])
    (hss : RN sysV 8 H14 p.1 ss) (hset : ∀ s ∈ ss, RL (Value.int .i64) H14 (s.s 3) (s.l 3) ∧ (s.l 3).length ≤ 2 ^ 60) (hps : RN ptV 2 H14 e.rp ps0) (hpv : ∀ q ∈ ps0, q.sl.len = q.vals.length) (hpl : ps0.length ≤ 2 ^ 60) (hsl : ss.length ≤ 2 ^ 60) (hn : I64 system_)
    (ho : EndsP p ss system_ e ps0 H14 vs cs es st er) {k : Bool → Heap → Prop} (hk : ∀ H', Ext H14 H' → k true H') :
    Jn (σ := Bool) /-  -/ (fun kk2 =>
      Ld (.int .i64) ((adr b3).add 4) H14 fun (x1 : Int) =>
      Br (decide (system_ < 0)) (
        kk2 (!((x1 == 190) == true)) H14) (
        Ld .sl (adr b1) H14 fun (x2 : Sl) =>
        kk2 (!((x1 == 190) == (decide (system_ ≥ (x2.len : Int))))) H14)) fun j2 H15 =>
    Br j2 (
      k false H15) (
      Jn (σ := Bool) /-  -/ (fun kk3 =>
        Br (!r1) (
          kk3 true H15) (
          Ld (.int .i64) ((adr b3).add 3) H15 fun (x3 : Int) =>
          Br (decide (x3 < 0)) (
            kk3 true H15) (
            Ld (.int .i64) ((adr b3).add 3) H15 fun (x4 : Int) =>
            Br (decide (x4 > 2001)) (
              kk3 true H15) (
              Ld (.int .i64) ((adr b3).add 4) H15 fun (x5 : Int) =>
              Ld (.int .i64) ((adr b3).add 3) H15 fun (x6 : Int) =>
              Br (!((x5 == 120) == (x6 == 2001))) (
                kk3 true H15) (
                Ld .sl ((adr b3).add 1) H15 fun (x7 : Sl) =>
                Br (decide ((x7.len : Int) > 16)) (
                  kk3 true H15) (
                  Ld .sl ((adr b3).add 2) H15 fun (x8 : Sl) =>
                  kk3 (decide ((x8.len : Int) > 16)) H15)))))) fun j3 H16 =>
      Br j3 (
        k false H16) (
        Ld (.int .i64) ((adr b3).add 4) H16 fun (x9 : Int) =>
        Br (x9 != 0) (
          Jn (σ := Bool) /-  -/ (fun kk4 =>
            Ld .sl (adr b3) H16 fun (x10 : Sl) =>
            Br ((x10.len : Int) == 0) (
              Ld .sl ((adr b3).add 1) H16 fun (x11 : Sl) =>
              Br ((x11.len : Int) == 0) (
                Ld .sl ((adr b3).add 2) H16 fun (x12 : Sl) =>
                kk4 ((x12.len : Int) == 0) H16) (
                kk4 false H16)) (
              kk4 false H16)) fun j4 H17 =>
          k j4 H17) (
          LoopT (σ := Int) /- i -/ (fun next1 s1 H18 =>
            Ld .sl (adr b3) H18 fun (x13 : Sl) =>
            Br (decide (s1 < (x13.len : Int))) (
              Ld .sl (adr b3) H18 fun (x14 : Sl) =>
              IxA 2 x14 s1 fun a1 =>
              LdC [(.int .i64), .sl] a1 H18 fun (c5 : Int × Sl) =>
              Nw #[.int .i64 0, .slice none 0 0] T_api_Part H18 fun b4 H19 =>
              St ((adr b4).add 0) (.int .i64 c5.1) H19 fun H20 =>
              St ((adr b4).add 1) (.slice c5.2.a c5.2.len c5.2.cap) H20 fun H21 =>
              Jn (σ := Bool) /-  -/ (fun kk5 =>
                Br (decide (s1 > 0)) (
                  Ld (.int .i64) (adr b4) H21 fun (x15 : Int) =>
                  Ld .sl (adr b3) H21 fun (x16 : Sl) =>
                  Lt (IntKind.wrap .i64 (s1 - 1)) fun t1 =>
                  IxA 2 x16 t1 fun a2 =>
                  Ld (.int .i64) a2 H21 fun (x17 : Int) =>
                  kk5 (decide (x15 ≤ x17)) H21) (
                  kk5 false H21)) fun j5 H22 =>
              Br j5 (
                k false H22) (
                LoopT (σ := Bool × Int) /- written, k -/ (fun next2 s2 H23 =>
                  Ld .sl (adr b1) H23 fun (x18 : Sl) =>
                  IxA 8 x18 system_ fun a3 =>
                  Ld .sl (a3.add 3) H23 fun (x19 : Sl) =>
                  Br (decide (s2.2 < (x19.len : Int))) (
                    Jn (σ := Bool) /- written -/ (fun kk6 =>
                      Br s2.1 (
                        kk6 true H23) (
                        Ld .sl (adr b1) H23 fun (x20 : Sl) =>
                        IxA 8 x20 system_ fun a4 =>
                        Ld .sl (a4.add 3) H23 fun (x21 : Sl) =>
                        IxA 1 x21 s2.2 fun a5 =>
                        Ld (.int .i64) a5 H23 fun (x22 : Int) =>
                        Ld (.int .i64) (adr b4) H23 fun (x23 : Int) =>
                        kk6 (x22 == x23) H23)) fun j6 H24 =>
                    Lt (IntKind.wrap .i64 (s2.2 + 1)) fun t2 =>
                    next2 (j6, t2) H24) (
                    Ld .sl (((adr b2).add 4).add 2) H23 fun (x24 : Sl) =>
                    Lt (IntKind.wrap .i64 ((x24.len : Int) - 1)) fun t3 =>
                    LoopT (σ := Int × Int) /- at, k -/ (fun next3 s3 H25 =>
                      Br (decide (s3.2 ≥ 0)) (
                        Jn (σ := Int) /- at -/ (fun kk7 =>
                          Ld .sl (((adr b2).add 4).add 2) H25 fun (x25 : Sl) =>
                          IxA 2 x25 s3.2 fun a6 =>
                          Ld (.int .i64) a6 H25 fun (x26 : Int) =>
                          Ld (.int .i64) (adr b4) H25 fun (x27 : Int) =>
                          Jn (σ := Int) /- at -/ (fun kk8 =>
                            Br (x26 == x27) (
                              kk8 s3.2 H25) (
                              kk8 s3.1 H25)) fun j8 H27 =>
                          kk7 j8 H27) fun j7 H26 =>
                        Lt (IntKind.wrap .i64 (s3.2 - 1)) fun t4 =>
                        next3 (j7, t4) H26) (
                        Jn (σ := Bool) /-  -/ (fun kk9 =>
                          Br (!s2.1) (
                            kk9 true H25) (
                            Br (decide (s3.1 < 0)) (
                              kk9 true H25) (
                              Ld .sl (((adr b2).add 4).add 2) H25 fun (x28 : Sl) =>
                              IxA 2 x28 s3.1 fun a7 =>
                              Ld .sl (a7.add 1) H25 fun (x29 : Sl) =>
                              Ld .sl ((adr b4).add 1) H25 fun (x30 : Sl) =>
                              kk9 ((x29.len : Int) != (x30.len : Int)) H25))) fun j9 H28 =>
                        Br j9 (
                          k false H28) (
                          Lt (IntKind.wrap .i64 (s1 + 1)) fun t5 =>
                          next1 t5 H28))) (-1, t3) H23)) (false, 0) H22)) (
              LoopT (σ := Int) /- i -/ (fun next4 s4 H29 =>
                Ld .sl ((adr b3).add 2) H29 fun (x31 : Sl) =>
                Br (decide (s4 < (x31.len : Int))) (
                  Jn (σ := Bool) /-  -/ (fun kk10 =>
                    Ld .sl ((adr b3).add 2) H29 fun (x32 : Sl) =>
                    IxA 5 x32 s4 fun a8 =>
                    LdC [(.int .i64), (.int .i64)] (a8.add 1) H29 fun (c6 : Int × Int) =>
                    LdC [(.int .i64), (.int .i64)] ((adr b2).add 4) H29 fun (c7 : Int × Int) =>
                    Br (!(eqL [(.int .i64), (.int .i64)] (c6.1, c6.2) (c7.1, c7.2))) (
                      kk10 true H29) (
                      Ld .sl ((adr b3).add 2) H29 fun (x33 : Sl) =>
                      IxA 5 x33 s4 fun a9 =>
                      Ld (.int .i64) a9 H29 fun (x34 : Int) =>
                      kk10 (x34 != system_) H29)) fun j10 H30 =>
                  Br j10 (
                    k false H30) (
                    Lt (IntKind.wrap .i64 (s4 + 1)) fun t6 =>
                    next4 t6 H30)) (
                  k true H29)) 0 H18)) 0 H16))) := by
  subst hr1
  have hn' := hn
  unfold I64 at hn'
  have hsl' := hss.len
  have hpl' := hps.len
  simp only [adr_add, mk_add]
  have c3 : ∀ {H'}, Ext H14 H' → Row H' b3 T_api_Outcome [slV vs, slV cs, slV es, .int .i64 st, .int .i64 er] := fun h => h.row h3 fun h => h
  have c1 : ∀ {H'}, Ext H14 H' → hcell H' (adr b1) = some (.slice p.1.a p.1.len p.1.cap) := fun h => ((h.row h1 fun h => h).cell 0).trans rfl
  have c2 : ∀ {H'}, Ext H14 H' → hcell H' ⟨b2, 6, none⟩ = some (.slice e.rp.a e.rp.len e.rp.cap) := fun h => ((h.row h2 fun h => h).cell 6).trans rfl
  have hsys := ho.h_sys
  refine Jn.mk (fun j H' => H14 = H' ∧ j = false) (fun kk hkk => ?_) ?_
  · refine Ld_int (n := er) ((h3.cell 4).trans rfl) ?_
    refine Br_dec (fun h => ?_) fun h => ?_
    · have e1 : (er == 190) = true := by rw [beq_iff_eq]; exact hsys.2 (by omega)
      rw [e1]
      exact hkk _ _ ⟨rfl, rfl⟩
    · refine Ld_sl (s := p.1) (c1 (.refl _ _)) ?_
      have e1 : (er == 190) = decide (system_ ≥ (p.1.len : Int)) := by
        rw [trueq]; exact decide_eq_decide.2 (hsys.trans (by omega))
      rw [e1]
      exact hkk _ _ ⟨rfl, by simp⟩
  rintro j _ ⟨rfl, rfl⟩
  rw [Br_false]
  have hst := ho.h_st
  have hfu := ho.h_fuel
  have hcl := ho.h_cl
  have hel := ho.h_el
  have cst : hcell H14 ⟨b3, 3, none⟩ = some (.int .i64 st) := (h3.cell 3).trans rfl
  have cer : hcell H14 ⟨b3, 4, none⟩ = some (.int .i64 er) := (h3.cell 4).trans rfl
  have ccs : hcell H14 ⟨b3, 1, none⟩ = some (.slice cs.a cs.len cs.cap) := (h3.cell 1).trans rfl
  have ces : hcell H14 ⟨b3, 2, none⟩ = some (.slice es.a es.len es.cap) := (h3.cell 2).trans rfl
  have cvs : hcell H14 (adr b3) = some (.slice vs.a vs.len vs.cap) := (h3.cell 0).trans rfl
  refine Jn.mk (fun j H' => H14 = H' ∧ j = false) (fun kk hkk => ?_) ?_
  · refine Ld_int cst (Br_dec (fun h => by omega) fun _ => Ld_int cst (Br_dec (fun h => by omega) fun _ => Ld_int cer (Ld_int cst ?_)))
    have e2 : ((er == 120) == (st == 2001)) = true := by
      rw [beq_iff_eq, Bool.eq_iff_iff, beq_iff_eq, beq_iff_eq]; exact hfu
    rw [e2]
    exact Ld_sl (s := cs) ccs (Br_dec (fun h => by omega) fun _ => Ld_sl (s := es) ces (hkk _ _ ⟨rfl, decide_eq_false (by omega)⟩))
  rintro j _ ⟨rfl, rfl⟩
  rw [Br_false]
  refine Ld_int cer (Br.mk (fun hne => ?_) fun he0 => ?_)
  · obtain ⟨v0, v1, v2⟩ := ho.h_bad (by simpa using hne)
    refine Jn.mk (fun j H' => H14 = H' ∧ j = true) (fun kk hkk => ?_) (by rintro j _ ⟨rfl, rfl⟩; exact hk _ (.refl _ _))
    refine Ld_sl (s := vs) cvs ?_
    rw [v0]
    refine Ld_sl (s := cs) ccs ?_
    rw [v1]
    refine Ld_sl (s := es) ces ?_
    rw [v2]
    exact hkk _ _ ⟨rfl, rfl⟩
  have he0 : er = 0 := by simpa using he0
  obtain ⟨⟨qs, hqs, hqk, hqv⟩, evs, hevs, hev⟩ := ho.h_ok he0
  have hin : 0 ≤ system_ ∧ system_ < (ss.length : Int) := by
    apply Classical.byContradiction
    intro h
    have := hsys.2 h
    omega
  have hlt : system_.toNat < ss.length := by omega
  have hqsl := hqs.len
  have hevl := hevs.len
  generalize hs0 : ss[system_.toNat]! = s0 at *
  have hs0m : s0 ∈ ss := by rw [← hs0, getElem!_pos ss _ hlt]; exact List.getElem_mem _
  obtain ⟨hW, hWl⟩ := hset s0 hs0m
  have hWn := hW.len
  have gS : ∀ {k : Addr → Prop}, (∀ a, hcells H14 a 0 (sysV s0) → k a) → IxA 8 p.1 system_ k := fun hk => IxA_rn' sysV_len hss (by decide) (j := system_.toNat) (by omega) hlt fun a ha => by
    rw [hs0] at ha; exact hk a ha
  have gP : ∀ {i : Int} {j : Nat} (hj : j < ps0.length) {k : Addr → Prop}, i = j → (∀ a, hcell H14 a = some (.int .i64 ps0[j].kind) → hcell H14 (a.add 1) = some (slV ps0[j].sl) → k a) → IxA 2 e.rp i k := fun {i j} hj {k} hi hk => IxA_rn' ptV_len hps (by decide) hi hj fun a ha => by
    rw [getElem!_pos ps0 _ hj] at ha
    exact hk a ha.1 ha.2.1
  have gQ : ∀ {i : Int} {j : Nat} (hj : j < qs.length) {k : Addr → Prop}, i = j → (∀ a, hcells H14 a 0 (ptV qs[j]) → k a) → IxA 2 vs i k := fun {i j} hj {k} hi hk => IxA_rn' ptV_len hqs (by decide) hi hj fun a ha => by
    rw [getElem!_pos qs _ hj] at ha
    exact hk a ha
  have up : ∀ {H' : Heap} {a : Addr} {v : Value}, Ext H14 H' → hcell H14 a = some v → hcell H' a = some v := fun hE g => hE.cell g fun h => h
  have hql : qs.length ≤ 2 ^ 60 := by
    have h1 : (qs.map PtP.kind).length ≤ (s0.l 3).length := (show (qs.map PtP.kind).Nodup from List.Pairwise.imp (fun {a b} (h : a < b) => (show a ≠ b by omega)) hqk).length_le_of_subset fun u hu => by
      obtain ⟨q, hq, rfl⟩ := List.mem_map.1 hu
      exact (hqv q hq).2.1
    rw [List.length_map] at h1
    omega
  -- each value
  refine LoopT.mk (fun i H' => Ext H14 H' ∧ ∃ m : Nat, i = m ∧ m ≤ qs.length) (fun i _ => qs.length - i.toNat) ⟨.refl _ _, 0, rfl, Nat.zero_le _⟩ ?_
  rintro next _ H1 ⟨hE1, m, rfl, hm⟩ hnext
  refine Ld_sl (s := vs) (up hE1 cvs) (Br_dec (fun hlt1 => ?_) fun hge1 => ?_)
  · have hm2 : m < qs.length := by omega
    obtain ⟨hq1, hq2, v, hq3, hq4⟩ := hqv _ (List.getElem_mem hm2)
    refine Ld_sl (s := vs) (up hE1 cvs) (gQ hm2 rfl fun a ha => ⟨(qs[m].kind, qs[m].sl), hcells_ext hE1 ha, ?_⟩)
    refine Nw_row (vs := [.int .i64 0, .slice none 0 0]) fun b4 H2 hb4 hE2 _ hr2 => ?_
    refine St_row hr2 (by simp) fun H3 hU3 _ hr3 => St_row hr3 (by simp) fun H4 hU4 _ hr4 => ?_
    have hr4 : Row H4 b4 T_api_Part [.int .i64 qs[m].kind, slV qs[m].sl] := hr4
    have hE4 : Ext H14 H4 := extUpd (extUpd (hE1.trans hE2 fun _ _ h => h) (by have := hE1.size; omega) hU3) (by have := hE1.size; omega) hU4
    have ck : hcell H4 (adr b4) = some (.int .i64 qs[m].kind) := (hr4.cell 0).trans rfl
    refine Jn.mk (fun j H' => H4 = H' ∧ j = false) (fun kk hkk => Br_dec (fun hpos => ?_) fun _ => hkk _ _ ⟨rfl, rfl⟩) ?_
    · refine Ld_int ck (Ld_sl (s := vs) (up hE4 cvs) (Lt.mk (u := ((m - 1 : Nat) : Int)) (by rw [wrap_i64_id] <;> omega) (gQ (j := m - 1) (by omega) rfl fun a' ha' => Ld_int (n := qs[m - 1].kind) (up hE4 ha'.1) (hkk _ _ ⟨rfl, decide_eq_false ?_⟩))))
      have := List.pairwise_iff_getElem.1 hqk (m - 1) m (by rw [List.length_map]; omega) (by rw [List.length_map]; omega) (by omega)
      rw [List.getElem_map, List.getElem_map] at this
      omega
    rintro j _ ⟨rfl, rfl⟩
    rw [Br_false]
    -- is it written?
    refine LoopT.mk (fun s H' => H4 = H' ∧ ∃ i : Nat, s.2 = i ∧ i ≤ (s0.l 3).length ∧ s.1 = decide (qs[m].kind ∈ (s0.l 3).take i)) (fun s _ => (s0.l 3).length - s.2.toNat) ⟨rfl, 0, rfl, Nat.zero_le _, by simp⟩ ?_
    rintro next2 ⟨w, i⟩ _ ⟨rfl, i', hi, hil, hw⟩ hnext2
    dsimp only at hi hw ⊢
    subst hi hw
    refine Ld_sl (s := p.1) (c1 hE4) (gS fun a ha => Ld_sl (s := s0.s 3) (up hE4 ha.2.2.2.1) (Br_dec (fun hlt2 => ?_) fun hge2 => ?_))
    · have hi2 : i' < (s0.l 3).length := by omega
      have etk : (s0.l 3).take (i' + 1) = (s0.l 3).take i' ++ [(s0.l 3)[i']] := by rw [List.take_add_one, List.getElem?_eq_getElem hi2]; rfl
      refine Jn.mk (fun j H' => H4 = H' ∧ j = decide (qs[m].kind ∈ (s0.l 3).take (i' + 1))) (fun kk hkk => Br.mk (fun hb => hkk _ _ ⟨rfl, ?_⟩) fun hb => ?_) ?_
      · have hb := of_decide_eq_true hb
        exact (decide_eq_true (by rw [etk]; exact List.mem_append_left _ hb)).symm
      · have hb := of_decide_eq_false hb
        refine Ld_sl (s := p.1) (c1 hE4) (gS fun a ha => Ld_sl (s := s0.s 3) (up hE4 ha.2.2.2.1) (IxA_rl hW rfl hi2 fun a' ha' => Ld_int (n := (s0.l 3)[i']) (up hE4 ha') (Ld_int ck (hkk _ _ ⟨rfl, ?_⟩))))
        rw [trueq]
        refine decide_eq_decide.2 ?_
        rw [etk, List.mem_append, List.mem_singleton]
        exact ⟨fun h => .inr h.symm, fun h => h.elim (fun h => absurd h hb) fun h => h.symm⟩
      · rintro j _ ⟨rfl, rfl⟩
        exact Lt.mk (u := ((i' + 1 : Nat) : Int)) (by rw [wrap_i64_id] <;> omega) (hnext2 _ _ ⟨rfl, i' + 1, rfl, hi2, rfl⟩ (by dsimp only; omega))
    · rw [List.take_of_length_le (by omega), decide_eq_true hq2]
      -- where is it?
      refine Ld_sl (s := e.rp) (c2 hE4) (Lt.mk (u := (ps0.length : Int) - 1) (by rw [wrap_i64_id] <;> omega) ?_)
      obtain ⟨t, ht, htk, htf, htv, _⟩ := (es_first (key := qs[m].kind) (es := ps0)).resolve_right fun h => by rw [h.1] at hq3; cases hq3
      have htv : ps0[t].vals.length = qs[m].vals.length := by rw [hq3] at htv; cases htv; exact hq4
      refine LoopT.mk (fun s H' => H4 = H' ∧ -1 ≤ s.2 ∧ s.2 < (ps0.length : Int) ∧ (s.2 < t → s.1 = t)) (fun s _ => (s.2 + 1).toNat) ⟨rfl, by omega, by omega, fun h => by dsimp only at h; omega⟩ ?_
      rintro next3 ⟨at', i⟩ _ ⟨rfl, hi1, hi2, hat⟩ hnext3
      dsimp only at hi1 hi2 hat ⊢
      refine Br_dec (fun hpos => ?_) fun hneg => ?_
      · have hip : i.toNat < ps0.length := by omega
        refine Jn.mk (fun j H' => H4 = H' ∧ (i - 1 < t → j = t)) (fun kk hkk => ?_) ?_
        · refine Ld_sl (s := e.rp) (c2 hE4) (gP hip (by omega) fun a ha _ => Ld_int (n := ps0[i.toNat].kind) (up hE4 ha) (Ld_int ck (Jn_in (Br.mk (fun hb => hkk _ _ ⟨rfl, fun h => ?_⟩) fun hb => hkk _ _ ⟨rfl, fun h => ?_⟩))))
          · have hb := beqI hb
            rcases Nat.lt_trichotomy i.toNat t with c | c | c
            · exact absurd hb (htf _ hip c)
            · omega
            · omega
          · have hb := bneI hb
            refine hat ?_
            have : i ≠ t := fun e => hb (by
              have e' : i.toNat = t := by omega
              subst e'; exact htk)
            omega
        · rintro j _ ⟨rfl, hj⟩
          exact Lt.mk (u := i - 1) (by rw [wrap_i64_id] <;> omega) (hnext3 _ _ ⟨rfl, by dsimp only; omega, by dsimp only; omega, hj⟩ (by dsimp only; omega))
      · have hat := hat (by omega)
        subst hat
        refine Jn.mk (fun j H' => H4 = H' ∧ j = false) (fun kk hkk => ?_) ?_
        · rw [Bool.not_true, Br_false]
          refine Br_dec (fun h => by omega) fun _ => ?_
          refine Ld_sl (s := e.rp) (c2 hE4) ?_
          refine gP ht rfl fun a _ ha => ?_
          refine Ld_sl (s := ps0[t].sl) (up hE4 ha) ?_
          refine Ld_sl (s := qs[m].sl) ((hr4.cell 1).trans rfl) (hkk _ _ ⟨rfl, ?_⟩)
          rw [hpv _ (List.getElem_mem ht), hq1, htv]; simp
        · rintro j _ ⟨rfl, rfl⟩
          rw [Br_false]
          exact Lt.mk (u := ((m + 1 : Nat) : Int)) (by rw [wrap_i64_id] <;> omega) (hnext _ _ ⟨hE4, m + 1, rfl, hm2⟩ (by omega))
  · -- each event
    refine LoopT.mk (fun i H' => H1 = H' ∧ ∃ m : Nat, i = m ∧ m ≤ evs.length) (fun i _ => evs.length - i.toNat) ⟨rfl, 0, rfl, Nat.zero_le _⟩ ?_
    rintro next4 _ _ ⟨rfl, m4, rfl, hm4⟩ hnext4
    refine Ld_sl (s := es) (up hE1 ces) (Br_dec (fun hlt2 => ?_) fun _ => hk _ hE1)
    have hm5 : m4 < evs.length := by omega
    obtain ⟨g1, g2⟩ := hev _ (List.getElem_mem hm5)
    have gE : ∀ {k : Addr → Prop}, (∀ a, hcells H14 a 0 (evV evs[m4]) → k a) → IxA 5 es (m4 : Nat) k := fun hk => IxA_rn' evV_len hevs (by decide) rfl hm5 fun a ha => by
      rw [getElem!_pos evs _ hm5] at ha
      exact hk a ha
    refine Jn.mk (fun j H' => H1 = H' ∧ j = false) (fun kk hkk => ?_) ?_
    · refine Ld_sl (s := es) (up hE1 ces) (gE fun a ha => ⟨(e.ix, e.gn), ?_, ⟨(e.ix, e.gn), ⟨((hE1.row h2 fun h => h).cell 4).trans rfl, ((hE1.row h2 fun h => h).cell 5).trans rfl, trivial⟩, ?_⟩⟩)
      · have ha := hcells_ext hE1 ha
        have e1 : evs[m4].e.1 = e.ix := congrArg Prod.fst g1
        have e2 : evs[m4].e.2 = e.gn := congrArg Prod.snd g1
        have h1 := ha.2.1
        have h2 := ha.2.2.1
        rw [e1] at h1
        rw [e2] at h2
        have h1' : hcell H1 ((a.add 1).add 0) = some (.int .i64 e.ix) := by rw [addAdd]; exact h1
        have h2' : hcell H1 ((a.add 1).add 1) = some (.int .i64 e.gn) := by rw [addAdd]; exact h2
        exact ⟨h1', h2', trivial⟩
      · have eq1 : eqL [(.int .i64), (.int .i64)] (e.ix, e.gn) (e.ix, e.gn) = true := by simp [eqL, eqT]
        dsimp only
        rw [eq1]
        refine Ld_sl (s := es) (up hE1 ces) (gE fun a ha => Ld_int (n := evs[m4].sys) (up hE1 ha.1) (hkk _ _ ⟨rfl, ?_⟩))
        rw [g2]; simp
    · rintro j _ ⟨rfl, rfl⟩
      rw [Br_false]
      exact Lt.mk (u := ((m4 + 1 : Nat) : Int)) (by rw [wrap_i64_id] <;> omega) (hnext4 _ _ ⟨rfl, m4 + 1, rfl, hm5⟩ (by omega))
end Go.Proofs.YtfpmgpblhhcpgaaGreat
/-
  Machine: MachineEnds over any arguments that can be read.
-/
namespace Go.Proofs.YtfpmgpblhhcpgaaGreat
set_option linter.unusedVariables false
set_option linter.unusedSimpArgs false
open Go.Proofs.YtfpmgpblhhcpgaaGreat.Hc Go.Proofs.YtfpmgpblhhcpgaaGreat.Hc.Vf Go.Proofs.YtfpmgpblhhcpgaaGreat.Hc.Mc Go.Proofs.YtfpmgpblhhcpgaaGreat.Hc.Dice
set_option maxRecDepth 100000
variable {H : Heap}

theorem sys_get {ss : List Sy} {n : Int} (hn : 0 ≤ n ∧ n < (ss.length : Int)) : ss[n.toNat]! ∈ ss := by
  rw [getElem!_pos ss _ (by omega)]; exact List.getElem_mem _
theorem RouI.fnOk {r : Rou} (h : RouI H r) : FnOk (fnOf r) := ⟨h.loc, h.par, h.ins, by have := h.len; show r.code.length ≤ _; omega⟩
theorem PrgI.ctx {B : Heap} {p : Sl × Sl} {ss : List Sy} {fs : List Rou} (hP : PrgI B p ss fs) (hE : Ext B H) {n : Int} (hn : 0 ≤ n ∧ n < (ss.length : Int)) {inS : Sl} {ins : List (Int × Int × Int)} (hi : RN inV 3 H inS ins) (hl : ins.length * 24 ≤ 140737488351232)
    (hB : ∀ a, inS.a = some a → a.spot = none ∧ a.block < H.size) (hN : inS.a = none → inS.cap = 0) : CtxR H p.2 (ss[n.toNat]!) inS fs ins :=
  ⟨hP.fun'.ext hE, fun r hr => ((hP.funR r hr).code).ext hE, fun q hq => ((hP.sysR _ (sys_get hn)).sets q hq).ext hE, fun q hq => by have := (hP.sysR _ (sys_get hn)).lens q hq; omega, hi, hl, hB, hN⟩
theorem PrgI.pok {B : Heap} {p : Sl × Sl} {ss : List Sy} {fs : List Rou} (hP : PrgI B p ss fs) {n : Int} (hn : 0 ≤ n ∧ n < (ss.length : Int)) (lim : Int) : POk ⟨fs.map fnOf, fnOf (ss[n.toNat]!).rou, (ss[n.toNat]!).l 2, (ss[n.toNat]!).l 3, n, lim⟩ :=
  ⟨fun f hf => by
    obtain ⟨r, hr, rfl⟩ := List.mem_map.1 hf
    exact (hP.funR r hr).fnOk, (hP.sysR _ (sys_get hn)).rou.fnOk⟩
theorem EnvI.eok {B : Heap} {e : EnV} {ins : List (Int × Int × Int)} {ps : List PtP} (h : EnvI B e ins ps) : EOk (enS e ins) := ⟨h.fr, h.ix, fun x hx => (h.in64 x hx).2.2⟩
theorem cp_parts {B : Heap} {e : EnV} {ins : List (Int × Int × Int)} {ps qs : List PtP} (hE : EnvI B e ins ps) (hq : qs.map PtP.pt = ps.map PtP.pt) : ∀ q ∈ qs, q.vals.length ≤ 2 ^ 44 ∧ All64 q.vals := fun q hq' => by
  have : q.pt ∈ ps.map PtP.pt := by rw [← hq]; exact List.mem_map.2 ⟨q, hq', rfl⟩
  obtain ⟨r, hr, e⟩ := List.mem_map.1 this
  have e2 : r.vals = q.vals := congrArg Pt.vals e
  have := hE.prR r hr
  rw [e2] at this
  exact ⟨this.2.1, this.2.2.1⟩
theorem map_len {ps qs : List PtP} (h : qs.map PtP.pt = ps.map PtP.pt) : qs.length = ps.length := by
  have := congrArg List.length h
  simpa using this
/-- A run for an Env that was copied. -/
theorem run_in {B : Heap} {p : Sl × Sl} {ss : List Sy} {fs : List Rou} {e : EnV} {ins : List (Int × Int × Int)} {ps qs : List PtP} {bi bp lo : Nat} (hP : PrgI B p ss fs) (hE : EnvI B e ins ps) (hx : Ext B H) (hcp : CpR lo H bi bp ins qs) (hq : qs.map PtP.pt = ps.map PtP.pt) {n : Int} (hn : 0 ≤ n ∧ n < (ss.length : Int)) :
    RunIn H p ss n (cpE e bi bp ins.length qs.length) qs fs ins := by
  have hql := map_len hq
  have := hE.prL
  exact ⟨hP.sys.ext hx, hn, hP.ctx hx hn hcp.rnI hE.inL (fun a ha => by cases ha; exact ⟨rfl, hcp.inp.lt⟩) (fun h => by cases h), ((hP.sysR _ (sys_get hn)).rou.code).ext hx, hcp.rnP, fun q hq' => ⟨hcp.rlV hq', (cp_parts hE hq q hq').1, (cp_parts hE hq q hq').2⟩, by omega, (hP.sysR _ (sys_get hn)).lens 3 (by decide), hP.pok hn _, hE.eok⟩
/-- The program's run for such an Env. -/
theorem s_RunC {B : Heap} {p : Sl × Sl} {ss : List Sy} {fs : List Rou} {e : EnV} {ins : List (Int × Int × Int)} {ps qs : List PtP} {bi bp lo : Nat} (hP : PrgI B p ss fs) (hE : EnvI B e ins ps) (hx : Ext B H) (hcp : CpR lo H bi bp ins qs) (hq : qs.map PtP.pt = ps.map PtP.pt) {n : Int} {k : Sl × Sl × Sl × Int × Int → Heap → Prop}
    (hno : ∀ H', Ext H H' → ¬ (0 ≤ n ∧ n < (ss.length : Int)) → k (⟨none, 0, 0⟩, ⟨none, 0, 0⟩, ⟨none, 0, 0⟩, 0, 190) H')
    (hbad : ∀ H' N er m', Ext H H' → 0 ≤ n ∧ n < (ss.length : Int) → Runs (mpS (ss[n.toNat]!) n fs) (enS e ins) (initM (mpS (ss[n.toNat]!) n fs) (enS e ins) (firsts (ps.map PtP.pt))) N er m' → er ≠ 0 → k (⟨none, 0, 0⟩, ⟨none, 0, 0⟩, ⟨none, 0, 0⟩, m'.steps, er) H')
    (hok : ∀ H' N m' vs cs es (ps' : List PtP) (cl : List CmP) (q : List PtP), Ext H H' → 0 ≤ n ∧ n < (ss.length : Int) → Runs (mpS (ss[n.toNat]!) n fs) (enS e ins) (initM (mpS (ss[n.toNat]!) n fs) (enS e ins) (firsts (ps.map PtP.pt))) N 0 m' → OutR H.size H' vs cs es ps' cl m'.evs → m'.cmds = cl.map CmP.cm → m'.vals = q.map PtP.pt →
      (q.map PtP.kind).Nodup → ps' = partsOf q (Lib.compact (((ss[n.toNat]!).l 3).mergeSort fun a b => decide (a ≤ b))) → k (vs, cs, es, m'.steps, 0) H') :
    CallT Pg f_machine_Run [prgA p, .int .i64 n, envA (cpE e bi bp ins.length qs.length)] RunT H k := by
  by_cases hn : 0 ≤ n ∧ n < (ss.length : Int)
  · have r := run_in hP hE hx hcp hq hn
    refine s_Run inputOk (fs := fs) (ins := ins) (ps0 := qs) r.h_ss hn r.h_cx r.h_co r.h_ps r.h_pr r.h_pl r.h_wl (hP.pok hn _) r.h_E (fun H' N er m' h1 h2 h3 => ?_) fun H' N m' vs cs es ps' cl q h1 h2 h3 h4 h5 h6 h7 => ?_
    · rw [hq] at h2; exact hbad H' N er m' h1 hn h2 h3
    · rw [hq] at h2; exact hok H' N m' vs cs es ps' cl q h1 hn h2 h3 h4 h5 h6 h7
  · exact s_Run_no (e := cpE e bi bp ins.length qs.length) (hP.sys.ext hx) hn fun H' h => hno H' h hn
theorem s_endsRun {B : Heap} {p : Sl × Sl} {ss : List Sy} {fs : List Rou} {e : EnV} {ins : List (Int × Int × Int)} {ps qs : List PtP} {bi bp lo : Nat} (hP : PrgI B p ss fs) (hE : EnvI B e ins ps) (hx : Ext B H) (hcp : CpR lo H bi bp ins qs) (hq : qs.map PtP.pt = ps.map PtP.pt) {n : Int} {k : Sl × Sl × Sl × Int × Int → Heap → Prop}
    (hk : ∀ H' vs cs es st er, Ext H H' → EndsP p ss n e ps H' vs cs es st er → (∀ s, s = vs ∨ s = es → ∀ a, s.a = some a → H.size ≤ a.block ∧ a.block < H'.size) → k (vs, cs, es, st, er) H') :
    CallT Pg f_machine_Run [prgA p, .int .i64 n, envA (cpE e bi bp ins.length qs.length)] RunT H k := by
  refine s_RunC hP hE hx hcp hq (fun H' h hn => hk _ _ _ _ _ _ h ?_ fun s hs a ha => by rcases hs with rfl | rfl <;> cases ha) (fun H' N er m' h hn hr hne => hk _ _ _ _ _ _ h ?_ fun s hs a ha => by rcases hs with rfl | rfl <;> cases ha) fun H' N m' vs cs es ps' cl q h hn hr ho hcm hv hnd hps => hk _ _ _ _ _ _ h ?_ fun s hs a ha => ?_
  · exact ⟨⟨fun _ => hn, fun _ => rfl⟩, by omega, by omega, by decide, by decide, fun _ => ⟨rfl, rfl, rfl⟩, fun h => by cases h⟩
  · have hM := init_ok (E := enS e ins) (ps := ps.map PtP.pt) (hP.pok hn (2 ^ 40)) fun q hq => by
      obtain ⟨q', hq', rfl⟩ := List.mem_map.1 hq
      exact (hE.prR q' hq').2.2.1
    rcases runs_end (hP.pok hn _) hE.eok hr hM with ⟨h0, _⟩ | ⟨h1, h2⟩ | ⟨h1, h2, h3, h4, h5⟩
    · exact absurd h0 hne
    · exact ⟨⟨fun h => by omega, fun h => absurd hn h⟩, by omega, by omega, by decide, by decide, fun _ => ⟨rfl, rfl, rfl⟩, fun h => absurd h hne⟩
    · exact ⟨⟨fun h => absurd h h3, fun h => absurd hn h⟩, by omega, by omega, by decide, by decide, fun _ => ⟨rfl, rfl, rfl⟩, fun h => absurd h hne⟩
  · have hM := init_ok (E := enS e ins) (ps := ps.map PtP.pt) (hP.pok hn (2 ^ 40)) fun q hq => by
      obtain ⟨q', hq', rfl⟩ := List.mem_map.1 hq
      exact (hE.prR q' hq').2.2.1
    rcases runs_end (hP.pok hn _) hE.eok hr hM with ⟨_, hM'⟩ | ⟨h1, _⟩ | ⟨h1, _⟩
    rotate_left
    · cases h1
    · exact absurd rfl h1
    have hst : 0 ≤ m'.steps ∧ m'.steps ≤ 2000 := hM'.steps
    have hcl := hM'.cmds
    rw [hcm, List.length_map] at hcl
    have hev := hM'.evs
    have hcs := ho.cv.len
    rw [flat_len cmV_len] at hcs
    have hes := ho.ev.len
    rw [flat_len evV_len] at hes
    obtain ⟨hsh, hevs⟩ := runs_shape hr fun ev hev => by cases hev
    have hsh : shp2 m'.vals = shp2 (firsts (ps.map PtP.pt)) := hsh
    obtain ⟨hu1, hu2⟩ := sortU_ok ((ss[n.toNat]!).l 3)
    refine ⟨⟨fun h => (by cases h), fun h => absurd hn h⟩, by omega, by omega, by omega, by omega, fun h => absurd rfl h, fun _ => ⟨⟨ps', VecN.rn ptV_len (by decide) ho.vv, ?_, fun x hx => ?_⟩, m'.evs, VecN.rn evV_len (by decide) ho.ev, fun ev hev => hevs ev hev⟩⟩
    · rw [hps, parts_kind]; exact hu1.sublist List.filter_sublist
    · have hv' := ho.vR x hx
      have hl := hv'.len
      rw [List.length_map] at hl
      rw [hps] at hx
      obtain ⟨kd, hkd, hf⟩ := List.mem_filterMap.1 hx
      have e1 : x.kind = kd := by have := List.find?_some hf; simpa using this
      have hxq := List.mem_of_find?_eq_some hf
      refine ⟨hl, by rw [e1]; exact (hu2 kd).1 hkd, ?_⟩
      rw [hv] at hsh
      obtain ⟨v, g1, g2⟩ := shp_look hsh (List.mem_map.2 ⟨x, hxq, rfl⟩)
      refine ⟨v, g1, g2 ?_⟩
      rw [List.map_map]; exact hnd
  · have key : ∀ {T : TypeId} {m : Nat} {vs' : List Value}, VecN H' T m s vs' → s ∈ vs :: cs :: es :: (ps'.map PtP.sl ++ cl.flatMap cmSl ++ cl.map CmP.psl) → H.size ≤ a.block ∧ a.block < H'.size := fun hv hm => by
      obtain ⟨b, rfl⟩ := VecN.blk hv ha
      exact ⟨ho.new s hm b ha, hv.lt ha⟩
    rcases hs with rfl | rfl
    · exact key ho.vv (by simp)
    · exact key ho.ev (by simp)
theorem EndsP.upd {p : Sl × Sl} {ss : List Sy} {n : Int} {e : EnV} {ps : List PtP} {vs cs es : Sl} {st er : Int} (h : EndsP p ss n e ps H vs cs es st er) {b : Nat} {H' : Heap} (hU : Upd (· = b) H H') (hb : ∀ s, s = vs ∨ s = es → ∀ a, s.a = some a → a.block ≠ b) : EndsP p ss n e ps H' vs cs es st er :=
  ⟨h.h_sys, h.h_st, h.h_fuel, h.h_cl, h.h_el, h.h_bad, fun h0 => by
    obtain ⟨⟨qs, h1, h2, h3⟩, evs, h4, h5⟩ := h.h_ok h0
    exact ⟨⟨qs, h1.upd hU fun a ha => hb vs (.inl rfl) a ha, h2, h3⟩, evs, h4.upd hU fun a ha => hb es (.inr rfl) a ha, h5⟩⟩
theorem s_MachineEnds {p : Sl × Sl} {ss : List Sy} {fs : List Rou} {e : EnV} {ins : List (Int × Int × Int)} {ps : List PtP} (hP : PrgI H p ss fs) (hE : EnvI H e ins ps) {n : Int} (hn : I64 n) {k : Bool → Heap → Prop} (hk : ∀ H', Ext H H' → k true H') :
    CallT Pg f_hindcastlaw16_MachineEnds [prgA p, .int .i64 n, envA e] (.one (.c .bool)) H k := by
  refine c_hindcastlaw16_MachineEnds p n (e.fr, e.sd, e.en, e.inS, e.ix, e.gn, e.rp) ?_
  unfold v_hindcastlaw16_MachineEnds
  refine Nw_row (vs := [slV p.1, slV p.2]) fun b1 H1 hb1 hE1 _ hr1 => ?_
  refine Nw_row (vs := envL e) fun b2 H2 hb2 hE2 _ hr2 => s_shown fun H3 hE3 => ?_
  have hE03 : Ext H H3 := (hE1.trans hE2 fun _ _ h => h).trans hE3 fun _ _ h => h
  have r1 := (hE2.trans hE3 fun _ _ h => h).row hr1 fun h => h
  have r2 := hE3.row hr2 fun h => h
  have hil : ins.length ≤ 2 ^ 43 := by have := hE.inL; omega
  have hpl : ps.length ≤ 2 ^ 42 := by have := hE.prL; omega
  have t1 : ∀ {H'}, Row H' b1 T_api_Program [slV p.1, slV p.2] → ∀ y ∈ [((⟨b1, 0, none⟩ : Addr), Value.slice p.1.a p.1.len p.1.cap), (⟨b1, 1, none⟩, .slice p.2.a p.2.len p.2.cap)], hcell H' y.1 = some y.2 := fun r y hy => by
    simp only [List.mem_cons, List.not_mem_nil, or_false] at hy
    rcases hy with rfl | rfl
    · exact (r.cell 0).trans rfl
    · exact (r.cell 1).trans rfl
  have t2 : ∀ {H'}, Row H' b2 T_api_Env (envL e) → ∀ y ∈ [((⟨b2, 0, none⟩ : Addr), Value.int .i64 e.fr), (⟨b2, 1, none⟩, .int .i64 e.sd), (⟨b2, 2, none⟩, .int .i64 e.en), (⟨b2, 3, none⟩, .slice e.inS.a e.inS.len e.inS.cap), (⟨b2, 4, none⟩, .int .i64 e.ix), (⟨b2, 5, none⟩, .int .i64 e.gn), (⟨b2, 6, none⟩, .slice e.rp.a e.rp.len e.rp.cap)], hcell H' y.1 = some y.2 := fun r y hy => by
    simp only [List.mem_cons, List.not_mem_nil, or_false] at hy
    rcases hy with rfl | rfl | rfl | rfl | rfl | rfl | rfl
    · exact (r.cell 0).trans rfl
    · exact (r.cell 1).trans rfl
    · exact (r.cell 2).trans rfl
    · exact (r.cell 3).trans rfl
    · exact (r.cell 4).trans rfl
    · exact (r.cell 5).trans rfl
    · exact (r.cell 6).trans rfl
  have t12 : ∀ {H'}, Row H' b1 T_api_Program [slV p.1, slV p.2] → Row H' b2 T_api_Env (envL e) → ∀ y ∈ [((⟨b2, 0, none⟩ : Addr), Value.int .i64 e.fr), (⟨b2, 1, none⟩, .int .i64 e.sd), (⟨b2, 2, none⟩, .int .i64 e.en), (⟨b2, 3, none⟩, .slice e.inS.a e.inS.len e.inS.cap), (⟨b2, 4, none⟩, .int .i64 e.ix), (⟨b2, 5, none⟩, .int .i64 e.gn), (⟨b2, 6, none⟩, .slice e.rp.a e.rp.len e.rp.cap), (⟨b1, 0, none⟩, .slice p.1.a p.1.len p.1.cap), (⟨b1, 1, none⟩, .slice p.2.a p.2.len p.2.cap)], hcell H' y.1 = some y.2 := fun r1 r2 y hy => by
    rcases List.mem_append.1 (show y ∈ [((⟨b2, 0, none⟩ : Addr), Value.int .i64 e.fr), (⟨b2, 1, none⟩, .int .i64 e.sd), (⟨b2, 2, none⟩, .int .i64 e.en), (⟨b2, 3, none⟩, .slice e.inS.a e.inS.len e.inS.cap), (⟨b2, 4, none⟩, .int .i64 e.ix), (⟨b2, 5, none⟩, .int .i64 e.gn), (⟨b2, 6, none⟩, .slice e.rp.a e.rp.len e.rp.cap)] ++ [((⟨b1, 0, none⟩ : Addr), Value.slice p.1.a p.1.len p.1.cap), (⟨b1, 1, none⟩, .slice p.2.a p.2.len p.2.cap)] from hy) with h | h
    · exact t2 r2 y h
    · exact t1 r1 y h
  simp only [adr_add]
  refine ⟨p, r1.rd_all, ⟨(e.fr, e.sd, e.en, e.inS, e.ix, e.gn, e.rp), r2.rd_all, ?_⟩⟩
  have hpr : ∀ {H'}, Ext H H' → ∀ q ∈ ps, RL (Value.int .i64) H' q.sl q.vals ∧ q.vals.length ≤ 2 ^ 44 := fun hx q hq => ⟨(hE.prR q hq).1.ext hx, (hE.prR q hq).2.1⟩
  refine s_copied (e := e) (hE.inp.ext hE03) (hE.prt.ext hE03) (hpr hE03) hil hpl fun H4 bi bp qs hE4 hcp hqs => ?_
  have hE04 := hE03.trans hE4 fun _ _ h => h
  have r1 := hE4.row r1 fun h => h
  have r2 := hE4.row r2 fun h => h
  refine Stab_all (t1 r1) ?_
  have hql := map_len hqs
  rw [← hql]
  refine s_Long (e := cpE e bi bp ins.length qs.length) (ps0 := qs) (fs := fs) (ins := ins) (most := 300000) (by decide) (hP.sys.ext hE04) (fun hn => run_in hP hE hE04 hcp hqs hn) fun lg H5 hE5 => ?_
  have hE05 := hE04.trans hE5 fun _ _ h => h
  have r1 := hE5.row r1 fun h => h
  have r2 := hE5.row r2 fun h => h
  refine Stab_all (t2 r2) (Jn_in ?_)
  rw [Bool.not_true, Br_false]
  refine Br.mk (fun _ => hk _ hE05) fun _ => ?_
  refine ⟨p, r1.rd_all, ⟨(e.fr, e.sd, e.en, e.inS, e.ix, e.gn, e.rp), r2.rd_all, ?_⟩⟩
  -- the outcome is laid down, and looked at
  have tail : ∀ {H8 : Heap} {b3 : Nat} {vs cs es : Sl} {st er : Int}, Ext H5 H8 → EndsP p ss n e ps H8 vs cs es st er → Row H8 b3 T_api_Outcome [.slice none 0 0, .slice none 0 0, .slice none 0 0, .int .i64 0, .int .i64 0] → H5.size ≤ b3 → (∀ s, s = vs ∨ s = es → ∀ a, s.a = some a → a.block ≠ b3) → ∀ (K : Heap → Prop),
      (∀ H14, Ext H5 H14 → Row H14 b3 T_api_Outcome [slV vs, slV cs, slV es, .int .i64 st, .int .i64 er] → EndsP p ss n e ps H14 vs cs es st er → K H14) →
      St ⟨b3, 0, none⟩ (.slice vs.a vs.len vs.cap) H8 fun H10 => St ⟨b3, 1, none⟩ (.slice cs.a cs.len cs.cap) H10 fun H11 => St ⟨b3, 2, none⟩ (.slice es.a es.len es.cap) H11 fun H12 => St ⟨b3, 3, none⟩ (.int .i64 st) H12 fun H13 => St ⟨b3, 4, none⟩ (.int .i64 er) H13 K := fun {H8 b3 vs cs es st er} hx ho h3 hb3 hne K hK => by
    refine St_row h3 (by simp) fun G1 hU1 _ hg1 => St_row hg1 (by simp) fun G2 hU2 _ hg2 => St_row hg2 (by simp) fun G3 hU3 _ hg3 => St_row hg3 (by simp) fun G4 hU4 _ hg4 => St_row hg4 (by simp) fun G5 hU5 _ hg5 => ?_
    have hUU : Upd (· = b3) H8 G5 := (((hU1.trans hU2 fun _ _ e => e).trans hU3 fun _ _ e => e).trans hU4 fun _ _ e => e).trans hU5 fun _ _ e => e
    exact hK G5 (extUpd hx hb3 hUU) hg5 (ho.upd hUU hne)
  have fin : ∀ {H14 : Heap}, Ext H5 H14 → ∀ H', Ext H14 H' → k true H' := fun hx H' hx' => hk H' ((hE05.trans hx fun _ _ h => h).trans hx' fun _ _ h => h)
  have hsets : ∀ {H14 : Heap}, Ext H5 H14 → ∀ s ∈ ss, RL (Value.int .i64) H14 (s.s 3) (s.l 3) ∧ (s.l 3).length ≤ 2 ^ 60 := fun hx s hs => ⟨((hP.sysR s hs).sets 3 (by decide)).ext (hE05.trans hx fun _ _ h => h), by have := (hP.sysR s hs).lens 3 (by decide); omega⟩
  have hpv : ∀ q ∈ ps, q.sl.len = q.vals.length := fun q hq => (hE.prR q hq).1.len
  have hsl : ss.length ≤ 2 ^ 60 := by have := hP.sl; omega
  refine ⟨?_, ?_, trivial⟩
  · refine s_copied (e := e) (hE.inp.ext hE05) (hE.prt.ext hE05) (hpr hE05) hil hpl fun H7 bi' bp' qs' hE7 hcp' hqs' => ?_
    have hE07 := hE05.trans hE7 fun _ _ h => h
    have r1 := hE7.row r1 fun h => h
    have r2 := hE7.row r2 fun h => h
    refine Stab_all (t1 r1) ?_
    rw [← map_len hqs']
    refine ⟨?_, ?_, trivial⟩
    · refine s_endsRun hP hE hE07 hcp' hqs' fun H8 vs cs es st er hE8 ho hnew => ?_
      have hE58 := hE7.trans hE8 fun _ _ h => h
      have r2 := hE8.row r2 fun h => h
      have r1 := hE8.row r1 fun h => h
      refine Stab_all (t2 r2) ?_
      refine Nw_row (vs := [.slice none 0 0, .slice none 0 0, .slice none 0 0, .int .i64 0, .int .i64 0]) fun b3 H9 hb3 hE9 _ hr3 => ?_
      have r2 := hE9.row r2 fun h => h
      have r1 := hE9.row r1 fun h => h
      refine Stab_all (t12 r1 r2) ?_
      have hE59 := hE58.trans hE9 fun _ _ h => h
      have hne : ∀ s, s = vs ∨ s = es → ∀ a, s.a = some a → a.block ≠ b3 := fun s hs a ha => by have := (hnew s hs a ha).2; omega
      have ho9 : EndsP p ss n e ps H9 vs cs es st er := ho.upd (hE9.mono fun _ _ h => h.elim) hne
      refine tail hE59 ho9 hr3 (by have := hE58.size; omega) hne _ fun H14 hx h3 ho => ?_
      have hq1 : Row H14 b1 T_api_Program [slV p.1, slV p.2] := hx.row ‹Row H5 b1 T_api_Program _› fun h => h
      have hq2 : Row H14 b2 T_api_Env (envL e) := hx.row ‹Row H5 b2 T_api_Env _› fun h => h
      exact ends_tail rfl hq1 hq2 h3 (hP.sys.ext (hE05.trans hx fun _ _ h => h)) (hsets hx) (hE.prt.ext (hE05.trans hx fun _ _ h => h)) hpv (by omega) hsl hn ho (fin hx)
    · refine Nw_row (vs := [.slice none 0 0, .slice none 0 0, .slice none 0 0, .int .i64 0, .int .i64 0]) fun b3 H8 hb3 hE8 _ hr3 => ?_
      have r2 := hE8.row r2 fun h => h
      have r1 := hE8.row r1 fun h => h
      refine Stab_all (t12 r1 r2) ?_
      have hE58 := hE7.trans hE8 fun _ _ h => h
      refine s_endsRun hP hE (hE07.trans hE8 fun _ _ h => h) (hcp'.ext hE8) hqs' fun H9 vs cs es st er hE9 ho hnew => ?_
      have r2 := hE9.row r2 fun h => h
      have r1 := hE9.row r1 fun h => h
      refine Stab_all (t2 r2) ?_
      have hE59 := hE58.trans hE9 fun _ _ h => h
      have hne : ∀ s, s = vs ∨ s = es → ∀ a, s.a = some a → a.block ≠ b3 := fun s hs a ha => by have := (hnew s hs a ha).1; have := hr3.lt; omega
      refine tail hE59 ho (hE9.row hr3 fun h => h) (by have := hE7.size; omega) hne _ fun H14 hx h3 ho => ?_
      have hq1 : Row H14 b1 T_api_Program [slV p.1, slV p.2] := hx.row ‹Row H5 b1 T_api_Program _› fun h => h
      have hq2 : Row H14 b2 T_api_Env (envL e) := hx.row ‹Row H5 b2 T_api_Env _› fun h => h
      exact ends_tail rfl hq1 hq2 h3 (hP.sys.ext (hE05.trans hx fun _ _ h => h)) (hsets hx) (hE.prt.ext (hE05.trans hx fun _ _ h => h)) hpv (by omega) hsl hn ho (fin hx)
  · refine Nw_row (vs := [.slice none 0 0, .slice none 0 0, .slice none 0 0, .int .i64 0, .int .i64 0]) fun b3 H6 hb3 hE6 _ hr3 => ?_
    have r1 := hE6.row r1 fun h => h
    have r2 := hE6.row r2 fun h => h
    refine Stab_all (t12 r1 r2) ?_
    have hE06 := hE05.trans hE6 fun _ _ h => h
    refine s_copied (e := e) (hE.inp.ext hE06) (hE.prt.ext hE06) (hpr hE06) hil hpl fun H7 bi' bp' qs' hE7 hcp' hqs' => ?_
    have hE07 := hE06.trans hE7 fun _ _ h => h
    have r1 := hE7.row r1 fun h => h
    have r2 := hE7.row r2 fun h => h
    refine Stab_all (t1 r1) ?_
    rw [← map_len hqs']
    refine s_endsRun hP hE hE07 hcp' hqs' fun H8 vs cs es st er hE8 ho hnew => ?_
    have r2 := hE8.row r2 fun h => h
    refine Stab_all (t2 r2) ?_
    have hE68 := hE7.trans hE8 fun _ _ h => h
    have hE58 := hE6.trans hE68 fun _ _ h => h
    have hne : ∀ s, s = vs ∨ s = es → ∀ a, s.a = some a → a.block ≠ b3 := fun s hs a ha => by have := (hnew s hs a ha).1; have := hr3.lt; have := hE7.size; omega
    refine tail hE58 ho (hE68.row hr3 fun h => h) (by omega) hne _ fun H14 hx h3 ho => ?_
    have hq1 : Row H14 b1 T_api_Program [slV p.1, slV p.2] := hx.row ‹Row H5 b1 T_api_Program _› fun h => h
    have hq2 : Row H14 b2 T_api_Env (envL e) := hx.row ‹Row H5 b2 T_api_Env _› fun h => h
    exact ends_tail rfl hq1 hq2 h3 (hP.sys.ext (hE05.trans hx fun _ _ h => h)) (hsets hx) (hE.prt.ext (hE05.trans hx fun _ _ h => h)) hpv (by omega) hsl hn ho (fin hx)
theorem w_MachineEnds {H : Heap} (v0 v1 v2 : Value) (r0 : RdV Tryz.prog H 25 v0) (r1 : RdV Tryz.prog H 3 v1) (r2 : RdV Tryz.prog H 33 v2) :
    CallT Tryz.prog 4 [v0, v1, v2] (.one (.c .bool)) H (fun b H' => b = true ∧ Ext H H') := by
  obtain ⟨p, ss, fs, rfl, hP⟩ := rd_prog r0
  obtain ⟨n, rfl, hn⟩ := rd_i64 Tryz.underlying3 r1
  obtain ⟨e, ins, ps, rfl, hE⟩ := rd_env r2
  exact s_MachineEnds hP hE hn fun H' h => ⟨rfl, h⟩
end Go.Proofs.YtfpmgpblhhcpgaaGreat
