/-
  What a reading of an argument says of the heap.
-/
import Derived.Test.YtpkpebgpiakbeaaHcHeap
import GoSem.ClaimChange
namespace Go.Proofs.Ytpkpebgpiakbeaa.Hc
set_option linter.unusedVariables false
set_option linter.unusedSimpArgs false

def RdC (P : Program) (H : Heap) : Nat → TypeId → List Value → Prop
  | 0, _, _ => False
  | f + 1, t, cs => match P.underlying t with
    | some .bool => ∃ b, cs = [.bool b]
    | some (.int k) => ∃ n, cs = [.int k n] ∧ k.min ≤ n ∧ n ≤ k.max
    | some .string => ∃ s, cs = [.string s] ∧ s.size ≤ maxLen
    | some (.pointer e) => cs = [.pointer none] ∨ ∃ a xs, cs = [.pointer (some a)] ∧ xs.length = P.cellsOf e ∧ hcells H a 0 xs ∧ RdC P H f e xs
    | some (.slice e) => cs = [.slice none 0 0] ∨ ∃ a len cap, cs = [.slice (some a) len cap] ∧ len ≤ cap ∧ cap ≤ maxLen ∧
        ∀ i, i < cap → ∃ xs, xs.length = P.cellsOf e ∧ hcells H (a.add (i * P.cellsOf e)) 0 xs ∧ RdC P H f e xs
    | some (.struct fs) => cs.length = P.cellsOf t ∧ ∀ g ∈ fs.toList, RdC P H f g.type ((cs.drop g.offset).take (P.cellsOf g.type))
    | some (.array n e) => cs.length = P.cellsOf t ∧ ∀ i, i < n → RdC P H f e ((cs.drop (i * P.cellsOf e)).take (P.cellsOf e))
    | _ => True

theorem mapM_some_mem {α β : Type} {f : α → Option β} : ∀ {l : List α} {ys : List β}, l.mapM f = some ys → ∀ x ∈ l, ∃ y, f x = some y
  | [], _, _, x, hx => by cases hx
  | a :: l, ys, h, x, hx => by
    simp only [List.mapM_cons, Option.bind_eq_bind, Option.bind_eq_some_iff] at h
    obtain ⟨y, hy, zs, hzs, _⟩ := h
    rcases List.mem_cons.1 hx with rfl | hx
    · exact ⟨y, hy⟩
    · exact mapM_some_mem hzs x hx
theorem mapM_range_hcells {w : World} {a : Addr} : ∀ {n i : Nat} {xs : List Value}, (List.range' i n).mapM (fun i => w.cell? (a.add i)) = some xs → xs.length = n ∧ hcells w.heap a i xs
  | 0, i, xs, h => by simp at h; subst h; exact ⟨rfl, trivial⟩
  | n + 1, i, xs, h => by
    simp only [List.range'_succ, List.mapM_cons, Option.bind_eq_bind, Option.bind_eq_some_iff] at h
    obtain ⟨y, hy, zs, hzs, he⟩ := h
    obtain ⟨h1, h2⟩ := mapM_range_hcells hzs
    cases he
    exact ⟨by simp [h1], hy, h2⟩
theorem cells?_hcells {w : World} {base : Nat} {a : Addr} {n : Nat} {xs : List Value} (h : w.cells? base a n = some xs) : xs.length = n ∧ hcells w.heap a 0 xs := by
  unfold World.cells? at h
  split at h
  · rw [List.range_eq_range'] at h; exact mapM_range_hcells h
  · cases h

theorem rd_of_trod {X : Type} {enc : TypeId × Value → X} {P : Program} {w : World} {base : Nat} {held : Bool} : ∀ {f : Nat} {t : TypeId} {cs : List Value} {d : DataW X} {ps : List MemPlace},
    DataW.trod enc P w base (fun _ => true) held f t cs = some (d, ps) → RdC P w.heap f t cs
  | 0, t, cs, d, ps, h => by simp [DataW.trod] at h
  | f + 1, t, cs, d, ps, h => by
    unfold DataW.trod at h
    unfold RdC
    split at h
    case h_1 b hu => rw [hu]; exact ⟨b, rfl⟩
    case h_2 k k' n hu =>
      rw [hu]
      split at h
      · rename_i hc
        obtain ⟨rfl, hw⟩ := hc
        simp only [Lit.wf, Bool.and_eq_true, decide_eq_true_eq] at hw
        exact ⟨n, rfl, hw.1, hw.2⟩
      · cases h
    case h_3 => rename_i hu; rw [hu]; trivial
    case h_4 s hu =>
      rw [hu]
      split at h
      · rename_i hs; exact ⟨s, rfl, hs⟩
      · cases h
    case h_5 => rename_i hu; rw [hu]; exact .inl rfl
    case h_6 e a hu =>
      rw [hu]
      simp only [Option.map_eq_some_iff, Option.bind_eq_some_iff] at h
      obtain ⟨x, ⟨xs, hxs, hx⟩, _⟩ := h
      obtain ⟨h1, h2⟩ := cells?_hcells hxs
      obtain ⟨d', ps'⟩ := x
      exact .inr ⟨a, xs, rfl, h1, h2, rd_of_trod hx⟩
    case h_7 => rename_i hu; rw [hu]; exact .inl rfl
    case h_8 e a len cap hu =>
      rw [hu]
      dsimp only at h
      split at h
      · rename_i hc
        obtain ⟨_, hlc, hcap⟩ := hc
        simp only [if_true, Option.bind_eq_some_iff, Option.map_eq_some_iff] at h
        obtain ⟨es, hes, rs, hrs, _⟩ := h
        refine .inr ⟨a, len, cap, rfl, hlc, hcap, fun i hi => ?_⟩
        have key : ∃ y, (w.cells? base (a.add (i * P.cellsOf e)) (P.cellsOf e)).bind (DataW.trod enc P w base (fun _ => true) held f e) = some y := by
          rcases Nat.lt_or_ge i len with hl | hl
          · exact mapM_some_mem hes i (by simpa using hl)
          · have := mapM_some_mem hrs (i - len) (by simp; omega)
            rw [show len + (i - len) = i by omega] at this
            exact this
        obtain ⟨⟨d', ps'⟩, hy⟩ := key
        simp only [Option.bind_eq_some_iff] at hy
        obtain ⟨xs, hxs, hx⟩ := hy
        obtain ⟨h1, h2⟩ := cells?_hcells hxs
        exact ⟨xs, h1, h2, rd_of_trod hx⟩
      · cases h
    case h_9 fs _ hu =>
      rw [hu]
      split at h
      · rename_i hl
        simp only [Option.map_eq_some_iff] at h
        obtain ⟨xs, hxs, _⟩ := h
        refine ⟨hl, fun g hg => ?_⟩
        obtain ⟨⟨d', ps'⟩, hy⟩ := mapM_some_mem hxs g hg
        exact rd_of_trod hy
      · cases h
    case h_10 n e _ hu =>
      rw [hu]
      split at h
      · rename_i hl
        simp only [Option.map_eq_some_iff] at h
        obtain ⟨xs, hxs, _⟩ := h
        refine ⟨hl, fun i hi => ?_⟩
        obtain ⟨⟨d', ps'⟩, hy⟩ := mapM_some_mem hxs i (by simpa using hi)
        exact rd_of_trod hy
      · cases h
    all_goals first
      | (rename_i hu; rw [hu]; trivial)
      | (rename_i hu _; rw [hu]; trivial)
      | (rename_i hu _ _; rw [hu]; trivial)
      | (cases h; done)
end Go.Proofs.Ytpkpebgpiakbeaa.Hc
