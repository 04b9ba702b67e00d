/-
  What a reading of an argument says of the heap.
-/
import Derived.Test.YtlkmmplgfjicjaaDoorHcHeap
import GoSem.ClaimChange
import Derived.SizedLaws
namespace Go.Proofs.YtlkmmplgfjicjaaDoor.Hc
set_option linter.unusedVariables false
set_option linter.unusedSimpArgs false

def RdC (P : Program) (H : Heap) : Nat → TypeId → List Value → Prop
  | 0, _, _ => False
  | f + 1, t, cs => match P.underlying t with
    | some .bool => ∃ b, cs = [.bool b]
    | some (.int k) => ∃ n, cs = [.int k n] ∧ k.min ≤ n ∧ n ≤ k.max
    | some .string => ∃ s, cs = [.string s] ∧ s.size ≤ reachBytes
    | some (.pointer e) => cs = [.pointer none] ∨ ∃ a xs, cs = [.pointer (some a)] ∧ xs.length = P.cellsOf e ∧ hcells H a 0 xs ∧ RdC P H f e xs
    | some (.slice e) => cs = [.slice none 0 0] ∨ ∃ a len cap, cs = [.slice (some a) len cap] ∧ len ≤ cap ∧ (cap ≤ maxLen ∧ cap * P.bytesOf e ≤ reachBytes) ∧
        ∀ i, i < cap → ∃ xs, xs.length = P.cellsOf e ∧ hcells H (a.add (i * P.cellsOf e)) 0 xs ∧ RdC P H f e xs
    | some (.struct fs) => cs.length = P.cellsOf t ∧ ∀ g ∈ fs.toList, RdC P H f g.type ((cs.drop g.offset).take (P.cellsOf g.type))
    | some (.array n e) => cs.length = P.cellsOf t ∧ ∀ i, i < n → RdC P H f e ((cs.drop (i * P.cellsOf e)).take (P.cellsOf e))
    | _ => True

theorem mapM_some_get {α β : Type} {f : α → Option β} : ∀ {l : List α} {ys : List β}, l.mapM f = some ys → ys.length = l.length ∧ ∀ (i : Nat) (x : α), l[i]? = some x → ∃ y, ys[i]? = some y ∧ f x = some y
  | [], ys, h => by simp at h; subst h; exact ⟨rfl, fun i x hx => by simp at hx⟩
  | a :: l, ys, h => by
    simp only [List.mapM_cons, Option.bind_eq_bind, Option.bind_eq_some_iff] at h
    obtain ⟨y, hy, zs, hzs, he⟩ := h
    cases he
    obtain ⟨h1, h2⟩ := mapM_some_get hzs
    refine ⟨by simp [h1], fun i x hx => ?_⟩
    cases i with
    | zero => simp at hx; subst hx; exact ⟨y, rfl, hy⟩
    | succ i => exact h2 i x (by simpa using hx)
theorem weights_all {H : Type} {P : Program} {e : TypeId} : ∀ {ds : List (DataW H)} {d : DataW H}, d ∈ ds → ∀ n ∈ d.weights P e, n ∈ DataW.weightsAll P e ds
  | c :: r, d, h, n, hn => by
    rw [DataW.weightsAll, List.mem_append]
    rcases List.mem_cons.1 h with rfl | h
    · exact .inl hn
    · exact .inr (weights_all h n hn)
theorem mapM_range_hcells {w : World} {a : Addr} : ∀ {n i : Nat} {xs : List Value}, (List.range' i n).mapM (fun i => w.cell? (a.add i)) = some xs → xs.length = n ∧ hcells w.heap a i xs
  | 0, i, xs, h => by simp at h; subst h; exact ⟨rfl, trivial⟩
  | n + 1, i, xs, h => by
    simp only [List.range'_succ, List.mapM_cons, Option.bind_eq_bind, Option.bind_eq_some_iff] at h
    obtain ⟨y, hy, zs, hzs, he⟩ := h
    obtain ⟨h1, h2⟩ := mapM_range_hcells hzs
    cases he
    exact ⟨by simp [h1], hy, h2⟩
theorem cells?_hcells {w : World} {base : Nat} {a : Addr} {n : Nat} {xs : List Value} (h : w.cells? base a n = some xs) : xs.length = n ∧ hcells w.heap a 0 xs := by
  unfold World.cells? at h
  split at h
  · rw [List.range_eq_range'] at h; exact mapM_range_hcells h
  · cases h

theorem rd_of_trod {X : Type} {enc : TypeId × Value → X} {P : Program} {w : World} {base : Nat} {held : Bool} : ∀ {f : Nat} {t : TypeId} {cs : List Value} {d : DataW X} {ps : List MemPlace},
    DataW.trod enc P w base (fun _ => true) held f t cs = some (d, ps) → (∀ n ∈ d.weights P t, n ≤ reachBytes) → RdC P w.heap f t cs
  | 0, t, cs, d, ps, h, hwt => by simp [DataW.trod] at h
  | f + 1, t, cs, d, ps, h, hwt => by
    unfold DataW.trod at h
    unfold RdC
    split at h
    case h_1 b hu => rw [hu]; exact ⟨b, rfl⟩
    case h_2 k k' n hu =>
      rw [hu]
      split at h
      · rename_i hc
        obtain ⟨rfl, hw⟩ := hc
        simp only [Lit.wf, Bool.and_eq_true, decide_eq_true_eq] at hw
        exact ⟨n, rfl, hw.1, hw.2⟩
      · cases h
    case h_3 => rename_i hu; rw [hu]; trivial
    case h_4 s hu =>
      rw [hu]
      split at h
      · simp only [Option.some.injEq, Prod.mk.injEq] at h
        obtain ⟨rfl, rfl⟩ := h
        refine ⟨s, rfl, hwt _ ?_⟩
        simp [DataW.weights]
      · cases h
    case h_5 => rename_i hu; rw [hu]; exact .inl rfl
    case h_6 e a hu =>
      rw [hu]
      simp only [Option.map_eq_some_iff, Option.bind_eq_some_iff] at h
      obtain ⟨x, ⟨xs, hxs, hx⟩, hd⟩ := h
      obtain ⟨h1, h2⟩ := cells?_hcells hxs
      obtain ⟨d', ps'⟩ := x
      simp only [Prod.mk.injEq] at hd
      obtain ⟨rfl, _⟩ := hd
      refine .inr ⟨a, xs, rfl, h1, h2, rd_of_trod hx fun n hn => hwt n ?_⟩
      rw [DataW.weights, hu]; exact hn
    case h_7 => rename_i hu; rw [hu]; exact .inl rfl
    case h_8 e a len cap hu =>
      rw [hu]
      dsimp only at h
      split at h
      · rename_i hc
        obtain ⟨_, hlc, hcap⟩ := hc
        simp only [if_true, Option.bind_eq_some_iff, Option.map_eq_some_iff] at h
        obtain ⟨es, hes, rs, hrs, hd⟩ := h
        simp only [Option.some.injEq, Prod.mk.injEq] at hd
        obtain ⟨rfl, _⟩ := hd
        obtain ⟨l1, g1⟩ := mapM_some_get hes
        obtain ⟨l2, g2⟩ := mapM_some_get hrs
        simp only [DataW.weights, hu] at hwt
        refine .inr ⟨a, len, cap, rfl, hlc, ⟨hcap, ?_⟩, fun i hi => ?_⟩
        · have := hwt _ (List.mem_cons_self ..)
          simp only [List.length_map, l1, l2, List.length_range] at this
          rwa [show len + (cap - len) = cap by omega] at this
        have key : ∃ y : DataW X × List MemPlace, (w.cells? base (a.add (i * P.cellsOf e)) (P.cellsOf e)).bind (DataW.trod enc P w base (fun _ => true) held f e) = some y ∧ ∀ n ∈ y.1.weights P e, n ≤ reachBytes := by
          rcases Nat.lt_or_ge i len with hl | hl
          · obtain ⟨y, h1, h2⟩ := g1 i i (by simp [hl])
            refine ⟨y, h2, fun n hn => hwt n ?_⟩
            refine List.mem_cons_of_mem _ (List.mem_append_left _ (weights_all (List.mem_map.2 ⟨y, List.mem_of_getElem? h1, rfl⟩) n hn))
          · obtain ⟨y, h1, h2⟩ := g2 (i - len) (i - len) (by rw [List.getElem?_range (by omega)])
            rw [show len + (i - len) = i by omega] at h2
            refine ⟨y, h2, fun n hn => hwt n ?_⟩
            refine List.mem_cons_of_mem _ (List.mem_append_right _ (weights_all (List.mem_map.2 ⟨y, List.mem_of_getElem? h1, rfl⟩) n hn))
        obtain ⟨⟨d', ps'⟩, hy, hwy⟩ := key
        simp only [Option.bind_eq_some_iff] at hy
        obtain ⟨xs, hxs, hx⟩ := hy
        obtain ⟨h1, h2⟩ := cells?_hcells hxs
        exact ⟨xs, h1, h2, rd_of_trod hx hwy⟩
      · cases h
    case h_9 fs _ hu =>
      rw [hu]
      split at h
      · rename_i hl
        simp only [Option.map_eq_some_iff] at h
        obtain ⟨xs, hxs, hd⟩ := h
        simp only [Prod.mk.injEq] at hd
        obtain ⟨rfl, _⟩ := hd
        obtain ⟨l1, g1⟩ := mapM_some_get hxs
        simp only [DataW.weights, hu] at hwt
        refine ⟨hl, fun g hg => ?_⟩
        obtain ⟨i, hi, hgi⟩ := List.getElem_of_mem hg
        obtain ⟨y, hy1, hy⟩ := g1 i g (by rw [List.getElem?_eq_getElem hi, hgi])
        obtain ⟨d', ps'⟩ := y
        exact rd_of_trod hy fun n hn => hwt n (DataW.weights_mem_each (j := i) (by rw [List.getElem?_map, List.getElem?_eq_getElem hi, hgi]; rfl) (by rw [List.getElem?_map, hy1]; rfl) n hn)
      · cases h
    case h_10 n e _ hu =>
      rw [hu]
      split at h
      · rename_i hl
        simp only [Option.map_eq_some_iff] at h
        obtain ⟨xs, hxs, hd⟩ := h
        simp only [Prod.mk.injEq] at hd
        obtain ⟨rfl, _⟩ := hd
        obtain ⟨l1, g1⟩ := mapM_some_get hxs
        simp only [DataW.weights, hu] at hwt
        refine ⟨hl, fun i hi => ?_⟩
        obtain ⟨⟨d', ps'⟩, hy1, hy⟩ := g1 i i (by rw [List.getElem?_range hi])
        exact rd_of_trod hy fun n hn => hwt n (weights_all (List.mem_map.2 ⟨_, List.mem_of_getElem? hy1, rfl⟩) n hn)
      · cases h
    all_goals first
      | (rename_i hu; rw [hu]; trivial)
      | (rename_i hu _; rw [hu]; trivial)
      | (rename_i hu _ _; rw [hu]; trivial)
      | (cases h; done)
end Go.Proofs.YtlkmmplgfjicjaaDoor.Hc
