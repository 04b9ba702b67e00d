/-
  DERIVED: THE SHELF's CONTRACTS AT THIS DUMP, IN PLAIN WORDS (tools/lay-plain.mjs out of 'TryzShelf.lean', which tools/lay-shelf.mjs wrote): THE SAME DECLARATIONS UNDER THE SAME NAMES: 'import', 'namespace', 'open', 'def', 'theorem' AND NOTHING ELSE: no command of the shelf's: FOR A HAND-IN. Each laying: the table of numbers ('.._ren') and one theorem, a field a fact of the dump's own or the kernel's comparison; each contract: ONE APPLICATION.
-/
import Derived.Shelf.Small.Bits
import Derived.Shelf.Small.Wraps
import Derived.Shelf.Strconv.Itoa0
import Derived.Shelf.Sort.Plain
import Derived.Shelf.Slices.Turned
import Derived.Ground.Names2Prog
import Derived.Shelf.Slices.Clone
import Derived.Shelf.Slices.CompactI
import Derived.Shelf.Slices.SearchI
import Derived.Shelf.Slices.Cells
import Derived.Shelf.Slices.In.SortNone
import Derived.Ground.SlgnProg
import Derived.Shelf.SlicesG.Turned
import Derived.Shelf.SlicesG.Clone
import Derived.Shelf.SlicesE.Clone
import Derived.Test.YtfpmgpblhhcpgaaGreatProg
import Derived.Test.YtfpmgpblhhcpgaaGreatMB
import Derived.Lib.SlicesCompact
import Derived.Test.YtfpmgpblhhcpgaaGreatMK
import Derived.Test.YtfpmgpblhhcpgaaGreatVA
import Derived.Sort.EveryDepth
namespace Go.Proofs
set_option linter.unusedVariables false
set_option linter.unusedSimpArgs false
set_option maxRecDepth 100000
section
open Go.Shelf
def Tryz.lays128_ren : Go.Shelf.Ren := ⟨fun | 128 => 174 | n => n, fun | 51 => 251 | 3 => 3 | 4 => 4 | 46 => 199 | 5 => 5 | 9 => 9 | n => n, fun | n => n⟩
def Tryz.lays125_ren : Go.Shelf.Ren := ⟨fun | 125 => 124 | 128 => 174 | 129 => 175 | n => n, fun | 46 => 199 | 3 => 3 | 51 => 251 | 53 => 137 | 4 => 4 | 5 => 5 | 9 => 9 | n => n, fun | n => n⟩
def Tryz.lays215_ren : Go.Shelf.Ren := ⟨fun | 215 => 164 | n => n, fun | 3 => 3 | 4 => 4 | n => n, fun | n => n⟩
def Tryz.lays122_ren : Go.Shelf.Ren := ⟨fun | 122 => 122 | 215 => 164 | n => n, fun | 3 => 3 | 4 => 4 | n => n, fun | n => n⟩
def Tryz.lays129_ren : Go.Shelf.Ren := ⟨fun | 129 => 175 | n => n, fun | 53 => 137 | 3 => 3 | 4 => 4 | 46 => 199 | 5 => 5 | 9 => 9 | n => n, fun | n => n⟩
def Tryz.lays189_ren : Go.Shelf.Ren := ⟨fun | 189 => 70 | 125 => 124 | 257 => 123 | 128 => 174 | 129 => 175 | 294 => 165 | 295 => 166 | 296 => 167 | 297 => 168 | 298 => 169 | 299 => 170 | 216 => 171 | 300 => 172 | 301 => 173 | 328 => 194 | 329 => 195 | 330 => 196 | 331 => 197 | 332 => 198 | 215 => 164 | 343 => 202 | n => n, fun | 28 => 53 | 3 => 3 | 46 => 199 | 0 => 0 | 51 => 251 | 53 => 137 | 4 => 4 | 183 => 243 | 182 => 242 | 131 => 248 | 5 => 5 | 9 => 9 | 218 => 269 | 222 => 223 | 228 => 275 | 229 => 132 | n => n, fun | n => n⟩
theorem Tryz.lays189 : Go.Proofs.Lays.n189 Tryz.prog Tryz.lays189_ren := {
  mixed := by kernel_rfl
  f125 := Tryz.func124.trans (congrArg some (by kernel_rfl))
  f128 := Tryz.func174.trans (congrArg some (by kernel_rfl))
  f129 := Tryz.func175.trans (congrArg some (by kernel_rfl))
  f189 := Tryz.func70.trans (congrArg some (by kernel_rfl))
  f215 := Tryz.func164.trans (congrArg some (by kernel_rfl))
  f216 := Tryz.func171.trans (congrArg some (by kernel_rfl))
  f257 := Tryz.func123.trans (congrArg some (by kernel_rfl))
  f294 := Tryz.func165.trans (congrArg some (by kernel_rfl))
  f295 := Tryz.func166.trans (congrArg some (by kernel_rfl))
  f296 := Tryz.func167.trans (congrArg some (by kernel_rfl))
  f297 := Tryz.func168.trans (congrArg some (by kernel_rfl))
  f298 := Tryz.func169.trans (congrArg some (by kernel_rfl))
  f299 := Tryz.func170.trans (congrArg some (by kernel_rfl))
  f300 := Tryz.func172.trans (congrArg some (by kernel_rfl))
  f301 := Tryz.func173.trans (congrArg some (by kernel_rfl))
  f328 := Tryz.func194.trans (congrArg some (by kernel_rfl))
  f329 := Tryz.func195.trans (congrArg some (by kernel_rfl))
  f330 := Tryz.func196.trans (congrArg some (by kernel_rfl))
  f331 := Tryz.func197.trans (congrArg some (by kernel_rfl))
  f332 := Tryz.func198.trans (congrArg some (by kernel_rfl))
  f343 := Tryz.func202.trans (congrArg some (by kernel_rfl))
  t0 := Tryz.underlying0
  a0 := Tryz.isAgg0
  z0 := Tryz.sizeOf0
  v0 := Tryz.zeroValue0
  t3 := Tryz.underlying3
  a3 := Tryz.isAgg3
  z3 := Tryz.sizeOf3
  v3 := Tryz.zeroValue3
  t4 := Tryz.underlying4
  a4 := Tryz.isAgg4
  z4 := Tryz.sizeOf4
  v4 := Tryz.zeroValue4
  t5 := Tryz.underlying5
  a5 := Tryz.isAgg5
  z5 := Tryz.sizeOf5
  v5 := Tryz.zeroValue5
  t9 := Tryz.underlying9
  a9 := Tryz.isAgg9
  z9 := Tryz.sizeOf9
  v9 := Tryz.zeroValue9
  t28 := Tryz.underlying53
  a28 := Tryz.isAgg53
  z28 := Tryz.sizeOf53
  v28 := Tryz.zeroValue53
  t46 := Tryz.underlying199
  a46 := Tryz.isAgg199
  z46 := Tryz.sizeOf199
  v46 := Tryz.zeroValue199
  t51 := Tryz.underlying251
  a51 := Tryz.isAgg251
  z51 := Tryz.sizeOf251
  v51 := Tryz.zeroValue251
  t53 := Tryz.underlying137
  a53 := Tryz.isAgg137
  z53 := Tryz.sizeOf137
  v53 := Tryz.zeroValue137
  t131 := Tryz.underlying248
  a131 := Tryz.isAgg248
  z131 := Tryz.sizeOf248
  v131 := Tryz.zeroValue248
  t182 := Tryz.underlying242
  a182 := Tryz.isAgg242
  z182 := Tryz.sizeOf242
  v182 := Tryz.zeroValue242
  t183 := Tryz.underlying243
  a183 := Tryz.isAgg243
  z183 := Tryz.sizeOf243
  v183 := Tryz.zeroValue243
  t218 := Tryz.underlying269
  a218 := Tryz.isAgg269
  z218 := Tryz.sizeOf269
  v218 := Tryz.zeroValue269
  t222 := Tryz.underlying223
  a222 := Tryz.isAgg223
  z222 := Tryz.sizeOf223
  v222 := Tryz.zeroValue223
  t228 := Tryz.underlying275
  a228 := Tryz.isAgg275
  z228 := Tryz.sizeOf275
  v228 := Tryz.zeroValue275
  t229 := Tryz.underlying132
  a229 := Tryz.isAgg132
  z229 := Tryz.sizeOf132
  v229 := Tryz.zeroValue132 }
open Go.Sort Go.RowKit in
theorem Tryz.slices_Sort_int (blk off cap : Nat) (zs : List Int) (w : World) (hH : Holds (Value.int .i64) w blk off zs.toArray) (hblk : blk < w.heap.size) (hsz : zs.length < 4611686018427387904) :
    Calls Tryz.prog 70 #[.slice (some ⟨blk, off, none⟩) zs.length cap] w fun e w' =>
      e = .returned (.tuple #[]) ∧ ∃ n os, w' = grow (putRow (Value.int .i64) (Sort.ahead w n) blk off (zs.mergeSort fun x y => decide (x ≤ y)).toArray) os := Any.slices_Sort_int Tryz.lays189 blk off cap zs w hH hblk hsz
def Tryz.lays108_ren : Go.Shelf.Ren := ⟨fun | 108 => 190 | n => n, fun | 28 => 53 | 3 => 3 | 0 => 0 | 4 => 4 | n => n, fun | n => n⟩
def Tryz.lays107_ren : Go.Shelf.Ren := ⟨fun | 107 => 151 | 108 => 190 | n => n, fun | 28 => 53 | 3 => 3 | 4 => 4 | 0 => 0 | n => n, fun | n => n⟩
def Tryz.lays109_ren : Go.Shelf.Ren := ⟨fun | 109 => 199 | n => n, fun | 31 => 68 | 9 => 9 | 3 => 3 | 0 => 0 | 4 => 4 | n => n, fun | n => n⟩
def Tryz.lays110_ren : Go.Shelf.Ren := ⟨fun | 110 => 177 | 109 => 199 | n => n, fun | 31 => 68 | 9 => 9 | 4 => 4 | 3 => 3 | 0 => 0 | n => n, fun | n => n⟩
def Tryz.laysNm215_ren : Go.Shelf.Ren := ⟨fun | 15 => 69 | n => n, fun | 22 => 53 | 3 => 3 | 4 => 4 | n => n, fun | n => n⟩
def Tryz.laysNm216_ren : Go.Shelf.Ren := ⟨fun | 16 => 127 | n => n, fun | 24 => 68 | 9 => 9 | 4 => 4 | n => n, fun | n => n⟩
def Tryz.laysNm220_ren : Go.Shelf.Ren := ⟨fun | 20 => 71 | n => n, fun | 22 => 53 | 3 => 3 | 4 => 4 | 0 => 0 | n => n, fun | n => n⟩
theorem Tryz.laysNm220 : Go.Proofs.Lays2.n20 Tryz.prog Tryz.laysNm220_ren := {
  mixed := by kernel_rfl
  f20 := Tryz.func71.trans (congrArg some (by kernel_rfl))
  t0 := Tryz.underlying0
  a0 := Tryz.isAgg0
  z0 := Tryz.sizeOf0
  v0 := Tryz.zeroValue0
  t3 := Tryz.underlying3
  a3 := Tryz.isAgg3
  z3 := Tryz.sizeOf3
  v3 := Tryz.zeroValue3
  t4 := Tryz.underlying4
  a4 := Tryz.isAgg4
  z4 := Tryz.sizeOf4
  v4 := Tryz.zeroValue4
  t22 := Tryz.underlying53
  a22 := Tryz.isAgg53
  z22 := Tryz.sizeOf53
  v22 := Tryz.zeroValue53
  i3 := by kernel_rfl }
open Go.RowKit Go.Lib Go.Sort in
theorem Tryz.slices_Compact_int (blk off cap : Nat) (zs : List Int) (w : World) (hH : Holds (Value.int .i64) w blk off zs.toArray) (hsz : zs.length ≤ 9223372036854775807) (hcap : zs.length ≤ cap) :
    Calls Tryz.prog 71 #[.slice (some ⟨blk, off, none⟩) zs.length cap] w fun e w' => e = .returned (.slice (some ⟨blk, off, none⟩) (Lib.compact zs).length cap) ∧ ∃ q, w' = putRow (Value.int .i64) (Sort.ahead w q) blk off (Lib.compact zs ++ List.replicate (zs.length - (Lib.compact zs).length) 0).toArray := Any.slices_Compact_int Tryz.laysNm220 blk off cap zs w hH hsz hcap
open Go.RowKit Go.Lib Go.Sort in
theorem Tryz.slices_Compact_int_empty (a : Option Addr) (cap : Nat) (w : World) :
    Calls Tryz.prog 71 #[.slice a 0 cap] w fun e w' => e = .returned (.slice a 0 cap) ∧ w' = w := Any.slices_Compact_int_empty Tryz.laysNm220 a cap w
def Tryz.laysNm237_ren : Go.Shelf.Ren := ⟨fun | 37 => 164 | n => n, fun | 3 => 3 | 4 => 4 | n => n, fun | n => n⟩
def Tryz.laysNm231_ren : Go.Shelf.Ren := ⟨fun | 31 => 171 | 37 => 164 | n => n, fun | 3 => 3 | 4 => 4 | n => n, fun | n => n⟩
open Go.RowKit Go.Sort in
theorem Tryz.slices_Sort_int_none (p : Option Addr) (cap : Nat) (w : World) :
    Calls Tryz.prog 70 #[.slice p 0 cap] w fun e w' => e = .returned (.tuple #[]) ∧ w' = w := Any.slices_Sort_int_none Tryz.lays189 p cap w
def Tryz.laysSlN29_f203_ren : Go.Shelf.Ren := ⟨fun | 29 => 203 | n => n, fun | 22 => 58 | 23 => 2 | 3 => 3 | 0 => 0 | 4 => 4 | n => n, fun | n => n⟩
def Tryz.laysSlN31_f200_ren : Go.Shelf.Ren := ⟨fun | 31 => 200 | 29 => 203 | n => n, fun | 22 => 58 | 23 => 2 | 4 => 4 | 3 => 3 | 0 => 0 | n => n, fun | n => n⟩
def Tryz.laysSlN41_f115_ren : Go.Shelf.Ren := ⟨fun | 41 => 115 | n => n, fun | 22 => 58 | 23 => 2 | 4 => 4 | n => n, fun | n => n⟩
def Tryz.laysSlE041_f69_ren : Go.Shelf.Ren := ⟨fun | 41 => 69 | n => n, fun | 22 => 53 | 23 => 3 | 4 => 4 | n => n, fun | n => n⟩
def Tryz.laysSlE041_f115_ren : Go.Shelf.Ren := ⟨fun | 41 => 115 | n => n, fun | 22 => 58 | 23 => 2 | 4 => 4 | n => n, fun | n => n⟩
def Tryz.laysSlE041_f127_ren : Go.Shelf.Ren := ⟨fun | 41 => 127 | n => n, fun | 22 => 68 | 23 => 9 | 4 => 4 | n => n, fun | n => n⟩
end
end Go.Proofs
namespace Go.Proofs.YtfpmgpblhhcpgaaGreat
set_option linter.unusedVariables false
set_option linter.unusedSimpArgs false
set_option maxRecDepth 100000
section
open Hc Go.RowKit Go.Lib Go.Sort
variable {H : Heap}
theorem lib_call {f : FuncId} {args : List Value} {r : RTy} {k : r.den → Heap → Prop} {post : World → Ending → World → Prop} (hcb : Cb Pg f) (h : ∀ w, w.heap = H → Calls Pg f ⟨args⟩ w (post w))
    (hp : ∀ w e w', w.heap = H → post w e w' → SameEnv w w' ∧ ∃ d, e = .returned (r.emb d) ∧ k d w'.heap) : CallT Pg f args r H k :=
  ⟨hcb, fun w hw => (h w hw).mono fun e w' h => hp w e w' hw h⟩
theorem cb_Sort : Cb Pg f_slices_Sort_Sl_int_int := ⟨_, Tryz.func70, by kernel_rfl, by kernel_rfl⟩
theorem cb_Compact : Cb Pg f_slices_Compact_Sl_int_int := ⟨_, Tryz.func71, by kernel_rfl, by kernel_rfl⟩
theorem holds_row {w : World} (hw : w.heap = H) {b : Nat} {T : TypeId} {zs : List Int} {sp : List Value} (hr : Row H b T (ints zs ++ sp)) : Holds (Value.int .i64) w b 0 zs.toArray := fun j hj => by
  have hj' : j < zs.length := by simpa using hj
  have hb : w.heap[b]? = some (.cells ⟨ints zs ++ sp⟩ T (0, 0)) := by rw [hw]; exact hr
  constructor
  · simp only [World.cell?, hb]
    simp [List.getElem?_append_left, hj']
  · simp only [World.frozen?, hb]
    simp
theorem putRow_heap {w : World} (hw : w.heap = H) {b : Nat} {T : TypeId} {zs ys : List Int} {sp : List Value} (hr : Row H b T (ints zs ++ sp)) (hl : ys.length = zs.length) {n : Nat} {os : Array Obj} :
    Upd (· = b) H (grow (putRow (Value.int .i64) (Sort.ahead w n) b 0 ys.toArray) os).heap ∧ Row (grow (putRow (Value.int .i64) (Sort.ahead w n) b 0 ys.toArray) os).heap b T (ints ys ++ sp) := by
  have hb : w.heap[b]? = some (.cells ⟨ints zs ++ sp⟩ T (0, 0)) := by rw [hw]; exact hr
  have hlt : b < w.heap.size := lt_of_get hb
  constructor
  · refine ⟨?_, fun c hc hn => ?_⟩
    · simp [grow, putRow, mapBlock, Sort.ahead, ← hw]
    · simp only [grow, putRow, mapBlock, Sort.ahead]
      rw [← hw] at hc ⊢
      rw [Array.getElem?_append_left (by simpa using hc), Array.getElem?_modify, if_neg (fun e => hn e.symm)]
  · unfold Row
    simp only [grow, putRow, mapBlock, Sort.ahead]
    rw [Array.getElem?_append_left (by simpa using hlt), Array.getElem?_modify, if_pos rfl, hb]
    simp only [Option.map_some, onCells]
    congr 2
    apply Array.ext_getElem?
    intro j
    simp only [putCells, Array.getElem?_mapIdx]
    rcases Nat.lt_or_ge j ys.length with hj | hj
    · have e1 : (⟨ints zs ++ sp⟩ : Array Value)[j]? = some (.int .i64 zs[j]!) := by
        simp [List.getElem?_append_left, show j < zs.length by omega]
      have e2 : (⟨ints ys ++ sp⟩ : Array Value)[j]? = some (.int .i64 ys[j]!) := by
        simp [List.getElem?_append_left, hj]
      rw [e1, e2]
      simp [hj]
    · have e1 : (⟨ints zs ++ sp⟩ : Array Value)[j]? = (⟨ints ys ++ sp⟩ : Array Value)[j]? := by
        simp [List.getElem?_append_right, hl, show zs.length ≤ j by omega]
      rw [e1]
      cases (⟨ints ys ++ sp⟩ : Array Value)[j]? with
      | none => rfl
      | some v => simp; omega
theorem s_sortI {s : Sl} {zs : List Int} (hv : Vec H T_int s (ints zs)) (hl : zs.length < 2 ^ 60) {k : Unit → Heap → Prop} (hk : ∀ H', Upd (fun b => s.a = some (adr b)) H H' → Vec H' T_int s (ints (zs.mergeSort fun x y => decide (x ≤ y))) → k () H') :
    CallT Pg f_slices_Sort_Sl_int_int [.slice s.a s.len s.cap] (.tup []) H k := by
  have hlen := hv.len
  rw [List.length_map] at hlen
  have hp := (List.mergeSort_perm zs fun x y => decide (x ≤ y)).length_eq
  rcases hv.own with ⟨h1, h2, h3⟩ | ⟨b, sp, h1, h2, h3⟩
  · have e : zs = [] := List.map_eq_nil_iff.1 h3
    subst e
    rw [h1, hlen]
    refine lib_call cb_Sort (fun w hw => Tryz.slices_Sort_int_none none s.cap w) fun w e w' hw ⟨he, hw'⟩ => ?_
    subst hw'
    exact ⟨⟨rfl, rfl, rfl⟩, (), he, by rw [hw]; exact hk _ (.refl _ _) (by simpa using hv)⟩
  · rw [h1, hlen]
    refine lib_call cb_Sort (fun w hw => Tryz.slices_Sort_int b 0 s.cap zs w (holds_row hw h2) (by rw [hw]; exact h2.lt) (by omega)) fun w e w' hw ⟨he, n, os, hw'⟩ => ?_
    have := putRow_heap hw h2 hp (n := n) (os := os)
    subst hw'
    refine ⟨⟨rfl, rfl, rfl⟩, (), he, hk _ (this.1.mono fun _ _ e => e ▸ h1) ⟨by simp [hlen, hp], .inr ⟨b, sp, h1, this.2, by simp only [List.length_map] at h3 ⊢; omega⟩, hv.lc⟩⟩
theorem compact_le (zs : List Int) : (Lib.compact zs).length ≤ zs.length := Lib.compact_length_le zs
theorem s_compactI {s : Sl} {zs : List Int} (hv : Vec H T_int s (ints zs)) (hl : zs.length < 2 ^ 60) {k : Sl → Heap → Prop} (hk : ∀ H', Upd (fun b => s.a = some (adr b)) H H' → Vec H' T_int ⟨s.a, (Lib.compact zs).length, s.cap⟩ (ints (Lib.compact zs)) → k ⟨s.a, (Lib.compact zs).length, s.cap⟩ H') :
    CallT Pg f_slices_Compact_Sl_int_int [.slice s.a s.len s.cap] (.one (.c .sl)) H k := by
  have hlen := hv.len
  rw [List.length_map] at hlen
  have hlc := hv.lc
  rcases hv.own with ⟨h1, h2, h3⟩ | ⟨b, sp, h1, h2, h3⟩
  · have e : zs = [] := List.map_eq_nil_iff.1 h3
    subst e
    rw [h1, hlen]
    refine lib_call cb_Compact (fun w hw => Tryz.slices_Compact_int_empty none s.cap w) fun w e w' hw ⟨he, hw'⟩ => ?_
    subst hw'
    have e0 : Lib.compact ([] : List Int) = [] := rfl
    rw [e0] at hk
    have := hk H (.refl _ _) ⟨rfl, .inl ⟨h1, h2, rfl⟩, Nat.zero_le _⟩
    rw [h1] at this
    exact ⟨⟨rfl, rfl, rfl⟩, ⟨none, 0, s.cap⟩, he, by rw [hw]; exact this⟩
  · rw [h1, hlen]
    have hc := compact_le zs
    refine lib_call cb_Compact (fun w hw => Tryz.slices_Compact_int b 0 s.cap zs w (holds_row hw h2) (by omega) (by omega)) fun w e w' hw ⟨he, n, hw'⟩ => ?_
    have hll : (Lib.compact zs ++ List.replicate (zs.length - (Lib.compact zs).length) 0).length = zs.length := by simp; omega
    have := putRow_heap hw h2 hll (n := n) (os := #[])
    have eg : ∀ w : World, grow w #[] = w := fun w => by simp [grow]
    rw [eg] at this
    subst hw'
    have hk := hk _ (this.1.mono fun _ _ e => e ▸ h1) ⟨by simp, .inr ⟨b, ints (List.replicate (zs.length - (Lib.compact zs).length) 0) ++ sp, h1, by simpa [ints] using this.2, ?_⟩, by dsimp only; omega⟩
    · rw [h1] at hk
      exact ⟨⟨rfl, rfl, rfl⟩, ⟨some (adr b), (Lib.compact zs).length, s.cap⟩, he, hk⟩
    · simp only [List.length_map, List.length_append, List.length_replicate] at h3 ⊢
      omega
end
end Go.Proofs.YtfpmgpblhhcpgaaGreat
namespace Go.Proofs.YtfpmgpblhhcpgaaGreat.Hc
set_option linter.unusedVariables false
set_option linter.unusedSimpArgs false
set_option maxRecDepth 100000
section
open Go Go.Lib
theorem compactUp_ok {zs : List Int} (hs : zs.Pairwise (· ≤ ·)) : ∀ {m : Nat}, m ≤ zs.length → (compactUpTo zs.toArray m).Pairwise (· < ·) ∧ (∀ x ∈ compactUpTo zs.toArray m, ∃ j, j < m ∧ x = zs[j]!) ∧ ∀ j, j < m → zs[j]! ∈ compactUpTo zs.toArray m
  | 0, _ => ⟨by simp [compactUpTo], fun x hx => by simp [compactUpTo] at hx, fun j hj => by omega⟩
  | m + 1, hm => by
    obtain ⟨h1, h2, h3⟩ := compactUp_ok hs (m := m) (by omega)
    have hg : zs.toArray[m]! = zs[m]! := by simp
    rw [compactUpTo_succ, hg]
    have mono : ∀ i j, i ≤ j → j < zs.length → zs[i]! ≤ zs[j]! := fun i j hij hj => by
      rw [getElem!_pos zs i (by omega), getElem!_pos zs j hj]
      rcases Nat.lt_or_ge i j with h | h
      · exact List.pairwise_iff_getElem.1 hs i j (by omega) hj h
      · have : i = j := by omega
        subst this; exact Int.le_refl _
    by_cases hk : keeps zs.toArray m = true
    · rw [if_pos hk]
      refine ⟨?_, fun x hx => ?_, fun j hj => ?_⟩
      · rw [List.pairwise_append]
        refine ⟨h1, List.pairwise_singleton _ _, fun x hx y hy => ?_⟩
        rw [List.mem_singleton.1 hy]
        obtain ⟨j, hj, rfl⟩ := h2 x hx
        have a := mono j (m - 1) (by omega) (by omega)
        have b := mono (m - 1) m (by omega) (by omega)
        unfold keeps at hk
        have hne : zs[m]! ≠ zs[m - 1]! := by
          simp at hk
          rcases hk with e | e
          · omega
          · simpa using e
        omega
      · rcases List.mem_append.1 hx with hx | hx
        · obtain ⟨j, hj, e⟩ := h2 x hx; exact ⟨j, by omega, e⟩
        · exact ⟨m, by omega, List.mem_singleton.1 hx⟩
      · rcases Nat.lt_or_ge j m with h | h
        · exact List.mem_append_left _ (h3 j h)
        · have : j = m := by omega
          subst this; exact List.mem_append_right _ (by simp)
    · rw [if_neg hk, List.append_nil]
      refine ⟨h1, fun x hx => ?_, fun j hj => ?_⟩
      · obtain ⟨j, hj, e⟩ := h2 x hx; exact ⟨j, by omega, e⟩
      · rcases Nat.lt_or_ge j m with h | h
        · exact h3 j h
        · have : j = m := by omega
          subst this
          unfold keeps at hk
          simp at hk
          have := h3 (j - 1) (by omega)
          have e : zs[j]! = zs[j - 1]! := by simpa using hk.2
          rw [e]; exact this
theorem sortU_ok (ws : List Int) : (compact (ws.mergeSort fun a b => decide (a ≤ b))).Pairwise (· < ·) ∧ ∀ x, x ∈ compact (ws.mergeSort fun a b => decide (a ≤ b)) ↔ x ∈ ws := by
  have hs : (ws.mergeSort fun a b => decide (a ≤ b)).Pairwise (· ≤ ·) := by
    have := List.pairwise_mergeSort (le := fun a b : Int => decide (a ≤ b)) (fun a b c h1 h2 => by simp at *; omega) (fun a b => by simp; omega) ws
    exact this.imp fun h => by simpa using h
  have hp := List.mergeSort_perm ws fun a b => decide (a ≤ b)
  obtain ⟨h1, h2, h3⟩ := compactUp_ok hs (Nat.le_refl _)
  refine ⟨h1, fun x => ⟨fun hx => ?_, fun hx => ?_⟩⟩
  · obtain ⟨j, hj, e⟩ := h2 x hx
    rw [e, getElem!_pos _ j hj]
    exact hp.subset (List.getElem_mem hj)
  · obtain ⟨j, hj, e⟩ := List.getElem_of_mem (hp.symm.subset hx)
    have := h3 j hj
    rw [getElem!_pos _ j hj, e] at this
    exact this
end
end Go.Proofs.YtfpmgpblhhcpgaaGreat.Hc
namespace Go.Proofs.YtfpmgpblhhcpgaaGreat
set_option linter.unusedVariables false
set_option linter.unusedSimpArgs false
set_option maxRecDepth 100000
section
open Hc Hc.Vf Hc.Mc Hc.Dice
variable {H : Heap}
theorem s_cloneI {s : Sl} {xs : List Int} (hr : RL (Value.int .i64) H s xs) (hb : xs.length ≤ 2 ^ 44) {k : Sl → Heap → Prop}
    (hk : ∀ r H', Ext H H' → Vec H' T_int r (ints xs) → (∀ b, r.a = some (adr b) → H.size ≤ b) → k r H') : CallT Pg f_slices_Clone_Sl_int_int [.slice s.a s.len s.cap] (.one (.c .sl)) H k := by
  refine c_slices_Clone_Sl_int_int _ ?_
  unfold v_slices_Clone_Sl_int_int
  have hl := hr.len
  have hrd := hr.rd
  cases ha : s.a with
  | none =>
    rw [ha] at hrd
    have e : xs = [] := List.map_eq_nil_iff.1 hrd
    subst e
    exact hk ⟨none, 0, 0⟩ H (.refl _ _) (Vec.nil _ _) fun b hb => by cases hb
  | some a =>
    simp only [Option.isNone_some, Br_false]
    refine Nw_row (vs := []) fun b1 H1 hb1 hE1 hz1 hr1 => ?_
    have hv : Vec H1 T_int ⟨some (adr b1), 0, 0⟩ [] := ⟨rfl, .inr ⟨b1, [], rfl, hr1, Nat.le_refl _⟩, Nat.le_refl _⟩
    refine App_vec2 (ws := ints xs) hv (rdL_ext hE1 hrd) (by simp [hl]) (fun w hw => by obtain ⟨x, _, rfl⟩ := List.mem_map.1 hw; rfl) (by decide) (by simp; omega) fun s' H2 hv2 hU2 ha2 hz2 => ?_
    refine hk _ _ (extUpd (b := b1) hE1 (by omega) (hU2.mono fun b _ e => ?_)) (by simpa using hv2) fun b hb => ?_
    · have := e.1; cases this; rfl
    · rcases ha2 with ⟨e, _⟩ | e
      · rw [e] at hb; cases hb; omega
      · rw [e] at hb; cases hb; have := hE1.size; omega
def partsOf (es : List PtP) (ks : List Int) : List PtP := ks.filterMap fun k => es.find? fun q => q.kind == k
theorem find_nodup : ∀ {es : List PtP}, (es.map PtP.kind).Nodup → ∀ {j : Nat} (h : j < es.length), es.find? (fun q => q.kind == es[j].kind) = some es[j]
  | x :: r, _, 0, _ => by simp
  | x :: r, hn, j + 1, h => by
    simp only [List.map_cons, List.nodup_cons] at hn
    have hj : j < r.length := by simpa using h
    have hne : (x.kind == r[j].kind) = false := beq_eq_false_iff_ne.2 fun e => hn.1 (List.mem_map.2 ⟨r[j], List.getElem_mem hj, e.symm⟩)
    simp only [List.getElem_cons_succ, List.find?_cons, hne]
    exact find_nodup hn.2 hj
theorem find_none {es : List PtP} {k : Int} (h : lookV (es.map PtP.pt) k = none) : es.find? (fun q => q.kind == k) = none := by
  unfold lookV at h
  rw [Option.map_eq_none_iff, List.find?_map, Option.map_eq_none_iff] at h
  exact h
theorem partsOf_le {es : List PtP} {ks : List Int} (hk : ks.Nodup) : (partsOf es ks).length ≤ es.length := by
  have h1 : ∀ ks : List Int, ((partsOf es ks).map PtP.kind).Sublist ks := by
    intro ks
    induction ks with
    | nil => exact .slnil
    | cons k ks ih =>
      unfold partsOf
      rw [List.filterMap_cons]
      cases hf : es.find? fun q => q.kind == k with
      | none => exact .cons _ ih
      | some q =>
        have : q.kind = k := by have := List.find?_some hf; simpa using this
        simp only [List.map_cons, this]
        exact .cons_cons _ ih
  have h2 := ((h1 ks).nodup hk).length_le_of_subset (l₂ := es.map PtP.kind) fun u hu => by
    obtain ⟨q, hq, rfl⟩ := List.mem_map.1 hu
    obtain ⟨k, _, hk⟩ := List.mem_filterMap.1 hq
    exact List.mem_map.2 ⟨q, List.mem_of_find?_eq_some hk, rfl⟩
  simpa using h2
theorem s_written {H0 : Heap} {x : MG} {fs : List Rou} {ins : List (Int × Int × Int)} (h : MacR H0 H x) (hc : CtxR H0 x.g.pF x.g.s x.g.inS fs ins) (hwl : (x.g.s.l 3).length ≤ 2 ^ 44) (hel : x.es.length ≤ 2 ^ 42) {k : Sl → Heap → Prop}
    (hk : ∀ r H', Ext H H' → VecN H' T_api_Part 2 r ((partsOf x.es (Lib.compact ((x.g.s.l 3).mergeSort fun a b => decide (a ≤ b)))).flatMap ptV) → (∀ b, r.a = some (adr b) → H.size ≤ b) → k r H') :
    CallT Pg f_machine_run_written [.pointer (some (adr x.b))] (.one (.c .sl)) H k := by
  refine c_machine_run_written _ ?_
  unfold v_machine_run_written
  simp only [NilCk_some, adr_add, mk_add]
  refine Ld_sl (s := x.g.s.s 3) ((h.run.1.cell 5).trans rfl) (s_cloneI ((hc.sets 3 (by decide)).ext h.base) (by omega) fun r1 H1 hE1 hv1 hf1 => ?_)
  obtain ⟨hu1, _⟩ := sortU_ok (x.g.s.l 3)
  have hun : ∀ n, ((Lib.compact ((x.g.s.l 3).mergeSort fun a b => decide (a ≤ b))).take n).Nodup := fun n => (hu1.imp fun {a b} h => (show a ≠ b by omega) : List.Nodup _).sublist (List.take_sublist n _)
  clear hu1
  generalize hws : x.g.s.l 3 = ws at *
  have hml := (List.mergeSort_perm ws fun a b => decide (a ≤ b)).length_eq
  refine s_sortI hv1 (by omega) fun H2 hU2 hv2 => ?_
  generalize ws.mergeSort (fun a b => decide (a ≤ b)) = ms at *
  have hE2 : Ext H H2 := hE1.trans hU2 fun b hb e => by have := hf1 b e; omega
  refine s_compactI hv2 (by omega) fun H3 hU3 hv3 => ?_
  have hcl := Lib.compact_length_le ms
  generalize Lib.compact ms = cs at *
  have hE3 : Ext H H3 := hE2.trans hU3 fun b hb e => by have := hf1 b e; omega
  refine LoopT.mk (fun s H' => ∃ n : Nat, s.2 = n ∧ n ≤ cs.length ∧ Ext H H' ∧ Vec H' T_int ⟨r1.a, cs.length, r1.cap⟩ (ints cs) ∧ VecN H' T_api_Part 2 s.1 ((partsOf x.es (cs.take n)).flatMap ptV) ∧ ∀ b, s.1.a = some (adr b) → H.size ≤ b)
    (fun s _ => cs.length - s.2.toNat) ⟨0, rfl, Nat.zero_le _, hE3, hv3, VecN.nil _ _ _, fun b hb => by cases hb⟩ ?_
  rintro next ⟨out, i⟩ H4 ⟨n, hi, hn, hE4, hv4, ho4, hf4⟩ hnext
  dsimp only at hi ho4 hf4 hnext ⊢
  subst hi
  have h4 := h.ext hE4
  refine Br_dec (fun hlt => ?_) fun hge => ?_
  · have hn2 : n < cs.length := by omega
    have htk : cs.take (n + 1) = cs.take n ++ [cs[n]] := by rw [List.take_add_one, List.getElem?_eq_getElem hn2]; rfl
    have hpl := partsOf_le (es := x.es) (hun n)
    simp only [Jn]
    refine IxA_vec hv4 (by omega) (by simp; omega) fun a2 ha2 _ => Ld_int (n := cs[n]) (ha2.trans (by rw [Int.toNat_natCast, ints, List.getElem?_map, List.getElem?_eq_getElem hn2]; rfl)) ?_
    refine ⟨.map (some x.g.mp), (h4.run.1.cell 18).trans rfl, MpL_es h4.map.1 (fun j hj hkd hl _ => ?_) fun hl => ?_⟩
    · have hfd := find_nodup h.esK hj
      rw [hkd] at hfd
      have hpo : partsOf x.es (cs.take (n + 1)) = partsOf x.es (cs.take n) ++ [x.es[j]] := by
        rw [htk]; unfold partsOf; rw [List.filterMap_append]; simp [hfd]
      rw [Br_true]
      have ept : ptV x.es[j] = [.int .i64 cs[n], slV x.es[j].sl] := by rw [← hkd]
      refine Nw_row (vs := [.int .i64 cs[n], slV x.es[j].sl]) fun b1 H5 hb1 hE5 hz5 hr5 => ?_
      rw [← ept] at hr5
      have hov := ho4.ext hE5
      have hol := hov.len
      rw [flat_len ptV_len] at hol
      refine App_vecN (ws := ptV x.es[j]) rfl (by decide) hov hr5.rd_all rfl (fun w hw => ?_) (by decide) (by dsimp only; omega) fun l1 H6 hv6 hl6 hU6 ha6 => ?_
      · simp only [ptV, List.mem_cons, List.not_mem_nil, or_false] at hw
        rcases hw with rfl | rfl <;> rfl
      have hE6 : Ext H H6 := (hE4.trans hE5 fun _ _ h => h).trans hU6 fun b hb e => by have := hf4 b e.1; omega
      have hv46 := (hv4.ext hE5).upd hU6 fun b hb e => hov.apV (hv4.ext hE5) (by decide) e.1 hb
      refine Lt.mk (u := ((n + 1 : Nat) : Int)) (by rw [wrap_i64_id (by omega) (by omega)]; omega) (hnext _ _ ⟨n + 1, rfl, hn2, hE6, hv46, ?_, fun b hb => ?_⟩ (by dsimp only; omega))
      · rw [hpo, List.flatMap_append]; simpa using hv6
      · dsimp only at hb
        rcases ha6 with ⟨e, _⟩ | e
        · rw [e] at hb; exact hf4 b hb
        · rw [e] at hb; cases hb; have := hE4.size; have := hE5.size; omega
    · rw [Br_false]
      refine Lt.mk (u := ((n + 1 : Nat) : Int)) (by rw [wrap_i64_id (by omega) (by omega)]; omega) (hnext _ _ ⟨n + 1, rfl, hn2, hE4, hv4, ?_, hf4⟩ (by dsimp only; omega))
      have hpo : partsOf x.es (cs.take (n + 1)) = partsOf x.es (cs.take n) := by
        rw [htk]; unfold partsOf; rw [List.filterMap_append]; simp [find_none hl]
      rw [hpo]; exact ho4
  · have : n = cs.length := by omega
    subst this
    rw [List.take_length] at ho4
    exact hk out H4 hE4 ho4 hf4
end
section
open Hc Hc.Vf Hc.Mc Hc.Dice
variable {H : Heap}
def addF (l : List Pt) (p : Pt) : List Pt := if lookV l p.kind = none then l ++ [p] else l
def firsts (l : List Pt) : List Pt := l.foldl addF []
theorem firsts_snoc (l : List Pt) (p : Pt) : firsts (l ++ [p]) = addF (firsts l) p := by unfold firsts; rw [List.foldl_append]; rfl
theorem lookV_app (l r : List Pt) (k : Int) : lookV (l ++ r) k = (lookV l k).or (lookV r k) := by
  unfold lookV
  rw [List.find?_append]
  cases l.find? fun p => p.kind == k <;> simp
theorem look_addF (l : List Pt) (p : Pt) (k : Int) : lookV (addF l p) k = (lookV l k).or (lookV [p] k) := by
  unfold addF
  split
  · rw [lookV_app]
  · rename_i h
    by_cases e : p.kind = k
    · rw [e] at h
      cases hl : lookV l k with
      | none => exact absurd hl h
      | some v => rfl
    · have e0 : lookV [p] k = none := by unfold lookV; simp [e]
      rw [e0]; cases lookV l k <;> rfl
theorem look_fold (k : Int) : ∀ (l acc : List Pt), lookV (l.foldl addF acc) k = (lookV acc k).or (lookV l k)
  | [], acc => by have : lookV [] k = none := rfl
                  rw [this, List.foldl_nil]; cases lookV acc k <;> rfl
  | p :: l, acc => by
    rw [List.foldl_cons, look_fold k l, look_addF, Option.or_assoc, ← lookV_app]; rfl
theorem look_firsts (l : List Pt) (k : Int) : lookV (firsts l) k = lookV l k := by
  unfold firsts
  rw [look_fold]; rfl
structure EsR (lo : Nat) (H : Heap) (mp : Nat) (es : List PtP) : Prop where
  map : H[mp]? = some (.map ⟨mapEnts 0 es⟩ es.length)
  mlo : lo ≤ mp
  esR : ∀ q ∈ es, Vec H T_int64 q.sl (ints q.vals)
  eslo : ∀ q ∈ es, ∀ b, q.sl.a = some (adr b) → lo ≤ b
  esA : es.Pairwise fun p q => Apart p.sl q.sl
  esK : (es.map PtP.kind).Nodup
theorem mapEnts_snoc : ∀ (n : Nat) (es : List PtP) (q : PtP), mapEnts n (es ++ [q]) = mapEnts n es ++ [{ key := .int .i64 q.kind, val := slV q.sl, born := n + es.length }]
  | n, [], q => by simp [mapEnts]
  | n, x :: r, q => by
    simp only [List.cons_append, mapEnts, mapEnts_snoc (n + 1) r q, List.length_cons]
    congr 4
    omega
theorem MpU_es {lo : Nat} {mp : Nat} {es : List PtP} (h : EsR lo H mp es) {q : PtP} (hno : lookV (es.map PtP.pt) q.kind = none) (hq : Vec H T_int64 q.sl (ints q.vals)) (hql : ∀ b, q.sl.a = some (adr b) → lo ≤ b) (hqa : ∀ p ∈ es, Apart p.sl q.sl) {k : Heap → Prop}
    (hk : ∀ H', Upd (· = mp) H H' → EsR lo H' mp (es ++ [q]) → k H') : MpU (.int .i64) (.map (some mp)) (.int .i64 q.kind) (.slice q.sl.a q.sl.len q.sl.cap) H k := by
  have hnone : Instr.findNow (.int .i64) (.int .i64 q.kind) (mapEnts 0 es) 0 = some none ∧ ∀ p ∈ es, p.kind ≠ q.kind := by
    rcases mapEnts_find (key := q.kind) (es := es) (n := 0) (i := 0) with ⟨j, hj, _, _, g3, _⟩ | ⟨g1, _, g3⟩
    · rw [hno] at g3; cases g3
    · exact ⟨g1, g3⟩
  have hU : Upd (· = mp) H (H.setIfInBounds mp (.map ((⟨mapEnts 0 es⟩ : Array MapEntry).push { key := .int .i64 q.kind, val := .slice q.sl.a q.sl.len q.sl.cap, born := es.length }) (es.length + 1))) := by
    refine ⟨by simp, fun b hb hn => ?_⟩
    simp only [Array.getElem?_setIfInBounds]; rw [if_neg (fun e => hn e.symm)]
  have hvne : ∀ {s : Sl} {vs : List Value}, Vec H T_int64 s vs → ∀ b, s.a = some (adr b) → ¬ b = mp := fun {s vs} hv b hb e => by
    rcases hv.own with ⟨h1, _⟩ | ⟨c, sp, h1, h2, _⟩
    · rw [h1] at hb; cases hb
    · rw [h1] at hb; cases hb
      have := h.map
      rw [← e] at this
      unfold Row at h2
      rw [h2] at this; cases this
  refine ⟨mp, _, _, rfl, h.map, .inr ⟨hnone.1, hk _ hU ⟨?_, h.mlo, fun p hp => ?_, fun p hp => ?_, ?_, ?_⟩⟩⟩
  · have := lt_of_get h.map
    simp only [Array.getElem?_setIfInBounds, this, if_true]
    rw [mapEnts_snoc]
    simp
  · rcases List.mem_append.1 hp with hp | hp
    · exact (h.esR p hp).upd hU (hvne (h.esR p hp))
    · rw [List.mem_singleton.1 hp]; exact hq.upd hU (hvne hq)
  · rcases List.mem_append.1 hp with hp | hp
    · exact h.eslo p hp
    · rw [List.mem_singleton.1 hp]; exact hql
  · rw [List.pairwise_append]
    exact ⟨h.esA, List.pairwise_singleton _ _, fun p hp r hr => by rw [List.mem_singleton.1 hr]; exact hqa p hp⟩
  · rw [List.map_append, List.map_cons, List.map_nil, List.nodup_append]
    refine ⟨h.esK, by simp, fun a ha b hb => ?_⟩
    obtain ⟨p, hp, rfl⟩ := List.mem_map.1 ha
    rw [List.mem_singleton.1 hb]
    exact hnone.2 p hp
end
section
open Hc Hc.Vf Hc.Mc Hc.Dice
variable {H : Heap}
theorem fill_step {H3 : Heap} {b mp : Nat} {g : RunG} {es : List PtP} (hmp : g.mp = mp) (hE : Ext H3 H) (he : EsR H3.size H mp es) (hr : Row H b T_machine_run (runV g)) (hb : H3.size ≤ b) {q : PtP} (hq : RL (Value.int .i64) H3 q.sl q.vals) (hql : q.vals.length ≤ 2 ^ 44) {b5 : Nat} (h5 : Row H b5 T_api_Part (ptV q)) (hb5 : H3.size ≤ b5) {k : Heap → Prop}
    (hk : ∀ H' es', Upd (· = mp) H H' → EsR H3.size H' mp es' → es'.map PtP.pt = addF (es.map PtP.pt) q.pt → k H') :
    Ld .raw ⟨b, 18, none⟩ H fun (x7 : Value) => Ld (.int .i64) (adr b5) H fun (x8 : Int) => MpL (.int .i64) (.c .sl) ⟨none, 0, 0⟩ x7 (.int .i64 x8) H fun (x9 : Sl) e1 =>
      Br (!e1) (Ld .raw ⟨b, 18, none⟩ H fun (x10 : Value) => Ld (.int .i64) (adr b5) H fun (x11 : Int) => Ld .sl ⟨b5, 1, none⟩ H fun (x12 : Sl) => Nw #[] T_int64 H fun b6 H20 =>
        Stab [(⟨b5, 1, none⟩, .slice x12.a x12.len x12.cap), (adr b5, .int .i64 x11), (⟨b, 18, none⟩, x10)] H20 <|
        App T_int64 1 8 #[.int .i64 0] ⟨some (adr b6), 0, 0⟩ x12 H20 fun l1 H21 => Stab [(adr b5, .int .i64 x11), (⟨b, 18, none⟩, x10)] H21 <| MpU (.int .i64) x10 (.int .i64 x11) (.slice l1.a l1.len l1.cap) H21 fun H22 => k H22) (k H) := by
  have c18 : ∀ {H'}, Row H' b T_machine_run (runV g) → hcell H' ⟨b, 18, none⟩ = some (.map (some mp)) := fun h => (h.cell 18).trans (by rw [← hmp]; rfl)
  refine ⟨.map (some mp), c18 hr, Ld_int (n := q.kind) ((h5.cell 0).trans rfl) (MpL_es he.map (fun j hj hkd hl _ => ?_) fun hl => ?_)⟩
  · refine hk H es (.refl _ _) he ?_
    unfold addF
    rw [if_neg (fun e => by rw [e] at hl; cases hl)]
  · refine ⟨.map (some mp), c18 hr, Ld_int (n := q.kind) ((h5.cell 0).trans rfl) (Ld_sl (s := q.sl) ((h5.cell 1).trans rfl) ?_)⟩
    refine Nw_row (vs := []) fun b6 H1 hb6 hE1 hz1 hr6 => ?_
    have hv6 : Vec H1 T_int64 ⟨some (adr b6), 0, 0⟩ [] := ⟨rfl, .inr ⟨b6, [], rfl, hr6, Nat.le_refl _⟩, Nat.le_refl _⟩
    have h51 := hE1.row h5 fun h => h
    have hr1 := hE1.row hr fun h => h
    refine Stab_all (fun y hy => ?_) ?_
    · simp only [List.mem_cons, List.not_mem_nil, or_false] at hy
      rcases hy with rfl | rfl | rfl
      · exact (h51.cell 1).trans rfl
      · exact (h51.cell 0).trans rfl
      · exact c18 hr1
    refine App_vec2 (ws := ints q.vals) hv6 (rdL_ext (hE.trans hE1 fun _ _ h => h) hq.rd) (by rw [hq.len]; simp) (ints_one _) (by decide) (by simp; omega) fun l1 H2 hv2 hU2 ha2 hz2 => ?_
    have hlt5 := h5.lt
    have hltr := hr.lt
    have n5 : ¬ (∃ _ : Unit, b5 = b6) := fun ⟨_, e⟩ => by omega
    have h52 : Row H2 b5 T_api_Part (ptV q) := hU2.row h51 fun e => by have := e.1; cases this; omega
    have hr2 : Row H2 b T_machine_run (runV g) := hU2.row hr1 fun e => by have := e.1; cases this; omega
    refine Stab_2 ((h52.cell 0).trans rfl) (c18 hr2) ?_
    have hE02 : Ext H H2 := extUpd (b := b6) hE1 (by omega) (hU2.mono fun c _ e => by have := e.1; cases this; rfl)
    have hfr : ∀ c, l1.a = some (adr c) → H.size ≤ c := fun c hc => by
      rcases ha2 with ⟨e, _⟩ | e
      · rw [e] at hc; cases hc; omega
      · rw [e] at hc; cases hc; have := hE1.size; omega
    have he2 : EsR H3.size H2 mp es := ⟨hE02.keep he.map fun h => h, he.mlo, fun p hp => (he.esR p hp).ext hE02, he.eslo, he.esA, he.esK⟩
    refine MpU_es he2 (q := ⟨q.kind, l1, q.vals⟩) hl (by simpa using hv2) (fun c hc => by have := hfr c hc; have := hE.size; omega) (fun p hp c hc hc' => by have h1 := (he.esR p hp).lt hc; have h2 := hfr c hc'; omega) fun H' hU hes => ?_
    refine hk H' _ ((hE02.mono fun _ _ h => h.elim).trans hU fun _ _ e => e) hes ?_
    unfold addF
    rw [if_pos hl]
    simp
end
section
open Hc Hc.Vf Hc.Mc Hc.Dice
variable {H : Heap}
theorem stat_ctx {g g' : RunG} (h : stat g' = stat g) : g'.pF = g.pF ∧ g'.s = g.s ∧ g'.inS = g.inS ∧ g'.n = g.n ∧ g'.fr = g.fr ∧ g'.sd = g.sd ∧ g'.ix = g.ix ∧ g'.gn = g.gn ∧ g'.mp = g.mp := by
  simp only [stat, Prod.mk.injEq] at h
  obtain ⟨_, h2, h3, h4, h5, h6, _, h8, h9, h10, _, h12, _⟩ := h
  exact ⟨h2, h3, h8, h4, h5, h6, h9, h10, h12⟩
theorem stat_mp {g g' : RunG} (h : stat g' = stat g) (fs : List Rou) : mpOf g' fs = mpOf g fs := by
  obtain ⟨_, h3, _, h4, _⟩ := stat_ctx h
  unfold mpOf; rw [h3, h4]
theorem stat_en {g g' : RunG} (h : stat g' = stat g) (ins : List (Int × Int × Int)) : enOf g' ins = enOf g ins := by
  obtain ⟨_, _, _, _, h5, h6, h9, h10, _⟩ := stat_ctx h
  unfold enOf; rw [h5, h6, h9, h10]
theorem act_meas {P : MP} {E : En} {m m1 : Ms} {l : List Int} {op : Nat} {A : Int} (e1 : m1.steps = m.steps) (e2 : m1.since = m.since + 1) (h : (act P E m m1 l op A).1 = 0) :
    ((act P E m m1 l op A).2.steps = m.steps ∧ (act P E m m1 l op A).2.since = m.since + 1) ∨ ((act P E m m1 l op A).2.steps = m.steps + 1 ∧ (act P E m m1 l op A).2.since = 0) := by
  unfold act at h ⊢
  split
  case h_7 => dsimp only; split <;> exact .inl ⟨e1, e2⟩
  case h_8 =>
    split
    · exact .inr ⟨rfl, rfl⟩
    · rename_i hn; dsimp only at h; rw [if_neg hn] at h; cases h
  case h_11 =>
    split
    · exact .inr ⟨rfl, rfl⟩
    · rename_i hn
      revert h
      show ((if m.steps + 1 ≤ 2000 then ((0 : Int), ({ m1 with steps := m.steps + 1, since := 0 } : Ms)) else (120, { m1 with steps := m.steps + 1 })).1 = 0) → _
      rw [if_neg hn]
      intro h; cases h
  all_goals exact .inl ⟨e1, e2⟩
theorem does_meas {P : MP} {E : En} {m : Ms} {i : Ins} (h : (does P E m i).1 = 0) : ((does P E m i).2.steps = m.steps ∧ (does P E m i).2.since = m.since + 1) ∨ ((does P E m i).2.steps = m.steps + 1 ∧ (does P E m i).2.since = 0) := by
  unfold does at h ⊢
  dsimp only at h ⊢
  split
  · exact .inl ⟨rfl, rfl⟩
  split
  · exact .inl ⟨rfl, rfl⟩
  rename_i h1 h2
  rw [if_neg h1, if_neg h2] at h
  exact act_meas rfl rfl h
structure OutR (lo : Nat) (H : Heap) (vs cs es : Sl) (ps : List PtP) (cl : List CmP) (evs : List Ev) : Prop where
  vv : VecN H T_api_Part 2 vs (ps.flatMap ptV)
  vR : ∀ q ∈ ps, Vec H T_int64 q.sl (ints q.vals)
  cv : VecN H T_api_Command 6 cs (cl.flatMap cmV)
  cR : ∀ q ∈ cl, Vec H T_int64 q.vsl (ints q.vals) ∧ VecN H T_api_Part 2 q.psl (q.parts.flatMap ptV) ∧ ∀ p ∈ q.parts, Vec H T_int64 p.sl (ints p.vals)
  ev : VecN H T_api_Event 5 es (evs.flatMap evV)
  ap : (ps.map PtP.sl ++ cl.flatMap cmSl).Pairwise Apart
  pa : (vs :: cl.map CmP.psl).Pairwise Apart
  new : ∀ s ∈ vs :: cs :: es :: (ps.map PtP.sl ++ cl.flatMap cmSl ++ cl.map CmP.psl), ∀ b, s.a = some (adr b) → lo ≤ b
theorem run_turn (hin : InputOk) {B : Heap} {x : MG} {fs : List Rou} {ins : List (Int × Int × Int)} (h : MacR B H x) (hc : CtxR B x.g.pF x.g.s x.g.inS fs ins) (her : x.g.er = 0) (hP : POk (mpOf x.g fs)) (hE : EOk (enOf x.g ins)) (hM : MOk (mpOf x.g fs) x.ms) (hov : x.g.ov = false) {k : Int → Heap → Prop}
    (hbad : ∀ H' x' e n m', MacR B H' x' → x'.b = x.b → Runs (mpOf x.g fs) (enOf x.g ins) x.ms n e m' → e ≠ 0 → x'.g.st = m'.steps → k e H')
    (hgo : ∀ H' x', MacR B H' x' → x'.b = x.b → stat x'.g = stat x.g → x'.g.er = 0 → MOk (mpOf x.g fs) x'.ms → (∀ n e m', Runs (mpOf x.g fs) (enOf x.g ins) x'.ms n e m' → Runs (mpOf x.g fs) (enOf x.g ins) x.ms (n + 1) e m') →
      ((2001 - x'.g.st) * 40001 + (40000 - x'.g.si)).toNat < ((2001 - x.g.st) * 40001 + (40000 - x.g.si)).toNat → k 0 H') :
    CallT Pg f_machine_run_ready [.pointer (some (adr x.b))] (.tup [(.agg [(.int .i64), (.int .i64)]), (.c (.int .i64))]) H fun (r3 : (Int × Int) × Int) H27 =>
      Nw #[.int .i64 0, .int .i64 0] T_api_Instr H27 fun b8 H28 => St ⟨b8, 0, none⟩ (.int .i64 r3.1.1) H28 fun H29 => St ⟨b8, 1, none⟩ (.int .i64 r3.1.2) H29 fun H30 =>
      Br (r3.2 == 0) (LdC [(.int .i64), (.int .i64)] (adr b8) H30 fun (c7 : Int × Int) => CallT Pg f_machine_run_does [.pointer (some (adr x.b)), .agg #[.int .i64 c7.1, .int .i64 c7.2]] (.tup []) H30 fun (r4 : Unit) H32 =>
        Ld (.int .i64) ⟨x.b, 25, none⟩ H32 fun (x14 : Int) => k x14 H32) (k r3.2 H30) := by
  have hcode : ∀ i ∈ x.top.r.code, I64 i.2 := fun i hi => ((hM.top.fnOk hP).code i hi).2
  have hstk : x.top.stk.length ≤ 64 := hM.top.stk
  refine s_ready h hc hcode (by omega) fun H1 i hE1 hi => ?_
  have h1 := h.ext hE1
  refine Nw_row (vs := [.int .i64 0, .int .i64 0]) fun b8 H2 hb8 hE2 hz2 hr2 => ?_
  refine St_row hr2 (by simp) fun H3 hU3 _ hr3 => St_row hr3 (by simp) fun H4 hU4 _ hr4 => ?_
  have hE4 : Ext H1 H4 := extUpd hE2 (by omega) (hU3.trans hU4 fun _ _ e => e)
  have h4 := h1.ext hE4
  dsimp only
  refine Br.mk (fun hz => ?_) fun hz => ?_
  · have hz := beqI hz
    have hi := hi hz
    have hrdy := ready_iff hz
    have hi' : x.ms.top.fn.code[x.ms.top.nx.toNat]! = i := hi.symm
    rw [hi'] at hrdy
    refine ⟨(i.1, i.2), hr4.rd_all, s_does (i := i) hin h4 hc her hP hM hrdy fun H5 x' hp => ?_⟩
    have hd := hM.does hP hE hrdy
    have hstep : stepM (mpOf x.g fs) (enOf x.g ins) x.ms = does (mpOf x.g fs) (enOf x.g ins) x.ms i := by
      unfold stepM
      rw [if_pos hz, hi']
    have hov' : x.ms.over = false := hov
    refine Ld_int (n := x'.g.er) ((by have := hp.mac.run.1; rw [hp.b] at this; exact (this.cell 25).trans rfl)) ?_
    rw [hp.er]
    rcases hd with ⟨h0, hmo⟩ | ⟨h120, hst⟩
    · rw [h0]
      have hms := hp.ms h0
      rw [← hms] at hmo
      refine hgo H5 x' hp.mac hp.b hp.st (hp.er.trans h0) hmo (fun n e m' hr => ?_) ?_
      · refine .step hov' (by rw [hstep]; exact h0) ?_
        rw [hstep, ← hms]; exact hr
      · have hme := does_meas h0
        rw [← hms] at hme
        have hme : (x'.g.st = x.g.st ∧ x'.g.si = x.g.si + 1) ∨ (x'.g.st = x.g.st + 1 ∧ x'.g.si = 0) := hme
        have h1 : 0 ≤ x.g.st ∧ x.g.st ≤ 2000 := hM.steps
        have h2 : 0 ≤ x'.g.st ∧ x'.g.st ≤ 2000 := hmo.steps
        have h3 : 0 ≤ x.g.si ∧ x.g.si ≤ 40000 := hM.since
        have h4 : 0 ≤ x'.g.si ∧ x'.g.si ≤ 40000 := hmo.since
        omega
    · rw [h120]
      refine hbad H5 x' 120 1 _ hp.mac hp.b (?_ : Runs _ _ x.ms 1 120 (does (mpOf x.g fs) (enOf x.g ins) x.ms i).2) (by decide) (hp.steps)
      have := Runs.bad (P := mpOf x.g fs) (E := enOf x.g ins) hov' (by rw [hstep, h120]; decide)
      rwa [hstep, h120] at this
  · have hz := bneI hz
    refine hbad H4 x _ 1 x.ms h4 rfl ?_ hz rfl
    have hstep : stepM (mpOf x.g fs) (enOf x.g ins) x.ms = (ready (mpOf x.g fs) x.ms, x.ms) := by
      unfold stepM
      rw [if_neg hz]
    have := Runs.bad (P := mpOf x.g fs) (E := enOf x.g ins) (m := x.ms) hov (by rw [hstep]; exact hz)
    rwa [hstep] at this
end
section
open Hc Hc.Vf Hc.Mc Hc.Dice
variable {H : Heap}
structure EnV where
  fr : Int
  sd : Int
  en : Int
  inS : Sl
  ix : Int
  gn : Int
  rp : Sl
abbrev envA (e : EnV) : Value := .agg #[.int .i64 e.fr, .int .i64 e.sd, .int .i64 e.en, .slice e.inS.a e.inS.len e.inS.cap, .int .i64 e.ix, .int .i64 e.gn, .slice e.rp.a e.rp.len e.rp.cap]
abbrev envL (e : EnV) : List Value := [.int .i64 e.fr, .int .i64 e.sd, .int .i64 e.en, slV e.inS, .int .i64 e.ix, .int .i64 e.gn, slV e.rp]
abbrev mpS (s : Sy) (n : Int) (fs : List Rou) : MP := ⟨fs.map fnOf, fnOf s.rou, s.l 2, s.l 3, n, 2 ^ 40⟩
abbrev enS (e : EnV) (ins : List (Int × Int × Int)) : En := ⟨e.fr, e.sd, e.ix, e.gn, ins⟩
abbrev g0 (p : Sl × Sl) (s : Sy) (n : Int) (e : EnV) (mp dp : Nat) : RunG := ⟨p.1, p.2, s, n, e.fr, e.sd, e.en, e.inS, e.ix, e.gn, e.rp, mp, ⟨none, 0, 0⟩, ⟨none, 0, 0⟩, ⟨none, 0, 0⟩, ⟨none, 0, 0⟩, 0, 0, dp, 0, false⟩
open Classical in
theorem mac_init {B : Heap} {p : Sl × Sl} {s : Sy} {n : Int} {e : EnV} {mp dp b b7 : Nat} {es : List PtP} {t : AP} (hB : Ext B H) (he : EsR B.size H mp es) (hr : Row H b T_machine_run (runV { g0 p s n e mp dp with ls := ⟨some (adr b7), 1, 1⟩ })) (hb : B.size ≤ b)
    (hdp : Row H dp T_dice_Dice [.int .u64 (newS e.sd e.fr n e.ix)]) (hdl : B.size ≤ dp) (ht : ActR H t) (htb : ∀ x, ActB t x → B.size ≤ x ∧ ∀ q ∈ es, q.sl.a ≠ some (adr x)) (h7 : Row H b7 T_P_machine_activation [.pointer (some (adr t.p))]) (h7l : B.size ≤ b7) (hc : CodeR B t.r) :
    ∃ c, MacR B H ⟨c, b, { g0 p s n e mp dp with ls := ⟨some (adr b7), 1, 1⟩ }, [], t, es, newS e.sd e.fr n e.ix, [], [], []⟩ := by
  have mpne : ∀ {x : Nat} {T : TypeId} {vs : List Value}, Row H x T vs → x ≠ mp := fun {x T vs} h e => by
    have := he.map
    rw [← e] at this
    unfold Row at h
    rw [h] at this; cases this
  have vne : ∀ {sl : Sl} {vs : List Value} {x : Nat} {T : TypeId} {ws : List Value}, Vec H T_int64 sl vs → sl.a = some (adr x) → Row H x T ws → T_int64 ≠ T → False := fun hv ha hr hT => hv.ne ha hr hT rfl
  have vmp : ∀ {sl : Sl} {vs : List Value} {x : Nat}, Vec H T_int64 sl vs → sl.a = some (adr x) → x ≠ mp := fun {sl vs x} hv ha => by
    rcases hv.own with ⟨h1, _⟩ | ⟨c, sp, h1, h2, _⟩
    · rw [h1] at ha; cases ha
    · rw [h1] at ha; cases ha; exact mpne h2
  refine ⟨fun x => if x = b then 200 else if x = b7 then 201 else if x = dp then 205 else if x = mp then 206 else if ∃ q ∈ es, q.sl.a = some (adr x) then 100 else 0, ?_⟩
  have b7b : b7 ≠ b := h7.ne hr (by decide)
  have dpb : dp ≠ b := hdp.ne hr (by decide)
  have dp7 : dp ≠ b7 := hdp.ne h7 (by decide)
  have esne : ∀ q ∈ es, ∀ x, q.sl.a = some (adr x) → x ≠ b ∧ x ≠ b7 ∧ x ≠ dp ∧ x ≠ mp := fun q hq x hx =>
    ⟨fun e => vne (he.esR q hq) hx (e ▸ hr) (by decide), fun e => vne (he.esR q hq) hx (e ▸ h7) (by decide), fun e => vne (he.esR q hq) hx (e ▸ hdp) (by decide), vmp (he.esR q hq) hx⟩
  have tne : ∀ x, ActB t x → x ≠ b ∧ x ≠ b7 ∧ x ≠ dp ∧ x ≠ mp := fun x hx => by
    rcases hx with rfl | hx | hx
    · exact ⟨ht.row.ne hr (by decide), ht.row.ne h7 (by decide), ht.row.ne hdp (by decide), mpne ht.row⟩
    · exact ⟨fun e => vne ht.loc hx (e ▸ hr) (by decide), fun e => vne ht.loc hx (e ▸ h7) (by decide), fun e => vne ht.loc hx (e ▸ hdp) (by decide), vmp ht.loc hx⟩
    · exact ⟨fun e => vne ht.stk hx (e ▸ hr) (by decide), fun e => vne ht.stk hx (e ▸ h7) (by decide), fun e => vne ht.stk hx (e ▸ hdp) (by decide), vmp ht.stk hx⟩
  exact {
    base := hB
    run := ⟨hr, hb, if_pos rfl⟩
    lv := ⟨⟨rfl, .inr ⟨b7, [], rfl, by simpa [ptrs] using h7, by simp⟩, Nat.le_refl _⟩, fun x hx => by cases hx; exact ⟨h7l, by dsimp only; rw [if_neg b7b, if_pos rfl]⟩⟩
    lowR := fun i hi => by cases hi
    topR := ht
    topI := fun x hx => ⟨(htb x hx).1, by
      obtain ⟨h1, h2, h3, h4⟩ := tne x hx
      dsimp only
      rw [if_neg h1, if_neg h2, if_neg h3, if_neg h4, if_neg]
      · rfl
      · rintro ⟨q, hq, e⟩; exact (htb x hx).2 q hq e⟩
    codes := fun a ha => by rw [List.mem_singleton.1 ha]; exact hc
    lowl := Nat.zero_le _
    dice := ⟨hdp, hdl, by dsimp only; rw [if_neg dpb, if_neg dp7, if_pos rfl]⟩
    map := ⟨he.map, he.mlo, by dsimp only; rw [if_neg (fun e => mpne hr e.symm), if_neg (fun e => mpne h7 e.symm), if_neg (fun e => mpne hdp e.symm), if_pos rfl]⟩
    esR := fun q hq => ⟨he.esR q hq, fun x hx => ⟨he.eslo q hq x hx, by
      obtain ⟨h1, h2, h3, h4⟩ := esne q hq x hx
      dsimp only
      rw [if_neg h1, if_neg h2, if_neg h3, if_neg h4, if_pos ⟨q, hq, hx⟩]⟩⟩
    esA := he.esA
    esK := he.esK
    kv := VecNC.nil _ _ _ _ _ _
    kR := fun q hq => by cases hq
    cv := VecNC.nil _ _ _ _ _ _
    cR := fun q hq => by cases hq
    outA := List.Pairwise.nil
    parA := List.Pairwise.nil
    ev := VecNC.nil _ _ _ _ _ _ }
end
section
open Hc Hc.Vf Hc.Mc Hc.Dice
variable {H : Heap}
theorem put_len (l : List Pt) (k : Int) (f : Nat) (x : Int) : (putV l k f x).length = l.length := by
  induction l with
  | nil => rfl
  | cons p r ih => unfold putV; split <;> simp [ih]
theorem act_vals {P : MP} {E : En} {m m1 : Ms} {l : List Int} {op : Nat} {A : Int} (h : m1.vals.length = m.vals.length) : (act P E m m1 l op A).2.vals.length = m.vals.length := by
  unfold act
  split
  case h_5 => exact put_len _ _ _ _
  case h_7 => dsimp only; split <;> exact h
  case h_8 => split <;> exact h
  case h_11 => split <;> exact h
  all_goals exact h
theorem step_vals {P : MP} {E : En} {m : Ms} : (stepM P E m).2.vals.length = m.vals.length := by
  unfold stepM
  split
  · unfold does
    dsimp only
    split
    · rfl
    split
    · rfl
    exact act_vals rfl
  · rfl
theorem runs_vals {P : MP} {E : En} {m m' : Ms} {N : Nat} {er : Int} (h : Runs P E m N er m') : m'.vals.length = m.vals.length := by
  induction h with
  | over _ => rfl
  | bad _ _ => exact step_vals
  | step _ _ _ ih => exact ih.trans step_vals
theorem firsts_len : ∀ (l acc : List Pt), (l.foldl addF acc).length ≤ acc.length + l.length
  | [], acc => by simp
  | p :: l, acc => by
    have := firsts_len l (addF acc p)
    have h2 : (addF acc p).length ≤ acc.length + 1 := by unfold addF; split <;> simp
    simp only [List.foldl_cons, List.length_cons]
    omega
theorem ActR.ext' {H' : Heap} (h : Ext H H') {x : AP} (hx : ActR H x) : ActR H' x := hx.upd h fun _ _ h => h
theorem firsts_sub : ∀ (l acc : List Pt) (P : Pt → Prop), (∀ p ∈ acc, P p) → (∀ p ∈ l, P p) → ∀ p ∈ l.foldl addF acc, P p
  | [], _, _, ha, _ => ha
  | q :: l, acc, P, ha, hl => by
    refine firsts_sub l _ P (fun p hp => ?_) fun p hp => hl p (by simp [hp])
    unfold addF at hp
    split at hp
    · rcases List.mem_append.1 hp with hp | hp
      · exact ha p hp
      · rw [List.mem_singleton.1 hp]; exact hl q (by simp)
    · exact ha p hp
theorem init_ok {P : MP} {E : En} {ps : List Pt} (hP : POk P) (h : ∀ p ∈ ps, All64 p.vals) : MOk P (initM P E (firsts ps)) where
  low := fun a ha => by cases ha
  top := ⟨.inl rfl, by simp [initM], (fun x hx => by cases hx), locals_len _ _ (by simp), locals_64 (fun x hx => by cases hx), by dsimp only [initM]; omega⟩
  lowl := Nat.zero_le _
  vals := firsts_sub ps [] (fun p => All64 p.vals) (fun p hp => by cases hp) h
  dice := newS_bd _ _ _ _
  since := by dsimp only [initM]; omega
  steps := by dsimp only [initM]; omega
  kept := Nat.zero_le _
  keptK := fun p hp => by cases hp
  cmds := Nat.zero_le _
  evs := Nat.zero_le _
theorem parts_apart {es : List PtP} (hA : es.Pairwise fun p q => Apart p.sl q.sl) {ks : List Int} (hk : ks.Nodup) : ((partsOf es ks).map PtP.sl).Pairwise Apart := by
  rw [List.pairwise_map]
  unfold partsOf
  rw [List.pairwise_filterMap]
  refine hk.imp fun {a a'} hne q hq q' hq' => ?_
  have h1 := List.mem_of_find?_eq_some hq
  have h2 := List.mem_of_find?_eq_some hq'
  have e1 : q.kind = a := by have := List.find?_some hq; simpa using this
  have e2 : q'.kind = a' := by have := List.find?_some hq'; simpa using this
  obtain ⟨i, hi, ei⟩ := List.getElem_of_mem h1
  obtain ⟨j, hj, ej⟩ := List.getElem_of_mem h2
  have hij : i ≠ j := fun e => by subst e; exact hne (by rw [← e1, ← e2, ← ei, ← ej])
  rcases Nat.lt_or_ge i j with h | h
  · have := List.pairwise_iff_getElem.1 hA i j hi hj h
    rw [ei, ej] at this; exact this
  · have := List.pairwise_iff_getElem.1 hA j i hj hi (by omega)
    rw [ei, ej] at this; exact this.symm
theorem parts_mem {es : List PtP} {ks : List Int} {q : PtP} (h : q ∈ partsOf es ks) : q ∈ es := by
  obtain ⟨k, _, hk⟩ := List.mem_filterMap.1 h
  exact List.mem_of_find?_eq_some hk
abbrev RunT : RTy := .one (.agg [.sl, .sl, .sl, (.int .i64), (.int .i64)])
theorem s_Run (hin : InputOk) {p : Sl × Sl} {ss : List Sy} {fs : List Rou} {n : Int} {e : EnV} {ps0 : List PtP} {ins : List (Int × Int × Int)} (hss : RN sysV 8 H p.1 ss) (hn : 0 ≤ n ∧ n < (ss.length : Int)) (hc : CtxR H p.2 (ss[n.toNat]!) e.inS fs ins) (hsc : CodeR H (ss[n.toNat]!).rou)
    (hps : RN ptV 2 H e.rp ps0) (hpr : ∀ q ∈ ps0, RL (Value.int .i64) H q.sl q.vals ∧ q.vals.length ≤ 2 ^ 44 ∧ All64 q.vals) (hpl : ps0.length ≤ 2 ^ 42) (hwl : ((ss[n.toNat]!).l 3).length ≤ 2 ^ 44) (hP : POk (mpS (ss[n.toNat]!) n fs)) (hE : EOk (enS e ins)) {k : Sl × Sl × Sl × Int × Int → Heap → Prop}
    (hbad : ∀ H' N er m', Ext H H' → Runs (mpS (ss[n.toNat]!) n fs) (enS e ins) (initM (mpS (ss[n.toNat]!) n fs) (enS e ins) (firsts (ps0.map PtP.pt))) N er m' → er ≠ 0 → k (⟨none, 0, 0⟩, ⟨none, 0, 0⟩, ⟨none, 0, 0⟩, m'.steps, er) H')
    (hok : ∀ H' N m' vs cs es (ps : List PtP) (cl : List CmP) (q : List PtP), Ext H H' → Runs (mpS (ss[n.toNat]!) n fs) (enS e ins) (initM (mpS (ss[n.toNat]!) n fs) (enS e ins) (firsts (ps0.map PtP.pt))) N 0 m' → OutR H.size H' vs cs es ps cl m'.evs → m'.cmds = cl.map CmP.cm → m'.vals = q.map PtP.pt →
      (q.map PtP.kind).Nodup → ps = partsOf q (Lib.compact (((ss[n.toNat]!).l 3).mergeSort fun a b => decide (a ≤ b))) → k (vs, cs, es, m'.steps, 0) H') :
    CallT Pg f_machine_Run [.agg #[.slice p.1.a p.1.len p.1.cap, .slice p.2.a p.2.len p.2.cap], .int .i64 n, envA e] RunT H k := by
  refine c_machine_Run p n (e.fr, e.sd, e.en, e.inS, e.ix, e.gn, e.rp) ?_
  unfold v_machine_Run
  have hsl := hss.len
  have hlt : n.toNat < ss.length := by omega
  generalize hs : ss[n.toNat]! = s at *
  have hku : (Lib.compact ((s.l 3).mergeSort fun a b => decide (a ≤ b))).Nodup := (sortU_ok (s.l 3)).1.imp fun {a b} h => (show a ≠ b by omega)
  refine Nw_row (vs := [slV p.1, slV p.2]) fun b1 H1 hb1 hE1 hz1 hr1 => ?_
  refine Nw_row (vs := envL e) fun b2 H2 hb2 hE2 hz2 hr2 => ?_
  refine Nw_row (vs := [.slice none 0 0, .slice none 0 0, .slice none 0 0, .int .i64 0, .int .i64 0]) fun b3 H3 hb3 hE3 hz3 hr3 => ?_
  have hE03 : Ext H H3 := (hE1.trans hE2 fun _ _ h => h).trans hE3 fun _ _ h => h
  have hE13 : Ext H1 H3 := hE2.trans hE3 fun _ _ h => h
  have rp : ∀ {H'}, Ext H3 H' → Row H' b1 T_api_Program [slV p.1, slV p.2] := fun h => h.row (hE13.row hr1 fun h => h) fun h => h
  have re : ∀ {H'}, Ext H3 H' → Row H' b2 T_api_Env (envL e) := fun h => h.row (hE3.row hr2 fun h => h) fun h => h
  have ro : ∀ {H'}, Ext H3 H' → Row H' b3 T_api_Outcome [.slice none 0 0, .slice none 0 0, .slice none 0 0, .int .i64 0, .int .i64 0] := fun h => h.row hr3 fun h => h
  simp only [adr_add, mk_add, NilCk_some]
  refine Jn.mk (fun j H' => H3 = H' ∧ j = false) (fun kk hkk => ?_) ?_
  · exact Br_dec (fun h => by omega) fun h => Ld_sl (s := p.1) (((rp (.refl _ _)).cell 0).trans rfl) (hkk _ _ ⟨rfl, decide_eq_false (by omega)⟩)
  rintro j _ ⟨rfl, rfl⟩
  rw [Br_false]
  refine ⟨p, (rp (.refl _ _)).rd_all, Ld_sl (s := p.1) (((rp (.refl _ _)).cell 0).trans rfl) ?_⟩
  refine IxA_rn' sysV_len (hss.ext hE03) (by decide) (j := n.toNat) (by omega) hlt fun a1 ha1 => ?_
  rw [hs] at ha1
  refine ⟨(s.s 0, s.s 1, s.s 2, s.s 3, s.rou.name, s.rou.params, s.rou.locals, s.rou.sl), ha1, ⟨(e.fr, e.sd, e.en, e.inS, e.ix, e.gn, e.rp), (re (.refl _ _)).rd_all, ?_⟩⟩
  refine MkM_i fun mp H4 hmp hE4 hz4 hm4 => ?_
  have hmp' : H3.size ≤ mp := by omega
  have tac : ∀ {H'}, Ext H3 H' → (hcells H' a1 0 (sysV s) ∧ Row H' b1 T_api_Program [slV p.1, slV p.2] ∧ Row H' b2 T_api_Env (envL e)) := fun h => ⟨hcells_ext h ha1, rp h, re h⟩
  refine Stab_all (fun y hy => ?_) ?_
  · obtain ⟨g1, g2, g3⟩ := tac hE4
    simp only [hcells, sysV, Nat.zero_add] at g1
    simp only [List.mem_cons, List.not_mem_nil, or_false] at hy
    rcases hy with rfl | rfl | rfl | rfl | rfl | rfl | rfl | rfl | rfl | rfl | rfl | rfl | rfl | rfl | rfl | rfl | rfl | rfl
    all_goals first | exact (g3.cell 0).trans rfl | exact (g3.cell 1).trans rfl | exact (g3.cell 2).trans rfl | exact (g3.cell 3).trans rfl | exact (g3.cell 4).trans rfl | exact (g3.cell 5).trans rfl | exact (g3.cell 6).trans rfl | exact g1.1 | exact g1.2.1 | exact g1.2.2.1 | exact g1.2.2.2.1 | exact g1.2.2.2.2.1 | exact g1.2.2.2.2.2.1 | exact g1.2.2.2.2.2.2.1 | exact g1.2.2.2.2.2.2.2.1 | exact (g2.cell 0).trans rfl | exact (g2.cell 1).trans rfl
  refine Nw_row (vs := (runV (g0 p s n e mp 0)).set 26 (.pointer none)) fun b H5 hb hE5 hz5 hr5 => ?_
  have hE35 : Ext H3 H5 := hE4.trans hE5 fun _ _ h => h
  refine Stab_all (fun y hy => ?_) ?_
  · obtain ⟨g1, g2, g3⟩ := tac hE35
    simp only [hcells, sysV, Nat.zero_add] at g1
    simp only [List.mem_cons, List.not_mem_nil, or_false] at hy
    rcases hy with rfl | rfl | rfl | rfl | rfl | rfl | rfl | rfl | rfl | rfl | rfl | rfl | rfl | rfl | rfl | rfl | rfl | rfl
    all_goals first | exact (g3.cell 0).trans rfl | exact (g3.cell 1).trans rfl | exact (g3.cell 2).trans rfl | exact (g3.cell 3).trans rfl | exact (g3.cell 4).trans rfl | exact (g3.cell 5).trans rfl | exact (g3.cell 6).trans rfl | exact g1.1 | exact g1.2.1 | exact g1.2.2.1 | exact g1.2.2.2.1 | exact g1.2.2.2.2.1 | exact g1.2.2.2.2.2.1 | exact g1.2.2.2.2.2.2.1 | exact g1.2.2.2.2.2.2.2.1 | exact (g2.cell 0).trans rfl | exact (g2.cell 1).trans rfl
  have re5 := re hE35
  refine Ld_int (n := e.sd) ((re5.cell 1).trans rfl) (Ld_int (n := e.fr) ((re5.cell 0).trans rfl) (Ld_int (n := e.ix) ((re5.cell 4).trans rfl) ?_))
  refine s_dice_New _ _ _ _ fun H6 hE6 hd6 => ?_
  have hE36 := hE35.trans hE6 fun _ _ h => h
  have hr6 := hE6.row hr5 fun h => h
  generalize hdp : H5.size = dp at *
  refine St_row hr6 (by simp) fun H7 hU7 hz7 hr7 => ?_
  have hr7 : Row H7 b T_machine_run (runV (g0 p s n e mp dp)) := hr7
  have hE37 : Ext H3 H7 := extUpd hE36 (by omega) hU7
  have hd7 : Row H7 dp T_dice_Dice [.int .u64 (newS e.sd e.fr n e.ix)] := hU7.row (show Row H6 dp T_dice_Dice _ from hd6) (by omega)
  have hm7 : H7[mp]? = some (.map ⟨mapEnts 0 []⟩ ([] : List PtP).length) := hU7.keep (hE6.keep (hE5.keep hm4 fun h => h) fun h => h) (by omega)
  refine Ld_sl (s := e.rp) (((re hE37).cell 6).trans rfl) ?_
  have hpl' := hps.len
  refine LoopT.mk (fun i H' => ∃ m : Nat, ∃ es, i = m ∧ m ≤ ps0.length ∧ Ext H3 H' ∧ EsR H3.size H' mp es ∧ es.map PtP.pt = firsts ((ps0.take m).map PtP.pt) ∧ Row H' b T_machine_run (runV (g0 p s n e mp dp)) ∧ Row H' dp T_dice_Dice [.int .u64 (newS e.sd e.fr n e.ix)])
    (fun i _ => ps0.length - i.toNat) ⟨0, [], rfl, Nat.zero_le _, hE37, ⟨hm7, hmp', fun q hq => (by cases hq), fun q hq => (by cases hq), List.Pairwise.nil, List.Pairwise.nil⟩, rfl, hr7, hd7⟩ ?_
  rintro next _ H8 ⟨m, es, rfl, hm, hE8, he8, hf8, hr8, hd8⟩ hnext
  refine Br_dec (fun hlt => ?_) fun hge => ?_
  · have hm2 : m < ps0.length := by omega
    simp only [Jn]
    have hg : ps0[m]! = ps0[m] := getElem!_pos ps0 m hm2
    refine IxA_rn' ptV_len (hps.ext (hE03.trans hE8 fun _ _ h => h)) (by decide) rfl hm2 fun a3 ha3 => ?_
    rw [hg] at ha3
    refine ⟨(ps0[m].kind, ps0[m].sl), ha3, ?_⟩
    refine Nw_row (vs := [.int .i64 0, .slice none 0 0]) fun b5 H9 hb5 hE9 hz9 hr9 => ?_
    refine St_row hr9 (by simp) fun H10 hU10 _ hr10 => St_row hr10 (by simp) fun H11 hU11 _ hr11 => ?_
    have hE811 : Ext H8 H11 := extUpd hE9 (by omega) (hU10.trans hU11 fun _ _ e => e)
    have hE11 := hE8.trans hE811 fun _ _ h => h
    have he11 : EsR H3.size H11 mp es := ⟨hE811.keep he8.map fun h => h, he8.mlo, fun q hq => (he8.esR q hq).ext hE811, he8.eslo, he8.esA, he8.esK⟩
    have hrm := hpr _ (List.getElem_mem hm2)
    refine fill_step (g := g0 p s n e mp dp) (q := ps0[m]) (b5 := b5) rfl hE11 he11 (hE811.row hr8 fun h => h) (by omega) (hrm.1.ext hE03) hrm.2.1 hr11 (by have := hE8.size; omega) fun H12 es' hU12 he12 hf12 => ?_
    have hE12 : Ext H3 H12 := hE11.trans hU12 fun x hx e => by have e : x = mp := e; omega
    refine Lt.mk (u := ((m + 1 : Nat) : Int)) (by rw [wrap_i64_id (by omega) (by omega)]; omega) (hnext _ _ ⟨m + 1, es', rfl, hm2, hE12, he12, ?_, ?_, ?_⟩ (by omega))
    · rw [hf12, hf8, List.take_add_one, List.getElem?_eq_getElem hm2, Option.toList_some, List.map_append, List.map_cons, List.map_nil, firsts_snoc]
    · exact hU12.row (hE811.row hr8 fun h => h) (show ¬ b = mp by omega)
    · have := hE5.size; have := hE6.size
      exact hU12.row (hE811.row hd8 fun h => h) (show ¬ dp = mp by omega)
  have hm3 : m = ps0.length := by omega
  rw [hm3, List.take_length] at hf8
  refine ⟨(s.rou.name, s.rou.params, s.rou.locals, s.rou.sl), ?_, ?_⟩
  · rw [hcells_iff]
    intro o ho
    have ho : o < 4 := ho
    rw [mk_add, hr8.cell]
    match o, ho with
    | 0, _ => rfl
    | 1, _ => rfl
    | 2, _ => rfl
    | 3, _ => rfl
  refine s_activate (r := s.rou) (ps := ⟨none, 0, 0⟩) (l := []) rfl rfl rfl (by simp) fun H9 t hE9 ht9 hf9 htr htl hts htn => ?_
  refine Nw_row (vs := [.pointer (some (adr t.p))]) fun b7 H10 hb7 hE10 hz10 hr10 => ?_
  have hE810 := hE9.trans hE10 fun _ _ h => h
  have hrun10 := hE810.row hr8 fun h => h
  refine St_row hrun10 (by simp) fun H11 hU11 hz11 hr11 => ?_
  have hb8 := hr8.lt
  have hE11 : Ext H3 H11 := extUpd (hE8.trans hE810 fun _ _ h => h) (by omega) hU11
  have ne8 : ∀ {x : Nat}, H8.size ≤ x → ¬ x = b := fun h e => by omega
  have he11 : EsR H3.size H11 mp es := ⟨hU11.keep (hE810.keep he8.map fun h => h) (show ¬ mp = b by omega), he8.mlo, fun q hq => ((he8.esR q hq).ext hE810).upd hU11 fun x hx e => (he8.esR q hq).ne hx hr8 (by decide) e, he8.eslo, he8.esA, he8.esK⟩
  obtain ⟨c, hmac⟩ := mac_init (n := n) (p := p) (s := s) (e := e) (t := t) hE11 he11 hr11 (by omega) (hU11.row (hE810.row hd8 fun h => h) (show ¬ dp = b by omega)) (by have := hE5.size; have := hE35.size; omega) ((ActR.ext' hE10 ht9).upd hU11 fun x hx => ne8 (hf9 x hx)) (fun x hx => ⟨by have := hf9 x hx; have := hE8.size; omega, fun q hq e' => by have := (he8.esR q hq).lt e'; have := hf9 x hx; omega⟩) (hU11.row hr10 (ne8 (by have := hE9.size; omega))) (by have := hE8.size; have := hE9.size; omega) (by rw [htr]; exact hsc.ext hE03)
  generalize hx0 : (⟨c, b, { g0 p s n e mp dp with ls := ⟨some (adr b7), 1, 1⟩ }, [], t, es, newS e.sd e.fr n e.ix, [], [], []⟩ : MG) = x0 at hmac
  have hm0 : x0.ms = initM (mpS s n fs) (enS e ins) (firsts (ps0.map PtP.pt)) := by
    rw [← hx0]
    simp only [MG.ms, initM, AP.act, htr, htl, hts, htn, hf8, List.map_nil]
  have hst0 : stat x0.g = stat (g0 p s n e mp dp) := by rw [← hx0]
  have hb0 : x0.b = b := by rw [← hx0]
  have her0 : x0.g.er = 0 := by rw [← hx0]
  have hmo := init_ok (E := enS e ins) hP (ps := ps0.map PtP.pt) fun p hp => by
    obtain ⟨q, hq, rfl⟩ := List.mem_map.1 hp
    exact (hpr q hq).2.2
  rw [← hm0] at hmo hbad hok
  have hctx := hc.ext hE03
  refine LoopT.ghost (fun m _ H' => ∃ x, m = ((2001 - x.g.st) * 40001 + (40000 - x.g.si)).toNat ∧ MacR H3 H' x ∧ x.b = b ∧ stat x.g = stat (g0 p s n e mp dp) ∧ x.g.er = 0 ∧ MOk (mpS s n fs) x.ms ∧ (∀ N er m', Runs (mpS s n fs) (enS e ins) x.ms N er m' → ∃ N', Runs (mpS s n fs) (enS e ins) x0.ms N' er m')) _
    ⟨x0, rfl, hmac, hb0, hst0, her0, hmo, fun N er m' h => ⟨N, h⟩⟩ ?_
  rintro next2 m _ H12 ⟨x, rfl, hx, hxb, hxs, hxe, hxm, hxr⟩ hnext2
  have emp : mpOf x.g fs = mpS s n fs := stat_mp hxs fs
  have een : enOf x.g ins = enS e ins := stat_en hxs ins
  obtain ⟨q1, q2, q3, _⟩ := stat_ctx hxs
  have hcx : CtxR H3 x.g.pF x.g.s x.g.inS fs ins := by rw [q1, q2, q3]; exact hctx
  subst hxb
  refine Ld_bool (n := x.g.ov) ((hx.run.1.cell 28).trans rfl) (Br.mk (fun hov => ?_) fun hov => ?_)
  · have hov : x.g.ov = false := by simpa using hov
    simp only [Jn]
    refine run_turn hin hx hcx hxe (by rw [emp]; exact hP) (by rw [een]; exact hE) (by rw [emp]; exact hxm) hov (fun H13 x' er N m' hx' hb' hrn hne hst => ?_) fun H13 x' hx' hb' hs' he' hm' hr' hlt' => ?_
    · have hbn : (er != 0) = true := by simp [hne]
      rw [hbn, Br_true]
      rw [emp, een] at hrn
      obtain ⟨N', hN'⟩ := hxr N er m' hrn
      refine Ld_int (n := x'.g.st) (by have := hx'.run.1; rw [hb'] at this; exact (this.cell 24).trans rfl) ?_
      have hr13 := ro hx'.base
      refine St_row hr13 (by simp) fun G1 hU1 _ hg1 => St_row hg1 (by simp) fun G2 hU2 _ hg2 => St_row hg2 (by simp) fun G3 hU3 _ hg3 => St_row hg3 (by simp) fun G4 hU4 _ hg4 => St_row hg4 (by simp) fun G5 hU5 _ hg5 => ?_
      refine ⟨(⟨none, 0, 0⟩, ⟨none, 0, 0⟩, ⟨none, 0, 0⟩, x'.g.st, er), hg5.rd_all, ?_⟩
      rw [hst]
      have hUU := (((hU1.trans hU2 fun _ _ e => e).trans hU3 fun _ _ e => e).trans hU4 fun _ _ e => e).trans hU5 fun _ _ e => e
      exact hbad G5 N' er m' (extUpd (b := b3) (hE03.trans hx'.base fun _ _ h => h) (by have := hE1.size; have := hE2.size; omega) hUU) hN' hne
    · have hbn : ((0 : Int) != 0) = false := by decide
      rw [hbn, Br_false]
      exact hnext2 _ _ _ hlt' ⟨x', rfl, hx', hb', hs'.trans hxs, he', by rw [← emp]; exact hm', fun N er m' hrn => hxr _ _ _ (by rw [← emp, ← een]; exact hr' N er m' (by rw [emp, een]; exact hrn))⟩
  · have hov : x.g.ov = true := by simpa using hov
    obtain ⟨N, hN⟩ := hxr 0 0 x.ms (.over hov)
    have hlo := hx.base.size
    have hxe2 : x.es.length ≤ 2 ^ 42 := by
      have h4 : x.es.length = (firsts (ps0.map PtP.pt)).length := by
        have h5 : x.ms.vals.length = x0.ms.vals.length := runs_vals hN
        rw [hm0] at h5
        simpa [initM] using h5
      have h3 := firsts_len (ps0.map PtP.pt) []
      rw [List.length_map] at h3
      unfold firsts at h4
      simp only [List.length_nil] at h3
      omega
    refine s_written hx hcx (by rw [q2]; exact hwl) hxe2 fun r H13 hE13' hv13 hf13 => ?_
    rw [q2] at hv13
    have h13 := hx.ext hE13'
    refine St_row h13.run.1 (by simp) fun G0 hU0 _ hg0 => ?_
    have cells : hcells G0 ⟨x.b, 21, none⟩ 0 [slV r, slV x.g.cs, slV x.g.es, .int .i64 x.g.st, .int .i64 x.g.er] := by
      rw [hcells_iff]
      intro o ho
      have ho : o < 5 := ho
      rw [mk_add, hg0.cell]
      match o, ho with
      | 0, _ => rfl
      | 1, _ => rfl
      | 2, _ => rfl
      | 3, _ => rfl
      | 4, _ => rfl
    refine ⟨(r, x.g.cs, x.g.es, x.g.st, x.g.er), cells, ?_⟩
    have b3b : ¬ b3 = x.b := by omega
    have hr13 : Row G0 b3 T_api_Outcome _ := hU0.row (ro h13.base) b3b
    refine St_row hr13 (by simp) fun G1 hU1 _ hg1 => St_row hg1 (by simp) fun G2 hU2 _ hg2 => St_row hg2 (by simp) fun G3 hU3 _ hg3 => St_row hg3 (by simp) fun G4 hU4 _ hg4 => St_row hg4 (by simp) fun G5 hU5 _ hg5 => ?_
    refine ⟨(r, x.g.cs, x.g.es, x.g.st, x.g.er), hg5.rd_all, ?_⟩
    have hUU : Upd (· = b3) G0 G5 := (((hU1.trans hU2 fun _ _ e => e).trans hU3 fun _ _ e => e).trans hU4 fun _ _ e => e).trans hU5 fun _ _ e => e
    have hU : Upd (fun y => y = x.b ∨ y = b3) H13 G5 := (hU0.mono fun _ _ e => .inl e).trans hUU fun _ _ e => .inr e
    have hrb := h13.run.1
    have hrb3 := ro h13.base
    have vu : ∀ {sl : Sl} {vs : List Value}, Vec H13 T_int64 sl vs → Vec G5 T_int64 sl vs := fun hv => hv.upd hU fun c hc e => e.elim (hv.ne hc hrb (by decide)) (hv.ne hc hrb3 (by decide))
    have vn : ∀ {sl : Sl} {T : TypeId} {m : Nat} {vs : List Value}, T ≠ T_machine_run → T ≠ T_api_Outcome → VecN H13 T m sl vs → VecN G5 T m sl vs := fun hT hT2 hv => hv.upd hU fun c hc e => e.elim (hv.ne hc hrb hT) (hv.ne hc hrb3 hT2)
    rw [hxe]
    have hE5 : Ext H G5 := (hE03.trans h13.base fun _ _ h => h).trans hU fun y hy e => by
      have := hx.run.2.1; have := hE03.size; have := hE1.size; have := hE2.size
      rcases e with e | e <;> omega
    have hesr : ∀ {y : PtP}, y ∈ partsOf x.es (Lib.compact ((s.l 3).mergeSort fun a b => decide (a ≤ b))) → y ∈ x.es := parts_mem
    refine hok G5 N x.ms r x.g.cs x.g.es _ x.cl x.es hE5 hN ⟨vn (by decide) (by decide) hv13, fun q hq => vu (h13.esR q (hesr hq)).1, vn (by decide) (by decide) h13.cv.1, fun q hq => ⟨vu (h13.cR q hq).vs.1, vn (by decide) (by decide) (h13.cR q hq).ps.1, fun p hp => vu ((h13.cR q hq).pt p hp).1⟩, vn (by decide) (by decide) h13.ev.1, ?_, ?_, ?_⟩ rfl rfl hx.esK rfl
    · rw [List.pairwise_append]
      refine ⟨parts_apart hx.esA hku, ?_, fun a ha c hc => ?_⟩
      · exact (List.pairwise_append.1 hx.outA).1
      · obtain ⟨q, hq, rfl⟩ := List.mem_map.1 ha
        exact apart_col (hx.esR q (hesr hq)).2 (hx.outCol c (List.mem_append_left _ hc)) (by decide)
    · rw [List.pairwise_cons]
      refine ⟨fun a ha c hc hc' => ?_, hx.parA⟩
      obtain ⟨q, hq, rfl⟩ := List.mem_map.1 ha
      have h1 := hf13 c hc
      have h2 := (hx.cR q hq).ps.1.lt hc'
      omega
    · have l03 := hE03.size
      intro sl hsl' c hcc
      simp only [List.mem_cons, List.mem_append] at hsl'
      rcases hsl' with rfl | rfl | rfl | (h | h) | h
      · have := hf13 c hcc; omega
      · have := (hx.cv.2 c hcc).1; omega
      · have := (hx.ev.2 c hcc).1; omega
      · obtain ⟨q, hq, rfl⟩ := List.mem_map.1 h
        have := ((hx.esR q (hesr hq)).2 c hcc).1; omega
      · have := (hx.outCol sl (List.mem_append_left _ h) c hcc).1; omega
      · obtain ⟨q, hq, rfl⟩ := List.mem_map.1 h
        have := ((hx.cR q hq).ps.2 c hcc).1; omega
end
section
open Hc Hc.Vf Hc.Mc Hc.Dice
variable {H : Heap}
theorem s_Run_no {p : Sl × Sl} {ss : List Sy} {n : Int} {e : EnV} (hss : RN sysV 8 H p.1 ss) (hn : ¬ (0 ≤ n ∧ n < (ss.length : Int))) {k : Sl × Sl × Sl × Int × Int → Heap → Prop} (hk : ∀ H', Ext H H' → k (⟨none, 0, 0⟩, ⟨none, 0, 0⟩, ⟨none, 0, 0⟩, 0, 190) H') :
    CallT Pg f_machine_Run [.agg #[.slice p.1.a p.1.len p.1.cap, .slice p.2.a p.2.len p.2.cap], .int .i64 n, envA e] RunT H k := by
  refine c_machine_Run p n (e.fr, e.sd, e.en, e.inS, e.ix, e.gn, e.rp) ?_
  unfold v_machine_Run
  have hsl := hss.len
  refine Nw_row (vs := [slV p.1, slV p.2]) fun b1 H1 hb1 hE1 hz1 hr1 => ?_
  refine Nw_row (vs := envL e) fun b2 H2 hb2 hE2 hz2 hr2 => ?_
  refine Nw_row (vs := [.slice none 0 0, .slice none 0 0, .slice none 0 0, .int .i64 0, .int .i64 0]) fun b3 H3 hb3 hE3 hz3 hr3 => ?_
  have hE03 : Ext H H3 := (hE1.trans hE2 fun _ _ h => h).trans hE3 fun _ _ h => h
  have hE13 : Ext H1 H3 := hE2.trans hE3 fun _ _ h => h
  have rp := hE13.row hr1 fun h => h
  simp only [adr_add, mk_add, NilCk_some]
  refine Jn.mk (fun j H' => H3 = H' ∧ j = true) (fun kk hkk => ?_) ?_
  · exact Br_dec (fun h => hkk _ _ ⟨rfl, rfl⟩) fun h => Ld_sl (s := p.1) ((rp.cell 0).trans rfl) (hkk _ _ ⟨rfl, decide_eq_true (by omega)⟩)
  rintro j _ ⟨rfl, rfl⟩
  rw [Br_true]
  refine St_row hr3 (by simp) fun G1 hU1 _ hg1 => St_row hg1 (by simp) fun G2 hU2 _ hg2 => St_row hg2 (by simp) fun G3 hU3 _ hg3 => St_row hg3 (by simp) fun G4 hU4 _ hg4 => St_row hg4 (by simp) fun G5 hU5 _ hg5 => ?_
  refine ⟨(⟨none, 0, 0⟩, ⟨none, 0, 0⟩, ⟨none, 0, 0⟩, 0, 190), hg5.rd_all, hk G5 (extUpd (b := b3) hE03 (by have := hE1.size; have := hE2.size; omega) ((((hU1.trans hU2 fun _ _ e => e).trans hU3 fun _ _ e => e).trans hU4 fun _ _ e => e).trans hU5 fun _ _ e => e))⟩
end
section
open Go.RowKit Go.Shelf Hc Hc.Vf Hc.Mc Hc.Dice
theorem input_calls (b : Nat) (sv : Value) (p q : Int) (zs : List InX) (hreach : zs.length * 24 ≤ 140737488351232) (w : World) (hbw : b < w.heap.size) (hsl : ∃ a l c, sv = .slice a l c) (hc : w.cell? ⟨b, 14, none⟩ = some sv) (hI : InsAt w.heap.size w sv zs) :
    Calls Tryz.prog 119 #[.pointer (some ⟨b, 0, none⟩), .int .i64 p, .int .i64 q] w fun e W' => Below w.heap.size w W' ∧ e = .returned (.int .i64 (inp zs p q)) :=
  calls_of_every_depth (L := [119, 162, 191]) (n := 5) fun D => (input_in (Fence.list [119, 162, 191] (some D)) 5 (Nat.le_refl _) (by simp [Fence.list]) (by simp [Fence.list]) (by simp [Fence.list]) rfl b sv p q zs hreach w hbw hsl hc hI).mono fun e W' ⟨h1, h2⟩ => ⟨h1, by
    rcases h2 with ⟨rfl, h⟩ | ⟨pre, x, k, hk, e1, hno, hx, rfl⟩
    · rw [inp_done h]
    · rw [inp_stop hk e1 hno hx]⟩
theorem cb_input : Cb Pg f_machine_run_input := ⟨_, Tryz.func119, by kernel_rfl, by kernel_rfl⟩
theorem inputOk : InputOk := fun H0 H x fs ins p q k hm hc hk => by
  have hc := hc.ext hm.base
  refine lib_call cb_input (fun w hw => input_calls x.b (.slice x.g.inS.a x.g.inS.len x.g.inS.cap) p q ins hc.inL w (by rw [hw]; exact hm.run.1.lt) ⟨_, _, _, rfl⟩ ?_ ?_) fun w e w' hw ⟨h1, h2⟩ => ⟨⟨h1.tape, h1.os, h1.output⟩, _, h2, hk w'.heap ⟨by rw [← hw]; exact h1.size, fun b hb _ => by rw [← hw] at hb ⊢; exact h1.block b hb⟩⟩
  · have hr : w.heap[x.b]? = some (.cells ⟨runV x.g⟩ T_machine_run (0, 0)) := by rw [hw]; exact hm.run.1
    simp [World.cell?, hr]
  · have hl := hc.inp.len
    have hr := hc.inp.rd
    cases ha : x.g.inS.a with
    | none =>
      rw [ha] at hr
      have hz : ins.flatMap inV = [] := hr
      have hz2 : ins.length = 0 := by
        have := congrArg List.length hz
        rw [flat_len inV_len] at this
        simp at this; omega
      refine .inl ⟨?_, List.eq_nil_of_length_eq_zero hz2⟩
      rw [hc.inN ha, hl, hz2]
    | some a =>
      obtain ⟨hsp, hlt⟩ := hc.inB a ha
      obtain ⟨ab, ao, asp⟩ := a
      dsimp only at hsp hlt
      subst hsp
      rw [ha] at hr
      have hr : hcells H ⟨ab, ao, none⟩ 0 (ins.flatMap inV) := hr
      refine .inr ⟨ab, ao, x.g.inS.cap, by rw [hl], by rw [hw]; exact hlt, fun j hj => ?_⟩
      rw [hcells_iff] at hr
      have g : ∀ o, o < 3 → w.cell? ⟨ab, ao + j * 3 + o, none⟩ = (inV ins[j])[o]? := fun o ho => by
        have := hr (j * 3 + o) (by rw [flat_len inV_len]; omega)
        rw [mk_add, flat_get inV_len hj ho, Nat.zero_add, ← Nat.add_assoc] at this
        rw [cell?_eq, hw, this]
      have e : elX ins j = ins[j] := by unfold elX; rw [List.getElem?_eq_getElem hj]; rfl
      rw [e]
      exact ⟨g 0 (by omega), g 1 (by omega), g 2 (by omega)⟩
end
end Go.Proofs.YtfpmgpblhhcpgaaGreat
