/-
 The document's well-formed trees are those that have a text.
-/
import Derived.Test.YtfpmgpblhhcpgaaGreatDoorPqE
import Derived.Test.YtfpmgpblhhcpgaaGreatDoorHcSynB
import Derived.Test.YtfpmgpblhhcpgaaGreatDoorHcLists
import Derived.Test.YtfpmgpblhhcpgaaGreatDoorHcRN
import Derived.Test.YtfpmgpblhhcpgaaGreatDoorVPri
import Derived.Test.YtfpmgpblhhcpgaaGreatDoorProg
import Derived.Test.YtfpmgpblhhcpgaaGreatDoorPqB
import Derived.Test.YtfpmgpblhhcpgaaGreatDoorVRef
set_option linter.unusedVariables false
set_option linter.unusedSimpArgs false
namespace Go.Proofs.YtfpmgpblhhcpgaaGreatDoor
set_option maxRecDepth 100000
section
open Hc Hc.Lex Hc.Syn
variable {H : jaa}
def jiC (op : Int) (tx : Txt) (nm : Int) (l : List Nd) : Bool := if op = 3 then l.all (jeK 31) else jaN (shD op).2 tx && chD (shD op).1 l && !(op == 30 && decide (nm < 0))
mutual
def fmN (bl left : Int) : Nd → Option Int
 | .nil => none
 | .mk op tx nm l _ => if (if op = 5 then bl + 1 else bl) > 20 ∨ left - 1 < 0 then none else if jiC op tx nm l = true then fmL (if op = 5 then bl + 1 else bl) (left - 1) l else none
def fmL (bl left : Int) : List Nd → Option Int
 | [] => some left
 | n :: ns => match fmN bl left n with
   | none => none
   | some lf => fmL bl lf ns
end
theorem fm_le : ∀ {n : Nd} {bl left lf : Int}, fmN bl left n = some lf → 0 ≤ lf ∧ lf ≤ left
 | .nil, _, _, _, h => by simp [fmN] at h
 | .mk op tx nm l a, bl, left, lf, h => by
   unfold fmN at h
   by_cases h0 : (if op = 5 then bl + 1 else bl) > 20 ∨ left - 1 < 0
   ·rw [if_pos h0] at h; cases h
   rw [if_neg h0] at h
   by_cases h1 : jiC op tx nm l = true
   ·rw [if_pos h1] at h
    have hl : 0 ≤ left - 1 := Int.not_lt.1 fun g => h0 (.inr g)
    have := fmL_le hl h
    omega
   ·rw [if_neg h1] at h; cases h
where fmL_le : ∀ {ns : List Nd} {bl left lf : Int}, 0 ≤ left → fmL bl left ns = some lf → 0 ≤ lf ∧ lf ≤ left
 | [], _, left, lf, h0, h => by unfold fmL at h; cases h; omega
 | n :: ns, bl, left, lf, h0, h => by
   unfold fmL at h
   split at h
   ·cases h
   ·rename_i lf1 h1
    have a := fm_le h1
    have b := fmL_le a.1 h
    omega
def jj7 : List Int → List Nd → Bool
 | _, [] => true
 | sl, n :: ns => jaz n.op (sl.headD 8) && jj7 (if sl.length ≤ 1 then sl else sl.tail) ns
theorem jk2 {l : List Nd} : ∀ {sl : List Int} {bl left : Int}, (∀ n ∈ l, ∀ bl left, fmN bl left n = jd0 bl left n) → jj7 sl l = true → jcT bl left sl l = fmL bl left l := by
 induction l with
 | nil => intro sl bl left _ _; rfl
 | cons n l ih =>
   intro sl bl left he hs
   unfold jj7 at hs
   rw [Bool.and_eq_true] at hs
   unfold jcT fmL
   rw [he n (by simp)]
   cases jd0 bl left n with
   | none => rfl
   | some lf => dsimp only; rw [if_pos hs.1]; exact ih (fun m hm => he m (by simp [hm])) hs.2
theorem jk1 {l : List Nd} : ∀ {sl : List Int} {bl left : Int}, jj7 sl l = false → jcT bl left sl l = none := by
 induction l with
 | nil => intro sl bl left h; cases h
 | cons n l ih =>
   intro sl bl left hs
   unfold jj7 at hs
   unfold jcT
   cases jd0 bl left n with
   | none => rfl
   | some lf =>
     dsimp only
     by_cases h1 : jaz n.op (sl.headD 8) = true
     ·rw [if_pos h1]
      rw [h1, Bool.true_and] at hs
      exact ih hs
     ·rw [if_neg h1]
theorem jfi {n : Nd} {op : Int} (h : op ≠ 0) : Nd.is n op = (n.op == op) := by
 cases n with
 | nil => exact (beq_eq_false_iff_ne.2 (fun e => h e.symm)).symm
 | mk => rfl
theorem eb_op (n : Nd) : isEB n = (decide (30 ≤ n.op) && decide (n.op ≤ 38)) := by cases n <;> rfl
theorem sb_op (n : Nd) : isSB n = (decide (10 ≤ n.op) && decide (n.op ≤ 22)) := by cases n <;> rfl
theorem k69 (n : Nd) : jaL 69 n = jaz n.op 3 := eb_op n
theorem k66 (n : Nd) : jaL 66 n = jaz n.op 1 := jfi (by decide)
theorem k78 (n : Nd) : jaL 78 n = jaz n.op 6 := jfi (by decide)
theorem k112 (n : Nd) : jaL 112 n = jaz n.op 4 := jfi (by decide)
theorem k70 (n : Nd) : jaL 70 n = (jaz n.op 0 && n.tx == [102, 117, 110, 99]) := by
 show (Nd.is n 3 && _) = ((n.op == 3) && _)
 rw [jfi (by decide)]
theorem jiB {s : Int} {f : Nd → Bool} (hf : ∀ n, f n = jaz n.op s) : ∀ (l : List Nd), l.all f = jj7 [s] l
 | [] => rfl
 | n :: l => by
   rw [List.all_cons, hf, jiB hf l]; rfl
def jfV (sl : List Int) (more : Bool) (m : Nat) (op : Int) (l : List Nd) : Bool := decide (m ≤ l.length) && (decide (l.length ≤ sl.length) || more) && jj7 sl l && je3 op l
theorem jfT (l : List Nd) {op : Int} (hc : je3 op l = true) : chD [] l = jfV [] false 0 op l := by
 cases l with
 | nil => unfold jfV; rw [hc]; rfl
 | cons n l => unfold jfV; simp [chD]
theorem jg1 {c : UInt8} {s : Int} {f : Nd → Bool} (hf : ∀ n, f n = jaz n.op s) (he : ∀ l, chD [c] l = l.all f) (l : List Nd) {op : Int} (hc : je3 op l = true) : chD [c] l = jfV [s] true 0 op l := by
 rw [he, jiB hf]
 unfold jfV
 rw [hc]; simp
theorem jfG {c : UInt8} {s : Int} (hk : ∀ n, jaL c n = jaz n.op s) (he : ∀ s l, chD (c :: s) l = chK c s l) (l : List Nd) {op : Int} (hc : je3 op l = true) : chD [c] l = jfV [s] false 1 op l := by
 rw [he]
 match l, hc with
 | [], _ => rfl
 | [n], hc =>
   unfold jfV; rw [hc]
   show (jaL c n && chD [] []) = (true && (true || false) && (jaz n.op s && true) && true)
   rw [hk]; simp [chD]
 | n :: m :: l, hc =>
   unfold jfV
   show (jaL c n && chD [] (m :: l)) = _
   simp [chD]
theorem jgC {c d : UInt8} {s t : Int} (hk : ∀ n, jaL c n = jaz n.op s) (hk2 : ∀ n, jaL d n = jaz n.op t) (he : ∀ s l, chD (c :: s) l = chK c s l) (he2 : ∀ s l, chD (d :: s) l = chK d s l) (l : List Nd) {op : Int} (hc : je3 op l = true) : chD [c, d] l = jfV [s, t] false 2 op l := by
 rw [he]
 match l, hc with
 | [], _ => rfl
 | [n], _ =>
   show (jaL c n && chD [d] []) = false
   rw [he2]
   show (jaL c n && false) = false
   simp
 | [n, m], hc =>
   show (jaL c n && chD [d] [m]) = _
   rw [he2]
   unfold jfV; rw [hc]
   show (jaL c n && (jaL d m && chD [] [])) = (true && (true || false) && (jaz n.op s && (jaz m.op t && true)) && true)
   rw [hk, hk2]; simp [chD]
 | n :: m :: x :: l, hc =>
   show (jaL c n && chD [d] (m :: x :: l)) = _
   rw [he2]
   show (jaL c n && (jaL d m && chD [] (x :: l))) = _
   unfold jfV
   simp [chD]
theorem c69 (s : Txt) (l : List Nd) : chD (69 :: s) l = chK 69 s l := by rw [jbc]; rfl
theorem c66 (s : Txt) (l : List Nd) : chD (66 :: s) l = chK 66 s l := by rw [jbc]; rfl
theorem c78 (s : Txt) (l : List Nd) : chD (78 :: s) l = chK 78 s l := by rw [jbc]; rfl
theorem c112 (s : Txt) (l : List Nd) : chD (112 :: s) l = chK 112 s l := by rw [jbc]; rfl
theorem c70 (s : Txt) (l : List Nd) : chD (70 :: s) l = chK 70 s l := by rw [jbc]; rfl
theorem c73 (s : Txt) (l : List Nd) : chD (73 :: s) l = (l.isEmpty || (l.length == 1 && (Nd.is (l.headD .nil) 5 || Nd.is (l.headD .nil) 13))) := by rw [jbc]; rfl
theorem c67 (s : Txt) (l : List Nd) : chD (67 :: s) l = (jip l && chD s (l.drop 4)) := by rw [jbc]; rfl
theorem sh_form (op : Int) (h3 : op ≠ 3) (h1 : op ≠ 1) (l : List Nd) : (jcl op = none ∧ chD (shD op).1 l = false) ∨ ∃ sl more m, jcl op = some ((shD op).2, sl, more, m) ∧ (op ≠ 2 → op ≠ 4 → ∀ s ∈ sl, s ≠ 0) ∧ chD (shD op).1 l = jfV sl more m op l := by
 by_cases hm : op ∈ jlU
 rotate_left
 ·rw [jmm hm]
  simp only [jlU, List.mem_cons, List.not_mem_nil, or_false, not_or] at hm
  obtain ⟨g1, g2, g3, g4, g5, g6, g7, g8, g9, g10, g11, g12, g13, g14, g15, g16, g17, g18, g19, g20, g21, g22, g23, g24, g25, g26, g27⟩ := hm
  refine .inl ⟨?_, ?_⟩
  ·unfold jcl
   simp only [h1, h3, g1, g2, g3, g4, g5, g6, g7, g8, g9, g10, g11, g12, g13, g14, g15, g16, g17, g18, g19, g20, g21, g22, g23, g24, g25, g26, g27, if_false]
  ·show chD [63] l = false
   rw [jbc]
   cases l <;> rfl
 have cl : ∀ {op : Int}, op ≠ 2 → op ≠ 4 → je3 op l = true := fun a b => by unfold je3; rw [if_neg a, if_neg b]
 simp only [jlU, List.mem_cons, List.not_mem_nil, or_false] at hm
 right
 rcases hm with rfl | rfl | rfl | rfl | rfl | rfl | rfl | rfl | rfl | rfl | rfl | rfl | rfl | rfl | rfl | rfl | rfl | rfl | rfl | rfl | rfl | rfl | rfl | rfl | rfl | rfl | rfl
 ·-- system
  refine ⟨[0, 0, 0, 0, 1], false, 5, rfl, fun h => absurd rfl h, ?_⟩
  show chD [67, 66] l = _
  rw [c67, c66]
  match l with
  | [] => rfl
  | [_] => rfl
  | [_, _] => rfl
  | [_, _, _] => rfl
  | [a, b, c, d] =>
    show (jip [a, b, c, d] && false) = false
    simp
  | [a, b, c, d, e] =>
    show (((true && (clN (_, a) && (clN (_, b) && (clN (_, c) && (clN (_, d) && true)))))) && (jaL 66 e && true)) = (true && (true || false) && (jaz a.op 0 && (jaz b.op 0 && (jaz c.op 0 && (jaz d.op 0 && (jaz e.op 1 && true))))) && ([a.tx, b.tx, c.tx, d.tx] == clauseW))
    rw [k66]
    have hc : ∀ (w : Txt) (n : Nd), clN (w, n) = (jaz n.op 0 && n.tx == w) := fun w n => by
     show (Nd.is n 3 && _) = ((n.op == 3) && _)
     rw [jfi (by decide)]
    rw [hc, hc, hc, hc, Bool.eq_iff_iff]
    simp only [clauseW, Bool.and_eq_true, Bool.true_and, Bool.or_true, Bool.true_or, Bool.and_true, beq_iff_eq, List.cons.injEq, and_true]
    constructor
    ·rintro ⟨⟨⟨a1, a2⟩, ⟨b1, b2⟩, ⟨c1, c2⟩, d1, d2⟩, e1⟩
     exact ⟨⟨a1, b1, c1, d1, e1⟩, a2, b2, c2, d2⟩
    ·rintro ⟨⟨a1, b1, c1, d1, e1⟩, a2, b2, c2, d2⟩
     exact ⟨⟨⟨a1, a2⟩, ⟨b1, b2⟩, ⟨c1, c2⟩, d1, d2⟩, e1⟩
  | a :: b :: c :: d :: e :: f :: r =>
    show (jip (a :: b :: c :: d :: e :: f :: r) && (jaL 66 e && chD [] (f :: r))) = _
    unfold jfV
    simp [chD]
 ·-- function
  refine ⟨[0, 1], false, 2, rfl, fun _ h => absurd rfl h, ?_⟩
  show chD [70, 66] l = _
  rw [c70]
  match l with
  | [] => rfl
  | [n] =>
    show (jaL 70 n && chD [66] []) = false
    rw [c66]
    show (jaL 70 n && false) = false
    simp
  | [n, m] =>
    show (jaL 70 n && chD [66] [m]) = (true && (true || false) && (jaz n.op 0 && (jaz m.op 1 && true)) && ([n.tx] == [[102, 117, 110, 99]]))
    rw [c66]
    show (jaL 70 n && (jaL 66 m && true)) = _
    rw [k70, k66, Bool.eq_iff_iff]
    simp only [Bool.and_eq_true, Bool.true_and, Bool.or_true, Bool.true_or, Bool.and_true, beq_iff_eq, List.cons.injEq, and_true]
    constructor
    ·rintro ⟨⟨a, b⟩, c⟩; exact ⟨⟨a, c⟩, b⟩
    ·rintro ⟨⟨a, c⟩, b⟩; exact ⟨⟨a, b⟩, c⟩
  | n :: m :: x :: r =>
    show (jaL 70 n && chD [66] (m :: x :: r)) = _
    rw [c66]
    show (jaL 70 n && (jaL 66 m && chD [] (x :: r))) = _
    unfold jfV
    simp [chD]
 ·exact ⟨[2], true, 0, rfl, fun _ _ => by decide, jg1 (s := 2) (f := jeK (-1)) (fun n => (show jeK (-1) n = isSB n from rfl).trans (sb_op n)) (fun l => by rw [jbc]; rfl) l (cl (by decide) (by decide))⟩
 ·exact ⟨[3], false, 1, rfl, fun _ _ => by decide, jfG k69 c69 l (cl (by decide) (by decide))⟩
 ·exact ⟨[3], false, 1, rfl, fun _ _ => by decide, jfG k69 c69 l (cl (by decide) (by decide))⟩
 ·exact ⟨[6, 3], false, 2, rfl, fun _ _ => by decide, jgC k78 k69 c78 c69 l (cl (by decide) (by decide))⟩
 ·-- if
  refine ⟨[3, 1, 7], false, 2, rfl, fun _ _ => by decide, ?_⟩
  show chD [69, 66, 73] l = _
  have hcl := cl (op := 13) (by decide) (by decide)
  rw [c69]
  match l, hcl with
  | [], _ => rfl
  | [n], _ =>
    show (jaL 69 n && chD [66, 73] []) = false
    rw [c66]
    show (jaL 69 n && false) = false
    simp
  | [n, m], hcl =>
    show (jaL 69 n && chD [66, 73] [m]) = _
    rw [c66]
    unfold jfV; rw [hcl]
    show (jaL 69 n && (jaL 66 m && chD [73] [])) = (true && (true || false) && (jaz n.op 3 && (jaz m.op 1 && true)) && true)
    rw [c73, k69, k66]; simp
  | [n, m, x], hcl =>
    show (jaL 69 n && chD [66, 73] [m, x]) = _
    rw [c66]
    unfold jfV; rw [hcl]
    show (jaL 69 n && (jaL 66 m && chD [73] [x])) = (true && (true || false) && (jaz n.op 3 && (jaz m.op 1 && (jaz x.op 7 && true))) && true)
    rw [c73, k69, k66]
    show (_ && (_ && (false || (true && (Nd.is x 5 || Nd.is x 13))))) = (_ && _ && (_ && (_ && ((x.op == 5 || x.op == 13) && true))) && _)
    rw [jfi (by decide), jfi (by decide)]; simp
  | n :: m :: x :: y :: r, hcl =>
    show (jaL 69 n && chD [66, 73] (m :: x :: y :: r)) = _
    rw [c66]
    show (jaL 69 n && (jaL 66 m && chD [73] (x :: y :: r))) = _
    rw [c73]
    unfold jfV
    simp
 ·exact ⟨[3, 1], false, 2, rfl, fun _ _ => by decide, jgC k69 k66 c69 c66 l (cl (by decide) (by decide))⟩
 ·exact ⟨[3, 1], false, 2, rfl, fun _ _ => by decide, jgC k69 k66 c69 c66 l (cl (by decide) (by decide))⟩
 ·exact ⟨[3, 3], false, 2, rfl, fun _ _ => by decide, jgC k69 k69 c69 c69 l (cl (by decide) (by decide))⟩
 ·exact ⟨[4], true, 0, rfl, fun _ _ => by decide, jg1 (s := 4) (f := jeK 23) (fun n => (show jeK 23 n = Nd.is n 23 from rfl).trans (jfi (by decide))) (fun l => by rw [jbc]; rfl) l (cl (by decide) (by decide))⟩
 ·exact ⟨[4], false, 1, rfl, fun _ _ => by decide, jfG k112 c112 l (cl (by decide) (by decide))⟩
 ·exact ⟨[], false, 0, rfl, fun _ _ => by decide, jfT l (cl (by decide) (by decide))⟩
 ·exact ⟨[], false, 0, rfl, fun _ _ => by decide, jfT l (cl (by decide) (by decide))⟩
 ·exact ⟨[], false, 0, rfl, fun _ _ => by decide, jfT l (cl (by decide) (by decide))⟩
 ·exact ⟨[3], false, 1, rfl, fun _ _ => by decide, jfG k69 c69 l (cl (by decide) (by decide))⟩
 ·exact ⟨[5], true, 0, rfl, fun _ _ => by decide, jg1 (s := 5) (f := jeK 24) (fun n => (show jeK 24 n = Nd.is n 24 from rfl).trans (jfi (by decide))) (fun l => by rw [jbc]; rfl) l (cl (by decide) (by decide))⟩
 ·exact ⟨[3], false, 1, rfl, fun _ _ => by decide, jfG k69 c69 l (cl (by decide) (by decide))⟩
 ·exact ⟨[], false, 0, rfl, fun _ _ => by decide, jfT l (cl (by decide) (by decide))⟩
 ·exact ⟨[], false, 0, rfl, fun _ _ => by decide, jfT l (cl (by decide) (by decide))⟩
 ·exact ⟨[6], false, 1, rfl, fun _ _ => by decide, jfG k78 c78 l (cl (by decide) (by decide))⟩
 ·exact ⟨[3, 3], false, 2, rfl, fun _ _ => by decide, jgC k69 k69 c69 c69 l (cl (by decide) (by decide))⟩
 ·exact ⟨[3], false, 1, rfl, fun _ _ => by decide, jfG k69 c69 l (cl (by decide) (by decide))⟩
 ·-- a choice
  refine ⟨[3, 3, 3], false, 3, rfl, fun _ _ => by decide, ?_⟩
  have hcl := cl (op := 35) (by decide) (by decide)
  show chD [69, 69, 69] l = _
  rw [c69]
  match l, hcl with
  | [], _ => rfl
  | n :: l, hcl =>
    have key := jgC (c := 69) (d := 69) k69 k69 c69 c69 l (op := 14) (by unfold je3; rw [if_neg (by decide), if_neg (by decide)])
    show (jaL 69 n && chD [69, 69] l) = _
    rw [key, k69]
    unfold jfV
    rw [hcl]
    have e : jj7 [3, 3, 3] (n :: l) = (jaz n.op 3 && jj7 [3, 3] l) := rfl
    rw [e, Bool.eq_iff_iff]
    simp only [List.length_cons, List.length_nil, Bool.and_eq_true, Bool.or_eq_true, decide_eq_true_eq, Bool.and_true]
    have hc14 : je3 14 l = true := by unfold je3; rw [if_neg (by decide), if_neg (by decide)]
    rw [hc14]
    constructor
    ·rintro ⟨a, ⟨⟨b, c⟩, d⟩, _⟩
     exact ⟨⟨by omega, by rcases c with c | c; exact .inl (by omega); cases c⟩, a, d⟩
    ·rintro ⟨⟨b, c⟩, a, d⟩
     exact ⟨a, ⟨⟨by omega, by rcases c with c | c; exact .inl (by omega); cases c⟩, d⟩, rfl⟩
 ·exact ⟨[3], true, 0, rfl, fun _ _ => by decide, jg1 (s := 3) (f := jeK 0) (fun n => (show jeK 0 n = isEB n from rfl).trans (eb_op n)) (fun l => by rw [jbc]; rfl) l (cl (by decide) (by decide))⟩
 ·exact ⟨[], false, 0, rfl, fun _ _ => by decide, jfT l (cl (by decide) (by decide))⟩
 ·exact ⟨[], false, 0, rfl, fun _ _ => by decide, jfT l (cl (by decide) (by decide))⟩
theorem jlR : ∀ {l : List Nd} {sl : List Int}, (∀ s ∈ sl, s ≠ 0) → jj7 sl l = true → ∀ n ∈ l, n.op ≠ 3 ∧ n.op ≠ 1
 | [], _, _, _, n, hn => by cases hn
 | m :: l, sl, h0, hs, n, hn => by
   unfold jj7 at hs
   rw [Bool.and_eq_true] at hs
   have hd : sl.headD 8 ≠ 0 := by
    cases sl with
    | nil => decide
    | cons s sl => exact h0 s (by simp)
   rcases List.mem_cons.1 hn with rfl | hn
   ·have h1 := hs.1
    unfold jaz at h1
    rw [if_neg hd] at h1
    repeat' split at h1
    all_goals simp at h1
    all_goals omega
   ·refine jlR (fun s hs' => ?_) hs.2 n hn
    split at hs'
    ·exact h0 s hs'
    ·exact h0 s (List.mem_of_mem_tail hs')
theorem kid_ok {op : Int} {l : List Nd} {k : Nat} {sl : List Int} {more : Bool} {m : Nat} (hf : jcl op = some (k, sl, more, m)) (h0 : op ≠ 2 → op ≠ 4 → ∀ s ∈ sl, s ≠ 0) (ha : jfV sl more m op l = true) : ∀ n ∈ l, (n.op = 3 → jaN 2 n.tx = true) ∧ n.op ≠ 1 := by
 unfold jfV at ha
 simp only [Bool.and_eq_true, Bool.or_eq_true, decide_eq_true_eq] at ha
 obtain ⟨⟨⟨hm, hlen⟩, hs⟩, hc⟩ := ha
 by_cases e2 : op = 2
 ·subst e2
  have hf : some (1, [0, 0, 0, 0, 1], false, 5) = some (k, sl, more, m) := hf
  cases hf
  have hlen : l.length ≤ 5 := by rcases hlen with h | h; exact h; cases h
  match l, hm, hlen, hs, hc with
  | [a, b, c, d, e], _, _, hs, hc =>
    have hc : ([a.tx, b.tx, c.tx, d.tx] == clauseW) = true := hc
    rw [beq_iff_eq] at hc
    simp only [clauseW, List.cons.injEq, and_true] at hc
    have hs : (jaz a.op 0 && (jaz b.op 0 && (jaz c.op 0 && (jaz d.op 0 && (jaz e.op 1 && true))))) = true := hs
    simp only [Bool.and_eq_true, jaz, if_true, beq_iff_eq] at hs
    obtain ⟨s1, s2, s3, s4, s5, _⟩ := hs
    have s5 : e.op = 5 := by simpa using s5
    intro n hn
    simp only [List.mem_cons, List.not_mem_nil, or_false] at hn
    rcases hn with rfl | rfl | rfl | rfl | rfl
    ·exact ⟨fun _ => by rw [hc.1]; decide, by omega⟩
    ·exact ⟨fun _ => by rw [hc.2.1]; decide, by omega⟩
    ·exact ⟨fun _ => by rw [hc.2.2.1]; decide, by omega⟩
    ·exact ⟨fun _ => by rw [hc.2.2.2]; decide, by omega⟩
    ·exact ⟨fun h => by omega, by omega⟩
 by_cases e4 : op = 4
 ·subst e4
  have hf : some (1, [0, 1], false, 2) = some (k, sl, more, m) := hf
  cases hf
  have hlen : l.length ≤ 2 := by rcases hlen with h | h; exact h; cases h
  match l, hm, hlen, hs, hc with
  | [a, b], _, _, hs, hc =>
    have hc : ([a.tx] == [[102, 117, 110, 99]]) = true := hc
    rw [beq_iff_eq] at hc
    simp only [List.cons.injEq, and_true] at hc
    have hs : (jaz a.op 0 && (jaz b.op 1 && true)) = true := hs
    simp only [Bool.and_eq_true, jaz, if_true, beq_iff_eq] at hs
    obtain ⟨s1, s5, _⟩ := hs
    have s5 : b.op = 5 := by simpa using s5
    intro n hn
    simp only [List.mem_cons, List.not_mem_nil, or_false] at hn
    rcases hn with rfl | rfl
    ·exact ⟨fun _ => by rw [hc]; decide, by omega⟩
    ·exact ⟨fun h => by omega, by omega⟩
 intro n hn
 obtain ⟨h1, h2⟩ := jlR (h0 e2 e4) hs n hn
 exact ⟨fun h => absurd h h1, h2⟩
mutual
theorem jm5 : ∀ {n : Nd}, (n.op = 3 → jaN 2 n.tx = true) → n.op ≠ 1 → ∀ bl left, fmN bl left n = jd0 bl left n
 | .nil, _, _, _, _ => rfl
 | .mk op tx nm l a, h3, h1, bl, left => by
   have ihl := jlM (l := l)
   unfold fmN jd0
   by_cases e3 : op = 3
   ·subst e3
    have ht := h3 rfl
    have ht : jaN 2 tx = true := ht
    have hl : jiC 3 tx nm l = jj7 [6] l := by
     unfold jiC
     rw [if_pos rfl]
     exact jiB (fun n => jfi (by decide)) l
    have hf : jcl 3 = some (2, [6], true, 0) := rfl
    rw [hl, hf, if_neg (show ¬ (3 : Int) = 5 by decide)]
    dsimp only
    by_cases g2 : left - 1 < 0
    ·rw [if_pos (.inr g2), if_pos (.inl g2)]
    rw [if_neg (show ¬ (left - 1 < 0 ∨ (3 : Int) = 30 ∧ nm < 0) by rintro (g | ⟨g, _⟩); exact g2 g; exact absurd g (by decide))]
    by_cases g1 : bl > 20
    ·rw [if_pos (.inl g1), if_pos (.inl g1)]
    rw [if_neg (by rintro (g | g); exact g1 g; exact g2 g), if_neg (show ¬ (bl > 20 ∨ jaN 2 tx = false ∨ l.length < 0 ∨ [(6 : Int)].length < l.length ∧ true = false) by
     rintro (g | g | g | ⟨_, g⟩)
     ·exact g1 g
     ·rw [ht] at g; cases g
     ·omega
     ·cases g)]
    have hc : je3 3 l = true := rfl
    cases hs : jj7 [6] l with
    | false => rw [jk1 hs]; rfl
    | true =>
      have hk : ∀ n ∈ l, (n.op = 3 → jaN 2 n.tx = true) ∧ n.op ≠ 1 := fun n hn => by
       obtain ⟨a, b⟩ := jlR (sl := [6]) (by decide) hs n hn
       exact ⟨fun h => absurd h a, b⟩
      rw [jk2 (ihl hk) hs, if_pos rfl, hc]
      cases fmL bl (left - 1) l <;> rfl
   ·have hl : jiC op tx nm l = (jaN (shD op).2 tx && chD (shD op).1 l && !(op == 30 && decide (nm < 0))) := by unfold jiC; rw [if_neg e3]
    rw [hl]
    generalize hb5 : (if op = 5 then bl + 1 else bl) = b5
    rcases sh_form op e3 h1 l with ⟨hf, hch⟩ | ⟨sl, more, m, hf, h0, hch⟩
    ·rw [hch, hf]
     simp
    ·rw [hch, hf]
     dsimp only
     by_cases g2 : left - 1 < 0
     ·rw [if_pos (.inr g2), if_pos (.inl g2)]
     by_cases g3 : op = 30 ∧ nm < 0
     ·rw [if_pos (show left - 1 < 0 ∨ op = 30 ∧ nm < 0 from .inr g3)]
      have : (op == 30 && decide (nm < 0)) = true := by rw [Bool.and_eq_true]; exact ⟨beq_iff_eq.2 g3.1, decide_eq_true g3.2⟩
      rw [this]; simp
     rw [if_neg (show ¬ (left - 1 < 0 ∨ op = 30 ∧ nm < 0) by rintro (g | g); exact g2 g; exact g3 g)]
     have g3' : (op == 30 && decide (nm < 0)) = false := by
      rw [← Bool.not_eq_true, Bool.and_eq_true]
      rintro ⟨a, b⟩; exact g3 ⟨beq_iff_eq.1 a, of_decide_eq_true b⟩
     rw [g3', Bool.not_false, Bool.and_true]
     by_cases g1 : b5 > 20
     ·rw [if_pos (.inl g1), if_pos (.inl g1)]
     rw [if_neg (show ¬ (b5 > 20 ∨ left - 1 < 0) by rintro (g | g); exact g1 g; exact g2 g)]
     cases ht : jaN (shD op).2 tx with
     | false => rw [Bool.false_and, if_neg (by decide), if_pos (show b5 > 20 ∨ false = false ∨ l.length < m ∨ sl.length < l.length ∧ more = false from .inr (.inl rfl))]
     | true =>
     rw [Bool.true_and]
     cases hask : jfV sl more m op l with
     | true =>
       have hk := kid_ok hf h0 hask
       unfold jfV at hask
       simp only [Bool.and_eq_true, Bool.or_eq_true, decide_eq_true_eq] at hask
       obtain ⟨⟨⟨q1, q2⟩, hs⟩, hc⟩ := hask
       rw [if_pos rfl, if_neg (by
        rintro (g | g | g | ⟨g, g'⟩)
        ·exact g1 g
        ·cases g
        ·omega
        ·rcases q2 with q2 | q2
         ·omega
         ·rw [q2] at g'; cases g'), jk2 (ihl hk) hs, hc]
       cases fmL b5 (left - 1) l <;> rfl
     | false =>
       rw [if_neg (by decide)]
       by_cases q1 : l.length < m
       ·rw [if_pos (.inr (.inr (.inl q1)))]
       by_cases q2 : sl.length < l.length ∧ more = false
       ·rw [if_pos (.inr (.inr (.inr q2)))]
       split
       ·rfl
       ·cases hs : jj7 sl l with
        | false => rw [jk1 hs]
        | true =>
          have hc : je3 op l = false := by
           cases hc : je3 op l with
           | false => rfl
           | true =>
             unfold jfV at hask
             rw [hs, hc, decide_eq_true (by omega)] at hask
             simp at hask
             exact absurd ⟨by omega, hask.2⟩ q2
          rw [hc]
          cases jcT b5 (left - 1) sl l <;> rfl
theorem jlM : ∀ {l : List Nd}, (∀ n ∈ l, (n.op = 3 → jaN 2 n.tx = true) ∧ n.op ≠ 1) → ∀ n ∈ l, ∀ bl left, fmN bl left n = jd0 bl left n
 | [], _, n, hn, _, _ => by cases hn
 | m :: l, h, n, hn, bl, left => by
   have h1 := jm5 (h m (by simp)).1 (h m (by simp)).2 bl left
   have h2 := jlM (l := l) (fun x hx => h x (by simp [hx]))
   rcases List.mem_cons.1 hn with rfl | hn
   ·exact h1
   ·exact h2 n hn bl left
end
def pgL (left : Int) : List Nd → Option Int
 | [] => some left
 | n :: ns => if n.op = 2 ∨ n.op = 4 then (match fmN 0 left n with
   | none => none
   | some lf => pgL lf ns) else none
theorem jm4 : ∀ {l : List Nd} {left : Int}, pgL left l = jcT 0 left [8] l
 | [], _ => rfl
 | n :: l, left => by
   unfold pgL jcT
   have h8 : jaz n.op 8 = decide (n.op = 2 ∨ n.op = 4) := by
    show (n.op == 2 || n.op == 4) = _
    rw [Bool.eq_iff_iff]; simp
   show _ = (match jd0 0 left n with
    | none => none
    | some lf => if jaz n.op 8 = true then jcT 0 lf [8] l else none)
   rw [h8]
   by_cases h : n.op = 2 ∨ n.op = 4
   ·rw [if_pos h, jm5 (fun e => by omega) (by omega)]
    cases jd0 0 left n with
    | none => rfl
    | some lf => dsimp only; rw [if_pos (decide_eq_true h)]; exact jm4
   ·rw [if_neg h]
    cases jd0 0 left n with
    | none => rfl
    | some lf => dsimp only; rw [if_neg (by simpa using h)]
theorem jnc {nm a : Int} {tx : Txt} {l : List Nd} : jd0 0 100000 (.mk 1 tx nm l a) = if tx = [] then pgL 99999 l else none := by
 rw [jm4]
 unfold jd0
 have hf : jcl 1 = some (0, [8], true, 0) := rfl
 rw [hf, if_neg (show ¬ ((100000 : Int) - 1 < 0 ∨ (1 : Int) = 30 ∧ nm < 0) by rintro (g | ⟨g, _⟩) <;> exact absurd g (by decide)), if_neg (show ¬ (1 : Int) = 5 by decide)]
 dsimp only
 by_cases ht : tx = []
 ·subst ht
  rw [if_pos rfl, if_neg (by
   rintro (g | g | g | ⟨_, g⟩)
   ·exact absurd g (by decide)
   ·cases g
   ·omega
   ·cases g)]
  have hc : je3 1 l = true := rfl
  rw [hc]
  show _ = jcT 0 (100000 - 1) [8] l
  cases jcT 0 (100000 - 1) [8] l <;> rfl
 ·rw [if_neg ht, if_pos (.inr (.inl (by show (tx == []) = false; exact beq_eq_false_iff_ne.2 ht)))]
theorem jjx {nm a : Int} {tx : Txt} {l : List Nd} : jbX (.mk 1 tx nm l a) = if tx = [] ∧ (pgL 99999 l).isSome = true then l.flatMap jaT else [] := by
 unfold jbX
 rw [jnc]
 show (if ((if tx = [] then pgL 99999 l else none).isSome && true) = true then l.flatMap jaT else []) = _
 by_cases ht : tx = []
 ·rw [if_pos ht, Bool.and_true]
  by_cases hp : (pgL 99999 l).isSome = true
  ·rw [if_pos hp, if_pos ⟨ht, hp⟩]
  ·rw [if_neg hp, if_neg (fun g => hp g.2)]
 ·rw [if_neg ht]; exact (if_neg (fun g : tx = [] ∧ (pgL 99999 l).isSome = true => ht g.1)).symm
end
end Go.Proofs.YtfpmgpblhhcpgaaGreatDoor
namespace Go.Proofs.YtfpmgpblhhcpgaaGreatDoor.Hc
set_option maxRecDepth 100000
abbrev Col := Nat → Nat
def Tch (c : Col) (lo : Nat) (S : Nat → Prop) (H H' : jaa) : Prop := Upd (fun x => lo ≤ x ∧ S (c x)) H H'
def Is (c : Col) (lo j b : Nat) : Prop := lo ≤ b ∧ c b = j
def RowC (c : Col) (lo j : Nat) (H : jaa) (b : Nat) (T : TypeId) (vs : List Value) : Prop := Row H b T vs ∧ Is c lo j b
def IsS (c : Col) (lo j : Nat) (s : Sl) : Prop := ∀ b, s.a = some (adr b) → Is c lo j b
def VecC (c : Col) (lo j : Nat) (H : jaa) (T : TypeId) (s : Sl) (vs : List Value) : Prop := Vec H T s vs ∧ IsS c lo j s
def VecNC (c : Col) (lo j : Nat) (H : jaa) (T : TypeId) (n : Nat) (s : Sl) (vs : List Value) : Prop := VecN H T n s vs ∧ IsS c lo j s
theorem Tch.refl (c : Col) (lo : Nat) (S : Nat → Prop) (H : jaa) : Tch c lo S H H := Upd.refl _ _
theorem Tch.of {c : Col} {lo : Nat} {S : Nat → Prop} {H H' : jaa} {M : Nat → Prop} (h : Upd M H H') (hM : ∀ b, b < H.size → M b → lo ≤ b ∧ S (c b)) : Tch c lo S H H' := h.mono hM
theorem Tch.trans {c : Col} {lo : Nat} {S : Nat → Prop} {H H1 H2 : jaa} (h : Tch c lo S H H1) (h2 : Tch c lo S H1 H2) : Tch c lo S H H2 := Upd.trans h h2 fun _ _ h => h
theorem Tch.mono {c : Col} {lo : Nat} {S S' : Nat → Prop} {H H' : jaa} (h : Tch c lo S H H') (hS : ∀ j, S j → S' j) : Tch c lo S' H H' := Upd.mono h fun _ _ e => ⟨e.1, hS _ e.2⟩
theorem Tch.ext {c : Col} {S : Nat → Prop} {H0 H H' : jaa} (h0 : Ext H0 H) (h : Tch c H0.size S H H') : Ext H0 H' := h0.trans h fun b hb e => by have := e.1; omega
theorem RowC.tch {c : Col} {lo j : Nat} {S : Nat → Prop} {H H' : jaa} (h : Tch c lo S H H') (hj : ¬ S j) {b : Nat} {T : TypeId} {vs : List Value} (hr : RowC c lo j H b T vs) : RowC c lo j H' b T vs :=
 ⟨Upd.row h hr.1 fun e => hj (hr.2.2 ▸ e.2), hr.2⟩
theorem VecC.tch {c : Col} {lo j : Nat} {S : Nat → Prop} {H H' : jaa} (h : Tch c lo S H H') (hj : ¬ S j) {T : TypeId} {s : Sl} {vs : List Value} (hr : VecC c lo j H T s vs) : VecC c lo j H' T s vs :=
 ⟨hr.1.upd h fun b hb e => hj ((hr.2 b hb).2 ▸ e.2), hr.2⟩
theorem VecNC.tch {c : Col} {lo j : Nat} {S : Nat → Prop} {H H' : jaa} (h : Tch c lo S H H') (hj : ¬ S j) {T : TypeId} {n : Nat} {s : Sl} {vs : List Value} (hr : VecNC c lo j H T n s vs) : VecNC c lo j H' T n s vs :=
 ⟨hr.1.upd h fun b hb e => hj ((hr.2 b hb).2 ▸ e.2), hr.2⟩
def Agr (j : Nat) (n : Nat) (c c' : Col) : Prop := ∀ x, x < n → c x = j → c' x = j
def dye (n : Nat) (c d : Col) : Col := fun x => if x < n then c x else d x
theorem VecC.nil (c : Col) (lo j : Nat) (H : jaa) (T : TypeId) : VecC c lo j H T ⟨none, 0, 0⟩ [] := ⟨Vec.nil H T, fun b hb => by cases hb⟩
theorem VecNC.nil (c : Col) (lo j : Nat) (H : jaa) (T : TypeId) (n : Nat) : VecNC c lo j H T n ⟨none, 0, 0⟩ [] := ⟨VecN.nil H T n, fun b hb => by cases hb⟩
theorem RowC.mv {c c' : Col} {lo j : Nat} {S : Nat → Prop} {H H' : jaa} (h : Tch c lo S H H') (hj : ¬ S j) (ha : Agr j H.size c c') {b : Nat} {T : TypeId} {vs : List Value} (hr : RowC c lo j H b T vs) : RowC c' lo j H' b T vs :=
 ⟨(hr.tch h hj).1, hr.2.1, ha b hr.1.lt hr.2.2⟩
theorem VecC.mv {c c' : Col} {lo j : Nat} {S : Nat → Prop} {H H' : jaa} (h : Tch c lo S H H') (hj : ¬ S j) (ha : Agr j H.size c c') {T : TypeId} {s : Sl} {vs : List Value} (hr : VecC c lo j H T s vs) : VecC c' lo j H' T s vs :=
 ⟨(hr.tch h hj).1, fun b hb => ⟨(hr.2 b hb).1, ha b (hr.1.lt hb) (hr.2 b hb).2⟩⟩
theorem VecNC.mv {c c' : Col} {lo j : Nat} {S : Nat → Prop} {H H' : jaa} (h : Tch c lo S H H') (hj : ¬ S j) (ha : Agr j H.size c c') {T : TypeId} {n : Nat} {s : Sl} {vs : List Value} (hr : VecNC c lo j H T n s vs) : VecNC c' lo j H' T n s vs :=
 ⟨(hr.tch h hj).1, fun b hb => ⟨(hr.2 b hb).1, ha b (hr.1.lt hb) (hr.2 b hb).2⟩⟩
def StS (b : Nat) : Nat → List Value → jaa → (jaa → Prop) → Prop
 | _, [], H, K => K H
 | o, v :: vs, H, K => St ⟨b, o, none⟩ v H fun H' => StS b (o + 1) vs H' K
section
structure Tou (M : Nat → Prop) (S : TypeId → Prop) (H H' : jaa) : Prop where
 upd : Upd M H H'
 row : ∀ {b T cs}, Row H b T cs → ∃ cs', Row H' b T cs' ∧ cs'.length = cs.length ∧ (¬ S T → cs' = cs)
variable {M : Nat → Prop} {S : TypeId → Prop} {H H' : jaa}
theorem Tou.refl (M : Nat → Prop) (S : TypeId → Prop) (H : jaa) : Tou M S H H := ⟨.refl _ _, fun h => ⟨_, h, rfl, fun _ => rfl⟩⟩
theorem Tou.trans {M2 : Nat → Prop} {S2 : TypeId → Prop} {H2 : jaa} (h : Tou M S H H') (h2 : Tou M2 S2 H' H2) (hM : ∀ b, b < H.size → M2 b → M b) (hS : ∀ T, S2 T → S T) : Tou M S H H2 :=
 ⟨h.upd.trans h2.upd hM, fun hr => by
   obtain ⟨c, g1, g2, g3⟩ := h.row hr
   obtain ⟨d, k1, k2, k3⟩ := h2.row g1
   exact ⟨d, k1, k2.trans g2, fun hn => (k3 fun hs => hn (hS _ hs)).trans (g3 hn)⟩⟩
theorem Tou.mono {M2 : Nat → Prop} {S2 : TypeId → Prop} (h : Tou M S H H') (hM : ∀ b, b < H.size → M b → M2 b) (hS : ∀ T, S T → S2 T) : Tou M2 S2 H H' :=
 ⟨h.upd.mono hM, fun hr => by
   obtain ⟨c, g1, g2, g3⟩ := h.row hr
   exact ⟨c, g1, g2, fun hn => g3 fun hs => hn (hS _ hs)⟩⟩
theorem Tou.of_ext (M : Nat → Prop) (S : TypeId → Prop) (h : Ext H H') : Tou M S H H' := ⟨h.mono fun _ _ h => h.elim, fun hr => ⟨_, h.row hr fun h => h, rfl, fun _ => rfl⟩⟩
theorem Row.uniq {b : Nat} {T T' : TypeId} {cs ds : List Value} (h : Row H b T cs) (h' : Row H b T' ds) : T = T' ∧ cs = ds := by
 unfold Row at h h'
 rw [h] at h'
 cases h'
 exact ⟨rfl, rfl⟩
theorem Tou.of_st {b : Nat} {T : TypeId} {cs cs' : List Value} (h : Row H b T cs) (hU : Upd (· = b) H H') (h' : Row H' b T cs') (hl : cs'.length = cs.length) : Tou (· = b) (· = T) H H' :=
 ⟨hU, fun {c T2 ds} hr => by
   by_cases e : c = b
   ·subst e
    obtain ⟨rfl, rfl⟩ := h.uniq hr
    exact ⟨cs', h', hl, fun hn => absurd rfl hn⟩
   ·exact ⟨ds, hU.row hr e, rfl, fun _ => rfl⟩⟩
theorem Tou.keep {b : Nat} {T : TypeId} {cs : List Value} (h : Tou M S H H') (hr : Row H b T cs) (hn : ¬ S T) : Row H' b T cs := by
 obtain ⟨c, g1, _, g3⟩ := h.row hr
 rw [g3 hn] at g1
 exact g1
theorem VecN.tou {T : TypeId} {n : Nat} {s : Sl} {vs : List Value} (hv : VecN H T n s vs) (h : Tou M S H H') (hn : ¬ S T) : VecN H' T n s vs := by
 refine ⟨hv.len, ?_, hv.lc⟩
 rcases hv.own with h1 | ⟨b, sp, h1, h2, h3⟩
 ·exact .inl h1
 ·exact .inr ⟨b, sp, h1, h.keep h2 hn, h3⟩
def Room (H : jaa) (T : TypeId) (n : Nat) (s : Sl) : Prop := ∃ vs, VecN H T n s vs
theorem Room.tou {T : TypeId} {n : Nat} {s : Sl} (hv : Room H T n s) (h : Tou M S H H') : Room H' T n s := by
 obtain ⟨vs, hl, ho, hc⟩ := hv
 rcases ho with ⟨h1, h2, h3⟩ | ⟨b, sp, h1, h2, h3⟩
 ·exact ⟨vs, hl, .inl ⟨h1, h2, h3⟩, hc⟩
 ·obtain ⟨c, g1, g2, _⟩ := h.row h2
  have hle : s.len * n ≤ c.length := by rw [g2, List.length_append, hl]; exact Nat.le_add_right _ _
  refine ⟨c.take (s.len * n), by rw [List.length_take, Nat.min_eq_left hle], .inr ⟨b, c.drop (s.len * n), h1, by rw [List.take_append_drop]; exact g1, ?_⟩, hc⟩
  rw [List.length_take, Nat.min_eq_left hle, List.length_drop, g2, List.length_append]
  omega
def StA (a : Addr) : Nat → List Value → jaa → (jaa → Prop) → Prop
 | _, [], H, K => K H
 | o, v :: vs, H, K => St (a.add o) v H fun H' => StA a (o + 1) vs H' K
end
end Go.Proofs.YtfpmgpblhhcpgaaGreatDoor.Hc
namespace Go.Proofs.YtfpmgpblhhcpgaaGreatDoor
set_option maxRecDepth 100000
section
open Hc Hc.Lex Hc.Syn
variable {H : jaa}
abbrev jh9 : TypeId := TQas
mutual
theorem jl2 {M : Nat → Prop} {S : TypeId → Prop} {H' : jaa} (ht : Tou M S H H') (h1 : ¬ S TD) (h2 : ¬ S TQ) : ∀ {n : Nd} {q : Option Nat} {fp : List Nat}, TrR TD TQ H n q fp → TrR TD TQ H' n q fp
 | .nil, _, _, h => h
 | .mk .., _, _, ⟨b, L, qs, fl, g1, hr, hv, hl, g2⟩ => ⟨b, L, qs, fl, g1, ht.keep hr h1, ⟨hv.len, hv.own.imp id fun ⟨b, sp, k1, k2, k3⟩ => ⟨b, sp, k1, ht.keep k2 h2, k3⟩, hv.lc⟩, jlQ ht h1 h2 hl, g2⟩
theorem jlQ {M : Nat → Prop} {S : TypeId → Prop} {H' : jaa} (ht : Tou M S H H') (h1 : ¬ S TD) (h2 : ¬ S TQ) : ∀ {ns : List Nd} {qs : List (Option Nat)} {fp : List Nat}, TrL TD TQ H ns qs fp → TrL TD TQ H' ns qs fp
 | [], _, _, h => h
 | _ :: _, _, _, ⟨q, qs', f1, f2, g1, g2, g3, g4⟩ => ⟨q, qs', f1, f2, g1, g2, jl2 ht h1 h2 g3, jlQ ht h1 h2 g4⟩
end
abbrev jky (c : Nat) (H H' : jaa) : Prop := Tou (· = c) (· = jh9) H H'
theorem LD.tou {n : Nd} {q : Option Nat} {c : Nat} {H' : jaa} (h : LD H n q) (ht : jky c H H') : LD H' n q := by
 obtain ⟨fp, h⟩ := h
 exact ⟨fp, jl2 ht (by decide) (by decide) h⟩
theorem touX {c : Nat} {H1 H2 : jaa} (h : jky c H H1) (hE : Ext H1 H2) : jky c H H2 := h.trans (.of_ext (· = c) (· = jh9) hE) (fun _ _ e => e) fun _ e => e
theorem touT {c : Nat} {H1 H2 : jaa} (h : jky c H H1) (h2 : jky c H1 H2) : jky c H H2 := h.trans h2 (fun _ _ e => e) fun _ e => e
theorem ch_nn : ∀ {s : Txt} {l : List Nd}, chD s l = true → ∀ n ∈ l, n ≠ .nil
 | [], l, h, n, hn => by
   cases l with
   | nil => cases hn
   | cons m l => simp [chD] at h
 | c :: s, l, h, n, hn => by
   rw [jbc] at h
   have isn : ∀ {n : Nd} {op : Int}, Nd.is n op = true → n ≠ .nil := fun h e => by subst e; cases h
   have alln : ∀ {op : Int}, l.all (jeK op) = true → n ≠ .nil := fun {op} h e => by
    have := List.all_eq_true.1 h n hn
    subst e
    unfold jeK at this
    split at this
    ·cases this
    ·split at this <;> cases this
   split at h
   ·exact alln h
   split at h
   ·exact alln h
   split at h
   ·exact alln h
   split at h
   ·exact alln h
   split at h
   ·match l, h, hn with
    | [m], h, hn =>
      rw [List.mem_singleton.1 hn]
      have h : (false || (true && (Nd.is m 5 || Nd.is m 13))) = true := h
      simp at h
      rcases h with h | h <;> exact isn h
    | m :: x :: l, h, hn => simp at h
   split at h
   ·rw [Bool.and_eq_true] at h
    obtain ⟨hc, hd⟩ := h
    rw [← List.take_append_drop 4 l] at hn
    rcases List.mem_append.1 hn with hn | hn
    ·unfold jip at hc
     rw [Bool.and_eq_true, decide_eq_true_eq] at hc
     obtain ⟨h4, hz⟩ := hc
     match l, h4, hz, hn with
     | a :: b :: c :: d :: r, _, hz, hn =>
       have hz : (clN (_, a) && (clN (_, b) && (clN (_, c) && (clN (_, d) && true)))) = true := hz
       simp only [Bool.and_eq_true, clN] at hz
       have hn : n ∈ [a, b, c, d] := hn
       simp only [List.mem_cons, List.not_mem_nil, or_false] at hn
       rcases hn with rfl | rfl | rfl | rfl
       ·exact isn hz.1.1
       ·exact isn hz.2.1.1
       ·exact isn hz.2.2.1.1
       ·exact isn hz.2.2.2.1.1
    ·exact ch_nn hd n hn
   ·cases l with
    | nil => cases hn
    | cons m l =>
      have h : (jaL c m && chD s l) = true := h
      rw [Bool.and_eq_true] at h
      rcases List.mem_cons.1 hn with rfl | hn
      ·intro e
       subst e
       have hk := h.1
       unfold jaL at hk
       repeat' split at hk
       all_goals cases hk
      ·exact ch_nn h.2 n hn
theorem loc_nn {op nm : Int} {tx : Txt} {l : List Nd} (h : jiC op tx nm l = true) : ∀ n ∈ l, n ≠ .nil := by
 unfold jiC at h
 split at h
 ·intro n hn e
  have := List.all_eq_true.1 h n hn
  subst e; cases this
 ·simp only [Bool.and_eq_true] at h
  exact ch_nn h.1.2
theorem jmt {bl left : Int} {n : Nd} {ns : List Nd} : fmL bl left (n :: ns) = (match fmN bl left n with
 | none => none
 | some lf => fmL bl lf ns) := by
 rw [fmL] <;> cases fmN bl left n <;> rfl
theorem sh_len (op : Int) : (shD op).1.length ≤ 3 := by
 refine jjZ (P := fun op => (shD op).1.length ≤ 3) op (by decide) fun h => ?_
 rw [jmm h]; decide
theorem jm1 : ∀ (m : Nat) {n : Nd} {q : Option Nat} {deep left : Int} {c : Nat} {H : jaa}, cnt n ≤ m → jjH n → n ≠ .nil → LD H n q → 0 ≤ deep → deep ≤ 20 → 0 ≤ left → left ≤ 100000 → Row H c jh9 [.int .i64 (100000 - left)] →
 ∀ {k : Bool → jaa → Prop}, (∀ H', jky c H H' → fmN deep left n = none → k false H') → (∀ H' lf, jky c H H' → fmN deep left n = some lf → Row H' c jh9 [.int .i64 (100000 - lf)] → k true H') →
 CallT Pg fQd6 [pN q, .int .i64 deep, .pointer (some (adr c))] (.one (.c .bool)) H k := by
 intro m
 induction m with
 | zero =>
   intro n q deep left c H hm _ hn
   cases n with
   | nil => exact absurd rfl hn
   | mk op tx nm l a => simp [cnt] at hm
 | succ m ih =>
   intro n q deep left c H hm htx hn hq hd0 hd20 hl0 hl1 hr k hk0 hk1
   refine cQc4 _ _ _ ?_
   unfold vQc4
   cases n with
   | nil => exact absurd rfl hn
   | mk op tx nm l a =>
   obtain ⟨cc, L, rfl, na0⟩ := hq.nd
   have hcn : cnt (.mk op tx nm l a) = 1 + jaK l := by simp [cnt]
   have hfm : fmN deep left (.mk op tx nm l a) = if (if op = 5 then deep + 1 else deep) > 20 ∨ left - 1 < 0 then none else if jiC op tx nm l = true then fmL (if op = 5 then deep + 1 else deep) (left - 1) l else none := by unfold fmN; rfl
   simp only [Option.map_some, NilCk_some, adr_add]
   refine jaf ((hr.cell 0).trans rfl) (Lt.mk (u := 100000 - (left - 1)) (by rw [jac] <;> omega) (jay hr (by simp) fun H1 hU1 _ hr1 => ?_))
   have t1 : jky c H H1 := .of_st hr hU1 hr1 (by simp)
   have hq1 := hq.tou t1
   obtain ⟨cc', L1, e1, na⟩ := hq1.nd
   cases e1
   clear na0
   refine jaf na.c0 ?_
   refine Jn.mk (fun j H' => H1 = H' ∧ j = if op = 5 then deep + 1 else deep) (fun kk hkk => ?_) ?_
   ·by_cases e5 : op = 5
    ·exact jah e5 (Lt.mk (u := deep + 1) (by rw [jac] <;> omega) (hkk _ _ ⟨rfl, (if_pos e5).symm⟩))
    ·exact jai e5 (hkk _ _ ⟨rfl, (if_neg e5).symm⟩)
   rintro j _ ⟨rfl, hj⟩
   rw [← hj] at hfm
   have hj1 : deep ≤ j ∧ j ≤ deep + 1 := by rw [hj]; split <;> omega
   simp only [Jn]
   refine jaj (fun hg => ?_) fun hg => ?_
   ·exact (Br_true _ _).2 (hk0 H1 t1 (by rw [hfm, if_pos (.inl hg)]))
   refine jaf ((hr1.cell 0).trans rfl) (jaj (fun hx => ?_) fun hx => ?_)
   ·exact hk0 H1 t1 (by rw [hfm, if_pos (.inr (by omega))])
   rw [if_neg (by rintro (g | g); exact hg g; omega)] at hfm
   -- the children, one by one
   have kids : ∀ {H2 : jaa}, jky c H H2 → Row H2 c jh9 [.int .i64 (100000 - (left - 1))] → NDx H2 op tx nm l cc L1 → jiC op tx nm l = true →
    LoopT (σ := Int) (fun next1 s1 H10 => Ld .sl ⟨cc, 3, none⟩ H10 fun (x11 : Sl) => Br (decide (s1 < (x11.len : Int))) (Ld .sl ⟨cc, 3, none⟩ H10 fun (x12 : Sl) => IxA 1 x12 s1 fun a14 => Ld .ptr a14 H10 fun (x13 : Option Addr) =>
     CallT Pg fQd6 [.pointer x13, .int .i64 j, .pointer (some (adr c))] (.one (.c .bool)) H10 fun (r5 : Bool) H11 => Br (!r5) (k false H11) (Lt (IntKind.wrap .i64 (s1 + 1)) fun t3 => next1 t3 H11)) (k true H10)) 0 H2 := by
    intro H2 t2 hr2 na2 hloc
    rw [if_pos hloc] at hfm
    have hnn := loc_nn hloc
    have hll : l.length ≤ 2 ^ 40 := htx.2.1
    have hq2 := hq.tou t2
    refine LoopT.ghost (fun m' (s1 : Int) H' => ∃ (i : Nat) (lf : Int), s1 = i ∧ m' = l.length - i ∧ i ≤ l.length ∧ jky c H H' ∧ 0 ≤ lf ∧ lf ≤ 100000 ∧ Row H' c jh9 [.int .i64 (100000 - lf)] ∧ fmL j (left - 1) l = fmL j lf (l.drop i)) l.length ⟨0, left - 1, rfl, rfl, Nat.zero_le _, t2, by omega, by omega, hr2, rfl⟩ ?_
    rintro next _ _ H3 ⟨i, lf, rfl, rfl, hi, t3, g1, g2, hr3, he⟩ hnext
    obtain ⟨c3, L3, e3, na3⟩ := (hq.tou t3).nd
    cases e3
    refine jam na3.c3 ?_
    rw [na3.len]
    refine jaj (fun hlt => ?_) fun hge => ?_
    ·have hil : i < l.length := by omega
     have hg : l[i]? = some l[i] := List.getElem?_eq_getElem hil
     have hm1 := List.getElem_mem hil
     have hdr : l.drop i = l[i] :: l.drop (i + 1) := List.drop_eq_getElem_cons hil
     rw [hdr] at he
     generalize l[i] = x at *
     obtain ⟨ad, qx, ix, hc, hlx⟩ := na3.kid i x hg
     have hcx := jaH hm1
     rw [jmt] at he
     refine jam na3.c3 (ix rfl (jan hc (ih (by omega) (jdu htx.2.2 _ hm1) (hnn x hm1) hlx (by omega) (by omega) g1 g2 hr3 (fun H4 t4 h4 => ?_) fun H4 lf4 t4 h4 hr4 => ?_)))
     ·rw [h4] at he
      exact (Br_true _ _).2 (hk0 H4 (touT t3 t4) (by rw [hfm, he]))
     ·rw [h4] at he
      have := fm_le h4
      exact (Br_false _ _).2 (Lt.mk (u := ((i + 1 : Nat) : Int)) (by rw [jac] <;> omega) (hnext (l.length - (i + 1)) _ _ (by omega) ⟨i + 1, lf4, rfl, rfl, by omega, touT t3 t4, this.1, by omega, hr4, he⟩))
    ·have hil : i = l.length := by omega
     subst hil
     rw [List.drop_length] at he
     exact hk1 H3 lf t3 (by rw [hfm, he]; rfl) hr3
   refine jaf na.c0 ?_
   by_cases e3 : op = 3
   ·have hl3 : jiC op tx nm l = l.all (jeK 31) := by unfold jiC; rw [if_pos e3]
    refine jah e3 (jam na.c3 (jhP na.lst htx.2.1 ?_))
    cases hall : l.all (jeK 31) with
    | false => exact (Br_true _ _).2 (hk0 H1 t1 (by rw [hfm, hl3, hall]; rfl))
    | true => exact (Br_false _ _).2 (kids t1 hr1 na (by rw [hl3, hall]))
   ·have hl3 : jiC op tx nm l = (jaN (shD op).2 tx && chD (shD op).1 l && !(op == 30 && decide (nm < 0))) := by unfold jiC; rw [if_neg e3]
    refine jai e3 (jaf na.c0 (s_shape op (jap na.c1 (s_rtext (sh_kd op) tx fun H7 e7 => jam (cu e7 na.c3) (jkc (sh_len op) (na.pl.ext e7) htx.2.1 fun H8 e8 => ?_)))))
    have e18 := eE e7 e8
    have t8 := touX t1 e18
    have hr8 := e18.row hr1 fun h => h
    obtain ⟨c8, L8, e8', na8⟩ := (hq.tou t8).nd
    cases e8'
    have hL8 : L8 = L1 := by
     have h1 := na8.c3
     rw [cu e18 na.c3] at h1
     cases L8; cases L1
     simp only [Option.some.injEq, Value.slice.injEq] at h1
     obtain ⟨h1, h2, h3⟩ := h1
     subst h1 h2 h3; rfl
    subst hL8
    cases ht : jaN (shD op).2 tx with
    | false => exact (Br_true _ _).2 ((Br_true _ _).2 (hk0 H8 t8 (by rw [hfm, hl3, ht]; rfl)))
    | true =>
    refine (Br_false _ _).2 ?_
    cases hch : chD (shD op).1 l with
    | false => exact (Br_true _ _).2 ((Br_true _ _).2 (hk0 H8 t8 (by rw [hfm, hl3, ht, hch]; rfl)))
    | true =>
    refine (Br_false _ _).2 (jaf na8.c0 ?_)
    rw [ht, hch, Bool.true_and, Bool.true_and] at hl3
    by_cases e30 : op = 30
    ·refine jah e30 (jaf na8.c2 ?_)
     have : jiC op tx nm l = !decide (nm < 0) := by rw [hl3, show (op == 30) = true from beq_iff_eq.2 e30, Bool.true_and]
     refine jaj (fun hneg => hk0 H8 t8 (by rw [hfm, this, decide_eq_true hneg]; rfl)) fun hneg => ?_
     exact kids t8 hr8 na8 (by rw [this, decide_eq_false hneg]; rfl)
    ·refine jai e30 ((Br_false _ _).2 (kids t8 hr8 na8 ?_))
     rw [hl3, show (op == 30) = false from beq_eq_false_iff_ne.2 e30]; rfl
end
section
open Hc Hc.Lex Hc.Syn
variable {H : jaa}
theorem jeA {f : Nd → Txt} {l : List Nd} {i : Nat} {n : Nd} (h : l[i]? = some n) : (l.drop i).flatMap f = f n ++ (l.drop (i + 1)).flatMap f := by
 have hlt := (List.getElem?_eq_some_iff.1 h).1
 rw [List.drop_eq_getElem_cons hlt, show l[i] = n from (List.getElem?_eq_some_iff.1 h).2, List.flatMap_cons]
theorem jmH {left : Int} {n : Nd} {ns : List Nd} : pgL left (n :: ns) = if n.op = 2 ∨ n.op = 4 then (match fmN 0 left n with
 | none => none
 | some lf => pgL lf ns) else none := by
 rw [pgL] <;> split <;> first
  | rfl
  | (cases fmN 0 left n <;> rfl)
theorem jmK {l : List Nd} {nm : Int} {tx : Txt} {cc : Nat} {L : Sl} (na : NDx H 1 tx nm l cc L) (hok : okL l) (hi : jl5 l) (hop : ∀ n ∈ l, n.op = 2 ∨ n.op = 4) (hdp : dpL l ≤ 20) (hcn : jaK l ≤ 2 ^ 20) {k : ByteArray → jaa → Prop} (hk : ∀ H', Ext H H' → k ⟨⟨l.flatMap jaT⟩⟩ H')
 {body : (ByteArray × Int → jaa → Prop) → ByteArray × Int → jaa → Prop}
 (hbody : ∀ (next2 : ByteArray × Int → jaa → Prop) (i : Nat) (u : Txt) (n : Nd) (H8 : jaa), Ext H H8 → l[i]? = some n → u.length + (jaT n).length ≤ 2 ^ 40 → (∀ H9, Ext H8 H9 → Lt (IntKind.wrap .i64 (((i : Nat) : Int) + 1)) fun t3 => next2 (⟨⟨u ++ jaT n⟩⟩, t3) H9) → Ld .sl ⟨cc, 3, none⟩ H8 (fun x10 => Br (decide (((i : Nat) : Int) < (x10.len : Int))) True True) → body next2 (⟨⟨u⟩⟩, ((i : Nat) : Int)) H8)
 (hend : ∀ (next2 : ByteArray × Int → jaa → Prop) (u : Txt) (H8 : jaa), Ext H H8 → k ⟨⟨u⟩⟩ H8 → body next2 (⟨⟨u⟩⟩, ((l.length : Nat) : Int)) H8) :
 LoopT (σ := ByteArray × Int) body (⟨⟨[]⟩⟩, 0) H := by
 have htot : (l.flatMap jaT).length ≤ 256 * jaK l := jev fun n hn => jgv (jaM hok n hn) (jaE hi n hn) (hop n hn) (by have := jf8 hn; omega)
 have hll := jbw hok
 refine LoopT.ghost (fun m (s : ByteArray × Int) H' => ∃ (i : Nat) (u : Txt), Ext H H' ∧ s = (⟨⟨u⟩⟩, ((i : Nat) : Int)) ∧ m = l.length - i ∧ i ≤ l.length ∧ l.flatMap jaT = u ++ (l.drop i).flatMap jaT) l.length ⟨0, [], .refl _ _, rfl, rfl, Nat.zero_le _, rfl⟩ ?_
 rintro next _ _ H1 ⟨i, u, e1, rfl, rfl, hi', hs⟩ hnext
 by_cases hil : i < l.length
 ·have hg : l[i]? = some l[i] := List.getElem?_eq_getElem hil
  rw [jeA hg] at hs
  have hsl := congrArg List.length hs
  simp only [List.length_append] at hsl
  refine hbody next i u l[i] H1 e1 hg (by omega) (fun H9 e9 => Lt.mk (u := ((i + 1 : Nat) : Int)) (by rw [jac] <;> omega) (hnext (l.length - (i + 1)) _ _ (by omega) ⟨i + 1, _, eE e1 e9, rfl, rfl, by omega, by rw [hs]; simp⟩)) (jam (cu e1 na.c3) (Br.mk (fun _ => trivial) fun _ => trivial))
 ·have hil : i = l.length := by omega
  subst hil
  rw [List.drop_length] at hs
  exact hend next u H1 e1 (kx (hk H1 e1) (by rw [hs]; simp))
theorem jmB {n : Nd} {q : Option Nat} (hq : LD H n q) (htx : jjH n) (hi : jcM n) {k : ByteArray → jaa → Prop} (hk : ∀ H', Ext H H' → k ⟨⟨jbX n⟩⟩ H') : CallT Pg fQd3 [pN q] (.one (.c .str)) H k := by
 refine cQc1 _ ?_
 unfold vQc1
 cases n with
 | nil =>
   have := hq.nil
   subst this
   simp only [Jn, Option.map_none, Option.isNone_none, Br_true]
   exact hk H (.refl _ _)
 | mk op tx nm l a =>
 have hq0 := hq
 obtain ⟨cc, L, rfl, na⟩ := hq.nd
 simp only [Option.map_some, Option.isNone_some, NilCk_some, adr_add, Br_false]
 refine Jn.mk (fun j H' => H = H' ∧ j = !decide (op = 1 ∧ tx = [])) (fun kk hkk => ?_) ?_
 ·refine jaf na.c0 ?_
  by_cases e1 : op = 1
  ·rw [show (op != 1) = false by rw [e1]; rfl]
   refine (Br_false _ _).2 (jap na.c1 (hkk _ _ ⟨rfl, ?_⟩))
   rw [ja3]
   congr 1
   rw [Bool.eq_iff_iff, decide_eq_true_eq, decide_eq_true_eq]
   exact ⟨fun h => ⟨e1, h⟩, fun h => h.2⟩
  ·rw [show (op != 1) = true from bne_iff_ne.2 e1]
   exact (Br_true _ _).2 (hkk _ _ ⟨rfl, by rw [decide_eq_false (fun g => e1 g.1)]; rfl⟩)
 rintro _ _ ⟨rfl, rfl⟩
 by_cases hop : op = 1 ∧ tx = []
 rotate_left
 ·rw [decide_eq_false hop]
  refine (Br_true _ _).2 (kx (hk H (.refl _ _)) ?_)
  by_cases e1 : op = 1
  ·subst e1
   rw [jjx, if_neg (fun g => hop ⟨rfl, g.1⟩)]
  ·unfold jbX
   have : (op == 1) = false := beq_eq_false_iff_ne.2 e1
   show (if (_ && (op == 1)) = true then _ else []) = []
   rw [this, Bool.and_false]; rfl
 rw [decide_eq_true hop]
 obtain ⟨rfl, rfl⟩ := hop
 refine (Br_false _ _).2 ?_
 rw [jjx] at hk
 refine jaq (vs := [.int .i64 1]) fun c H2 hc hE2 _ hr2 => ?_
 have hr2 : Row H2 c jh9 [.int .i64 (100000 - 99999)] := hr2
 have hext : ∀ {H' : jaa}, jky c H2 H' → Ext H H' := fun ht => hE2.trans ht.upd fun x hx e => by omega
 refine LoopT.ghost (fun m' (s1 : Int) H' => ∃ (i : Nat) (lf : Int), s1 = i ∧ m' = l.length - i ∧ i ≤ l.length ∧ jky c H2 H' ∧ 0 ≤ lf ∧ lf ≤ 100000 ∧ Row H' c jh9 [.int .i64 (100000 - lf)] ∧ pgL 99999 l = pgL lf (l.drop i)) l.length ⟨0, 99999, rfl, rfl, Nat.zero_le _, .refl _ _ _, by decide, by decide, hr2, rfl⟩ ?_
 rintro next _ _ H3 ⟨i, lf, rfl, rfl, hil, t3, g1, g2, hr3, he⟩ hnext
 have e3 := hext t3
 have hll : l.length ≤ 2 ^ 40 := htx.2.1
 refine jam (cu e3 na.c3) ?_
 rw [na.len]
 refine jaj (fun hlt => ?_) fun hge => ?_
 ·have hil2 : i < l.length := by omega
  have hg : l[i]? = some l[i] := List.getElem?_eq_getElem hil2
  have hm1 := List.getElem_mem hil2
  have hdr : l.drop i = l[i] :: l.drop (i + 1) := List.drop_eq_getElem_cons hil2
  rw [hdr, jmH] at he
  generalize l[i] = x at *
  obtain ⟨ad, qx, ix, hcx, hlx⟩ := na.kid i x hg
  have no : pgL 99999 l = none → ∀ H', Ext H H' → k ⟨#[]⟩ H' := fun hn H' e => by
   have := hk H' e
   rw [if_neg (fun g => by rw [hn] at g; cases g.2)] at this
   exact this
  refine Jn.mk (fun j H' => H3 = H' ∧ j = decide (x.op = 2 ∨ x.op = 4)) (fun kk hkk => ?_) ?_
  ·refine jam (cu e3 na.c3) (ix rfl (jan (cu e3 hcx) (jdV (hlx.ext e3) ?_)))
   rw [jfi (by decide)]
   by_cases h2 : x.op = 2
   ·exact jah h2 (hkk _ _ ⟨rfl, (decide_eq_true (.inl h2)).symm⟩)
   ·refine jai h2 (jam (cu e3 na.c3) (ix rfl (jan (cu e3 hcx) (jdV (hlx.ext e3) (hkk _ _ ⟨rfl, ?_⟩)))))
    rw [jfi (by decide), Bool.eq_iff_iff]
    simp [h2]
  rintro _ _ ⟨rfl, rfl⟩
  by_cases hop : x.op = 2 ∨ x.op = 4
  rotate_left
  ·rw [decide_eq_false hop]
   exact (Br_true _ _).2 (no (by rw [he, if_neg hop]) H3 e3)
  rw [decide_eq_true hop]
  rw [if_pos hop] at he
  have hxn : x ≠ .nil := fun e => by subst e; rcases hop with h | h <;> exact absurd h (by decide)
  refine (Br_false _ _).2 (jam (cu e3 na.c3) (ix rfl (jan (cu e3 hcx) (jm1 (cnt x) (Nat.le_refl _) (jdu htx.2.2 _ hm1) hxn (hlx.ext e3) (Int.le_refl _) (by decide) g1 g2 hr3 (fun H4 t4 h4 => ?_) fun H4 lf4 t4 h4 hr4 => ?_))))
  ·rw [h4] at he
   exact (Br_true _ _).2 (no he H4 (hext (touT t3 t4)))
  ·rw [h4] at he
   have := fm_le h4
   exact (Br_false _ _).2 (Lt.mk (u := ((i + 1 : Nat) : Int)) (by rw [jac] <;> omega) (hnext (l.length - (i + 1)) _ _ (by omega) ⟨i + 1, lf4, rfl, rfl, by omega, touT t3 t4, this.1, by omega, hr4, he⟩))
 ·have hil2 : i = l.length := by omega
  subst hil2
  rw [List.drop_length] at he
  have hsome : (pgL 99999 l).isSome = true := by rw [he]; rfl
  rw [if_pos ⟨rfl, hsome⟩] at hk
  have hfit : jd0 0 100000 (.mk 1 [] nm l a) = some lf := by rw [jnc, if_pos rfl, he]; rfl
  obtain ⟨hok, hcn, _, hdp⟩ := jfb hfit
  have hcn : (100000 : Int) = lf + ((1 + jaK l : Nat) : Int) := by simpa [cnt] using hcn
  have hdp := hdp (by decide)
  have hd1 : dpN (.mk 1 [] nm l a) = 0 + dpL l := by simp [dpN]
  obtain ⟨_, hall⟩ := ok1 hok
  obtain ⟨cc3, L3, e33, na3⟩ := (hq0.ext e3).nd
  cases e33
  refine jmK na3 hok.2 hi.2 (fun n hn => (hall n hn).2) (by omega) (by omega) (fun H' e => hk H' (eE e3 e)) (fun next2 i u n H8 e8 hg hlen hgo _ => ?_) fun next2 u H8 e8 hku => ?_
  ·have hil : i < l.length := (List.getElem?_eq_some_iff.1 hg).1
   have hmem := ja5 hg
   obtain ⟨hno, hnop⟩ := hall n hmem
   have hni := jaE hi.2 n hmem
   have hnd := jf8 hmem
   have hnc := jaH hmem
   obtain ⟨ad, qx, ix, hcx, hlx⟩ := na3.kid i n hg
   obtain ⟨op, tx, nm2, ks, a2, c2, L2, rfl, rfl, nx⟩ := hlx.some' hno
   have htl : tx.length ≤ 16 := hno.tlen
   refine jam (cu e8 na3.c3) ?_
   rw [na3.len]
   refine jaj (fun _ => ?_) fun h => absurd (show ((i : Nat) : Int) < (l.length : Nat) by omega) h
   simp only [Jn]
   refine jam (cu e8 na3.c3) (ix rfl (jan (cu e8 hcx) ?_))
   simp only [Option.map_some, NilCk_some, adr_add]
   refine jaf (cu e8 nx.c0) ?_
   have hW := wQ (2 ^ 30) (Nat.le_refl _)
   rcases hnop with ho | ho
   ·-- a system
    have ho : op = 2 := ho
    subst ho
    obtain ⟨_, x1, x2, x3, x4, bk, rfl, hcs, _, hbk, hbko⟩ := ok2 hno
    have eT : jaT (.mk 2 tx nm2 [x1, x2, x3, x4, bk] a2) = [115, 121, 115, 116, 101, 109, 32] ++ tx ++ [x1, x2, x3, x4].flatMap jaS ++ (jcG 0 bk ++ [10]) := by simp [jaT]
    rw [eT] at hgo hlen
    simp only [List.length_append, List.length_cons, List.length_nil] at hlen
    have hcb : dpN bk ≤ dpN (.mk 2 tx nm2 [x1, x2, x3, x4, bk] a2) := by
     have : dpN bk ≤ dpL [x1, x2, x3, x4, bk] := jf8 (by simp)
     simp only [dpN]; omega
    refine jah rfl (Cat (by simp only [List.length_cons, List.length_nil]; omega) (jap (cu e8 nx.c1) (Cat (by simp only [List.length_append, List.length_cons, List.length_nil]; omega) ?_)))
    generalize hpre : u ++ [115, 121, 115, 116, 101, 109, 32] ++ tx = pre
    have hprl := congrArg List.length hpre
    simp only [List.length_append, List.length_cons, List.length_nil] at hprl
    refine LoopT.ghost (fun m (s : ByteArray × Int) H' => ∃ (j : Nat) (v : Txt), H8 = H' ∧ s = (⟨⟨v⟩⟩, ((j : Nat) : Int)) ∧ m = 4 - j ∧ j ≤ 4 ∧ pre ++ [x1, x2, x3, x4].flatMap jaS = v ++ (([x1, x2, x3, x4] : List Nd).drop j).flatMap jaS) 4 ⟨0, pre, rfl, rfl, rfl, by decide, rfl⟩ ?_
    rintro next3 _ _ _ ⟨j, v, rfl, rfl, rfl, hj, hv⟩ hnext3
    dsimp only
    have hvl := congrArg List.length hv
    simp only [List.length_append] at hvl
    refine jaj (fun hlt3 => ?_) fun hge3 => ?_
    ·have hj4 : j < ([x1, x2, x3, x4] : List Nd).length := by show j < 4; omega
     have hgj : ([x1, x2, x3, x4] : List Nd)[j]? = some ([x1, x2, x3, x4] : List Nd)[j] := List.getElem?_eq_getElem hj4
     have hgj5 : ([x1, x2, x3, x4, bk] : List Nd)[j]? = some ([x1, x2, x3, x4] : List Nd)[j] := by
      rw [← hgj]
      match j, hj4 with
      | 0, _ => rfl
      | 1, _ => rfl
      | 2, _ => rfl
      | 3, _ => rfl
     have hmj := List.getElem_mem hj4
     generalize ([x1, x2, x3, x4] : List Nd)[j] = y at hgj hgj5 hmj
     obtain ⟨hyo, hyop⟩ := hcs y hmj
     rw [jeA hgj] at hv
     have hvl := congrArg List.length hv
     simp only [List.length_append] at hvl
     obtain ⟨ay, qy, iy, hcy, hly⟩ := nx.kid j y hgj5
     obtain ⟨op3, tx3, nm3, l3, a3, c3, L3, rfl, rfl, ny⟩ := hly.some' hyo
     have hyop : op3 = 3 := hyop
     subst hyop
     have htx3 : tx3.length ≤ 16 := hyo.tlen
     have hyc : cnt (.mk 3 tx3 nm3 l3 a3) ≤ jaK [x1, x2, x3, x4, bk] := jaH (ja5 hgj5)
     have hyc3 : cnt (.mk 3 tx3 nm3 l3 a3) = 1 + jaK l3 := by simp [cnt]
     have hxc : cnt (.mk 2 tx nm2 [x1, x2, x3, x4, bk] a2) = 1 + jaK [x1, x2, x3, x4, bk] := by simp [cnt]
     have go3 : ∀ {w : Txt}, w = v ++ jaS (.mk 3 tx3 nm3 l3 a3) → Lt (IntKind.wrap .i64 (((j : Nat) : Int) + 1)) fun t2 => next3 (⟨⟨w⟩⟩, t2) H8 := fun {w} hw => by
      subst hw
      exact Lt.mk (u := ((j + 1 : Nat) : Int)) (by rw [jac] <;> omega) (hnext3 (4 - (j + 1)) _ _ (by omega) ⟨j + 1, _, rfl, rfl, rfl, by omega, by rw [hv]; simp⟩)
     refine jam (cu e8 nx.c3) (iy rfl (jan (cu e8 hcy) ?_))
     simp only [Option.map_some, NilCk_some, adr_add]
     refine jam (cu e8 ny.c3) ?_
     rw [ny.len]
     have hcT : jaS (.mk 3 tx3 nm3 l3 a3) = if l3.isEmpty then [] else 32 :: (tx3 ++ (32 :: jb1 l3)) := by unfold jaS; rfl
     cases l3 with
     | nil =>
       refine jbS (by decide) (go3 ?_)
       rw [hcT]; simp
     | cons z zs =>
       have hcT : jaS (.mk 3 tx3 nm3 (z :: zs) a3) = 32 :: (tx3 ++ (32 :: jb1 (z :: zs))) := by rw [hcT]; rfl
       rw [hcT] at hvl go3
       simp only [List.length_cons, List.length_append] at hvl
       refine ja1 (by simp only [List.length_cons]; omega) (Cat (by simp only [List.length_cons, List.length_nil]; omega) (jam (cu e8 nx.c3) (iy rfl (jan (cu e8 hcy) ?_))))
       simp only [Option.map_some, NilCk_some, adr_add]
       refine jap (cu e8 ny.c1) (Cat (by simp only [List.length_append, List.length_cons, List.length_nil]; omega) (Cat (by simp only [List.length_append, List.length_cons, List.length_nil]; omega) (jam (cu e8 nx.c3) (iy rfl (jan (cu e8 hcy) ?_)))))
       simp only [Option.map_some, NilCk_some, adr_add]
       refine jam (cu e8 ny.c3) (jjt (ny.lst.ext e8) hyo.2 (by omega) (jaQ e8 (sc hcy (sc nx.c3 (sc ny.c1 (sc hcy (sc nx.c3 sn))))) (Cat (by simp only [List.length_append, List.length_cons, List.length_nil]; omega) (go3 ?_))))
       simp
    ·have hj4 : j = 4 := by omega
     subst hj4
     have hv : pre ++ [x1, x2, x3, x4].flatMap jaS = v := by rw [hv]; exact List.append_nil _
     subst hv
     have hbm : cnt bk ≤ 2 ^ 30 := by
      have := jaH (l := [x1, x2, x3, x4, bk]) (n := bk) (by simp)
      have hxc : cnt (.mk 2 tx nm2 [x1, x2, x3, x4, bk] a2) = 1 + jaK [x1, x2, x3, x4, bk] := by simp [cnt]
      omega
     have hbi : jcM bk := jaE hni.2 _ (by simp)
     obtain ⟨ay, qy, iy, hcy, hly⟩ := nx.kid 4 bk rfl
     have hly0 := hly
     obtain ⟨op5, tx5, nm5, l5, a5, c5, L5, rfl, rfl, nb⟩ := hly.some' hbk
     have hbko : op5 = 5 := hbko
     subst hbko
     have eB : jcG 0 (.mk 5 tx5 nm5 l5 a5) = [32, 123, 10] ++ (jfs 1 l5 ++ [125]) := by simp [jcG, ja9]
     rw [eB] at hlen hgo
     simp only [List.length_append, List.length_cons, List.length_nil] at hlen
     refine Cat (by simp only [List.length_append, List.length_cons, List.length_nil]; omega) (jam (cu e8 nx.c3) (iy rfl (jan (cu e8 hcy) (hW.ss (n := .mk 5 tx5 nm5 l5 a5) (t := 1) hbm hbk hbi rfl (by omega) (hly0.ext e8) fun H9 e9 => ?_))))
     have ek : (Nd.mk 5 tx5 nm5 l5 a5).ks = l5 := rfl
     rw [ek]
     refine Cat (by simp only [List.length_append, List.length_cons, List.length_nil]; omega) (Cat (by simp only [List.length_append, List.length_cons, List.length_nil]; omega) ?_)
     have hg9 := hgo H9 e9
     have eq : pre ++ [x1, x2, x3, x4].flatMap jaS ++ [32, 123, 10] ++ jfs 1 l5 ++ [125, 10] = u ++ ([115, 121, 115, 116, 101, 109, 32] ++ tx ++ [x1, x2, x3, x4].flatMap jaS ++ ([32, 123, 10] ++ (jfs 1 l5 ++ [125]) ++ [10])) := by rw [← hpre]; simp
     rw [eq]; exact hg9
   ·-- a function
    have ho : op = 4 := ho
    subst ho
    obtain ⟨_, c, bk, rfl, hco, hcop, hctx, hbk, hbko⟩ := ok4 hno
    have hxc : cnt (.mk 4 tx nm2 [c, bk] a2) = 1 + jaK [c, bk] := by simp [cnt]
    have hc1 := jaH (l := [c, bk]) (n := c) (by simp)
    have hc2 := jaH (l := [c, bk]) (n := bk) (by simp)
    have hcb : dpN bk ≤ dpN (.mk 4 tx nm2 [c, bk] a2) := by
     have : dpN bk ≤ dpL [c, bk] := jf8 (by simp)
     simp only [dpN]; omega
    obtain ⟨ac, qc, ic, hcc, hlc⟩ := nx.kid 0 c rfl
    obtain ⟨op3, tx3, nm3, l3, a3, c3, L3, rfl, rfl, ny⟩ := hlc.some' hco
    have hyc3 : cnt (.mk op3 tx3 nm3 l3 a3) = 1 + jaK l3 := by simp [cnt]
    obtain ⟨ay, qy, iy, hcy, hly⟩ := nx.kid 1 bk rfl
    have hly0 := hly
    obtain ⟨op5, tx5, nm5, l5, a5, c5, L5, rfl, rfl, nb⟩ := hly.some' hbk
    have hbko : op5 = 5 := hbko
    subst hbko
    have eB : jcG 0 (.mk 5 tx5 nm5 l5 a5) = [32, 123, 10] ++ (jfs 1 l5 ++ [125]) := by simp [jcG, ja9]
    have eT : jaT (.mk 4 tx nm2 [.mk op3 tx3 nm3 l3 a3, .mk 5 tx5 nm5 l5 a5] a2) = [102, 117, 110, 99, 32] ++ (tx ++ (40 :: (jb1 l3 ++ [41]))) ++ (jcG 0 (.mk 5 tx5 nm5 l5 a5) ++ [10]) := by simp [jaT, Nd.ks]
    rw [eT, eB] at hgo hlen
    simp only [List.length_append, List.length_cons, List.length_nil] at hlen
    refine jai (by decide) (Cat (by simp only [List.length_cons, List.length_nil]; omega) (jap (cu e8 nx.c1) (Cat (by simp only [List.length_append, List.length_cons, List.length_nil]; omega) (Cat (by simp only [List.length_append, List.length_cons, List.length_nil]; omega) (jam (cu e8 nx.c3) (ic rfl (jan (cu e8 hcc) ?_)))))))
    simp only [Option.map_some, NilCk_some, adr_add]
    refine jam (cu e8 ny.c3) (jam (cu e8 nx.c3) (iy rfl (jan (cu e8 hcy) (jjt (ny.lst.ext e8) hco.2 (by omega) (jaQ e8 (sc hcy (sc nx.c3 (sc hcc (sc nx.c3 (sc nx.c1 sn))))) ?_)))))
    refine Cat (by simp only [List.length_append, List.length_cons, List.length_nil]; omega) (Cat (by simp only [List.length_append, List.length_cons, List.length_nil]; omega) ?_)
    refine hW.ss (n := .mk 5 tx5 nm5 l5 a5) (t := 1) (by omega) hbk (jaE hni.2 _ (by simp)) rfl (by omega) (hly0.ext e8) fun H9 e9 => jaQ (eE e8 e9) (sc nx.c3 (sc ny.c3 (sc hcc (sc nx.c3 (sc nx.c1 sn))))) ?_
    have ek : (Nd.mk 5 tx5 nm5 l5 a5).ks = l5 := rfl
    rw [ek]
    refine Cat (by simp only [List.length_append, List.length_cons, List.length_nil]; omega) (Cat (by simp only [List.length_append, List.length_cons, List.length_nil]; omega) ?_)
    have hg9 := hgo H9 e9
    have eq : u ++ [102, 117, 110, 99, 32] ++ tx ++ [40] ++ jb1 l3 ++ [41, 32, 123, 10] ++ jfs 1 l5 ++ [125, 10] = u ++ ([102, 117, 110, 99, 32] ++ (tx ++ (40 :: (jb1 l3 ++ [41]))) ++ ([32, 123, 10] ++ (jfs 1 l5 ++ [125]) ++ [10])) := by simp
    rw [eq]; exact hg9
  ·refine jam (cu e8 na3.c3) ?_
   rw [na3.len]
   exact jaj (fun h => absurd h (by simp)) fun _ => hku
end
section
open Hc
abbrev fQeq : FuncId := 6
end
section
open Hc Hc.Lex Hc.Syn
variable {H : jaa}
mutual
def jjJ : Nd → Bool
 | .nil => true
 | .mk _ tx nm l _ => decide (tx.length ≤ 1000) && decide (l.length ≤ 1000) && decide (0 ≤ nm) && decide (nm ≤ 1000) && jjC l
def jjC : List Nd → Bool
 | [] => true
 | n :: ns => jjJ n && jjC ns
end
mutual
theorem jjR : ∀ {n : Nd}, jjJ n = true → jjH n ∧ jcM n
 | .nil, _ => ⟨trivial, trivial⟩
 | .mk _ tx nm l _, h => by
   simp only [jjJ, Bool.and_eq_true, decide_eq_true_eq] at h
   obtain ⟨g1, g2⟩ := jin h.2
   exact ⟨⟨by omega, by omega, g1⟩, ⟨by omega, by omega⟩, g2⟩
theorem jin : ∀ {l : List Nd}, jjC l = true → txtL l ∧ jl5 l
 | [], _ => ⟨trivial, trivial⟩
 | n :: ns, h => by
   simp only [jjC, Bool.and_eq_true] at h
   obtain ⟨g1, g2⟩ := jjR h.1
   obtain ⟨k1, k2⟩ := jin h.2
   exact ⟨⟨g1, k1⟩, g2, k2⟩
end
abbrev exA : Txt := [115, 121, 115, 116, 101, 109, 32, 77, 32, 114, 101, 97, 100, 115, 32, 86, 32, 119, 114, 105, 116, 101, 115, 32, 80, 123, 80, 46, 120, 61, 80, 46, 120, 43, 86, 46, 120, 59, 125, 102, 117, 110, 99, 32, 102, 40, 97, 41, 123, 114, 101, 116, 117, 114, 110, 32, 97, 45, 40, 49, 45, 50, 41, 42, 45, 51, 59, 125]
abbrev exB : Txt := [115, 121, 115, 116, 101, 109, 32, 83, 32, 123, 32, 108, 101, 116, 32, 120, 32, 61, 32, 59, 32, 125]
abbrev exC : Txt := [115, 121, 115, 116, 101, 109, 32, 77, 32, 114, 101, 97, 100, 115, 32, 86, 32, 119, 114, 105, 116, 101, 115, 32, 80, 32, 123, 10, 9, 80, 46, 120, 32, 61, 32, 80, 46, 120, 32, 43, 32, 86, 46, 120, 59, 10, 125, 10, 102, 117, 110, 99, 32, 102, 40, 97, 41, 32, 123, 10, 9, 114, 101, 116, 117, 114, 110, 32, 97, 32, 45, 32, 40, 49, 32, 45, 32, 50, 41, 32, 42, 32, 45, 51, 59, 10, 125, 10]
def chkA : R Nd → Bool
 | some (.ok (.mk op tx nm [x, y] a, _)) => jjJ (.mk op tx nm [x, y] a) && (jbX (.mk op tx nm [x, y] a) == exC) && !jcR (.mk op tx nm [x, y] a) x
 | _ => false
def chkB : R Nd → Bool
 | some (.error (p, e)) => p == 19 && e == 100
 | _ => false
theorem exA_ok : chkA (jdR ⟨⟨exA⟩⟩) = true := by kernel_rfl
theorem exB_ok : chkB (jdR ⟨⟨exB⟩⟩) = true := by kernel_rfl
theorem jl9 : ∃ op tx nm x y a s, jdR ⟨⟨exA⟩⟩ = some (.ok (.mk op tx nm [x, y] a, s)) ∧ (jjH (.mk op tx nm [x, y] a) ∧ jcM (.mk op tx nm [x, y] a)) ∧ jbX (.mk op tx nm [x, y] a) = exC ∧ jcR (.mk op tx nm [x, y] a) x = false := by
 have h := exA_ok
 unfold chkA at h
 split at h
 ·rename_i op tx nm x y a s e
  simp only [Bool.and_eq_true, beq_iff_eq, Bool.not_eq_true'] at h
  exact ⟨op, tx, nm, x, y, a, s, e, jjR h.1.1, h.1.2, h.2⟩
 ·cases h
theorem jlx : ∃ p e, jdR ⟨⟨exB⟩⟩ = some (.error (p, e)) ∧ p = 19 ∧ e = 100 := by
 have h := exB_ok
 unfold chkB at h
 split at h
 ·rename_i p e he
  simp only [Bool.and_eq_true, beq_iff_eq] at h
  exact ⟨p, e, he, h.1, h.2⟩
 ·cases h
theorem jj9 {g : Nat} {p e : Int} (hr : Row H g jkH [.int .i64 p, .int .i64 e]) {k : Int × Int × Bool → jaa → Prop} (hk : k (p, e, e != 0) H) : CallT Pg fQb9 [.iface jkO (.pointer (some (adr g)))] (.tup [(.c (.int .i64)), (.c (.int .i64)), (.c .bool)]) H k := by
 refine cQct _ ?_
 unfold vQct
 refine .inr ⟨⟨_, _, rfl⟩, (Br_false _ _).2 (.inl ⟨some (adr g), rfl, ?_⟩)⟩
 simp only [Jn, Bool.not_true, Br_false, Option.isNone_some, NilCk_some, adr_add]
 exact jaf ((hr.cell 0).trans rfl) (jaf ((hr.cell 1).trans rfl) (jaf ((hr.cell 1).trans rfl) hk))
theorem ParOut.ok {lo : Nat} {s : ByteArray} {d : Option Addr} {v : Value} {n : Nd} {s' : PS} (h : ParOut lo H s d v) (e : jdR s = some (.ok (n, s'))) : v = .nilIface ∧ ∃ q, d = some (adr q) ∧ lo ≤ q ∧ Ow lo H n q := by
 unfold ParOut at h; rw [e] at h; exact h
theorem ParOut.err {lo : Nat} {s : ByteArray} {d : Option Addr} {v : Value} {p c : Int} (h : ParOut lo H s d v) (e : jdR s = some (.error (p, c))) : d = none ∧ ∃ g, v = .iface jkO (.pointer (some (adr g))) ∧ lo ≤ g ∧ Row H g jkH [.int .i64 p, .int .i64 c] := by
 unfold ParOut at h; rw [e] at h; exact h
theorem s_shown (hg : GL H) {k : Bool → jaa → Prop} (hk : ∀ H', Ext H H' → k true H') : CallT Pg fQb7 [] (.one (.c .bool)) H k := by
 refine cQcs ?_
 unfold vQcs
 obtain ⟨op, tx, nm, x, y, a, s, eA, ⟨htx, hi⟩, hpr, hsm⟩ := jl9
 obtain ⟨p, e, eB, rfl, rfl⟩ := jlx
 refine jkJ hg.ge hg.tab fun d1 v1 H1 hE1 ho1 => ?_
 obtain ⟨rfl, q, rfl, _, hq⟩ := ho1.ok eA
 have g1 := hg.ext hE1
 refine jkJ g1.ge g1.tab fun d2 v2 H2 hE2 ho2 => ?_
 obtain ⟨rfl, g, rfl, _, hr⟩ := ho2.err eB
 have g2 := g1.ext hE2
 refine jj9 hr ?_
 obtain ⟨fp, ht, hnd, _⟩ := (hq.upd hE2 fun _ _ _ h => h).ex
 have ht0 := ht
 obtain ⟨b, L, qs, fl, hb, hrow, hv, hl, hfp⟩ := ht
 cases hb
 have hLl : L.len = 2 := by rw [hv.len, List.length_map, hl.len]; rfl
 refine Jn.mk (fun j H' => H2 = H' ∧ j = false) (fun kk hkk => ?_) ?_
 ·refine .inl ⟨rfl, ?_⟩
  simp only [Bool.not_true, Br_false, Option.isNone_some, NilCk_some, adr_add]
  exact jam ((hrow.cell 3).trans rfl) (hkk _ _ ⟨rfl, by rw [hLl]; rfl⟩)
 rintro _ _ ⟨rfl, rfl⟩
 refine (Br_false _ _).2 ?_
 refine jiE (q := some q) g2 ht0 htx hi fun H3 hE3 => ?_
 have ht3 := ht0.upd hE3 fun _ _ h => h
 refine jj5 (qa := some q) (qb := some q) ht3 hnd ht3 htx fun H4 hE4 => ?_
 have hE24 := hE3.trans hE4 fun _ _ h => h
 have ht4 := ht0.upd hE24 fun _ _ h => h
 have hrow4 := hE24.row hrow fun h => h
 have hv4 := hv.upd hE24 fun _ _ h => h
 obtain ⟨q1, qs1, f1, f2, hqs, _, hx, _⟩ := hl
 simp only [NilCk_some, adr_add]
 refine jam ((hrow4.cell 3).trans rfl) (jcc hv4 (by decide) (by rw [hqs]; simp) fun ad hc _ => ?_)
 have hc : jar H4 ad = some (jcy q1) := hc.trans (by simp [hqs])
 refine jan hc (jj5 (qa := some q) (qb := q1) ht4 hnd (hx.upd hE24 fun _ _ h => h) htx fun H5 hE5 => ?_)
 rw [hsm, jdw, hpr]
 simp only [Jn]
 have hE : Ext H H5 := ((hE1.trans hE2 fun _ _ h => h).trans hE24 fun _ _ h => h).trans hE5 fun _ _ h => h
 refine jah rfl (jah rfl ?_)
 refine (Br_true _ _).2 ((Br_true _ _).2 ((Br_true _ _).2 ?_))
 exact (congrArg (fun b => k b H5) (beq_iff_eq.2 rfl)).mpr (hk H5 hE)
end
section
open Hc Hc.Lex Hc.Syn
variable {H : jaa}
mutual
theorem jlO : ∀ {n : Nd} {v : TaV}, TaR H n v → cW n ≤ 2 ^ 18 → jjH (fcN n)
 | .nil, _, h, _ => h.elim
 | .mk op tx nm l a, _, ⟨_, _, _, _, _, _, _, _, h9⟩, hc => by
   simp only [cW] at hc
   have := h9.len
   unfold fcN
   split
   ·trivial
   ·exact ⟨by omega, by rw [jeS]; omega, jlk h9 (by omega)⟩
theorem jlk : ∀ {l : List Nd} {a : Option Addr} {i : Nat}, TaL H l a i → cWL l ≤ 2 ^ 18 → txtL (fcL l)
 | [], _, _, _, _ => trivial
 | n :: ns, _, _, ⟨⟨_, _, _, _, h3⟩, h4⟩, hc => by
   simp only [cWL] at hc
   exact ⟨jlO h3 (by omega), jlk h4 (by omega)⟩
end
theorem jg9 {b : Nat} {v : TaV} (h : Row H b jlf (taC v)) {k : Int × ByteArray × Int × Sl × Int → Prop} (hk : k v) : LdC [(.int .i64), .str, (.int .i64), .sl, (.int .i64)] (adr b) H k := ⟨v, h.rd_all, hk⟩
theorem s_dblA (hg : GL H) {k : ByteArray → jaa → Prop} (hk : ∀ H', Ext H H' → k ⟨#[102, 117, 110, 99, 32, 102, 40, 41, 32, 123, 10, 9, 114, 101, 116, 117, 114, 110, 32, 49, 32, 43, 32, 49, 32, 43, 32, 40, 49, 32, 43, 32, 49, 41, 59, 10, 125, 10]⟩ H') : CallT Pg jnk [.int .i64 2] (.one (.c .str)) H k :=
 jfI (n := 2) hg (by omega) fun H' hE => by rw [dbl_few]; exact hk H' hE
theorem s_dblB (hg : GL H) {k : ByteArray → jaa → Prop} (hk : ∀ H' t, t ≠ [] → Ext H H' → k ⟨⟨t⟩⟩ H') : CallT Pg jnk [.int .i64 15] (.one (.c .str)) H k :=
 jfI (n := 15) hg (by omega) fun H' hE => by
  have := jmf
  generalize jbX (jjb (je7 15)) = t at this ⊢
  exact hk H' t this hE
theorem s_dblC (hg : GL H) {k : ByteArray → jaa → Prop} (hk : ∀ H', Ext H H' → k ⟨⟨[]⟩⟩ H') : CallT Pg jnk [.int .i64 16] (.one (.c .str)) H k :=
 jfI (n := 16) hg (by omega) fun H' hE => by rw [jm2]; exact hk H' hE
theorem jm0 (hg : GL H) {n m : Nd} {v u : TaV} (hn : TaR H n v) (hm : TaR H m u) : CallT Pg fQep [.agg ⟨taC v⟩, .agg ⟨taC u⟩] (.one (.c .bool)) H fun b H' => b = true ∧ Ext H H' := by
 refine cQdn v u ?_
 unfold vQdn
 refine jaq (vs := taC v) fun b1 H1 _ hE1 _ hr1 => jaq (vs := taC u) fun b2 H2 _ hE2 _ hr2 => ?_
 have x2 := eE hE1 hE2
 refine s_shown (hg.ext x2) fun H3 hE3 => ?_
 have x3 := eE x2 hE3
 have p1 : Row H3 b1 jlf (taC v) := (eE hE2 hE3).row hr1 fun h => h
 have p2 : Row H3 b2 jlf (taC u) := hE3.row hr2 fun h => h
 have n3 := hn.ext x3
 have m3 := hm.ext x3
 refine Jn.mk (fun j H' => Ext H3 H' ∧ (j = false → cW n ≤ 2 ^ 18 ∧ cW m ≤ 2 ^ 18)) (fun kk hkk => ?_) ?_
 ·refine (Br_false _ _).2 (jg9 p1 (jhy _ (Nat.le_refl _) n3 (by omega) (by omega) fun r H4 hE4 _ _ hr => ?_))
  refine jaj (fun _ => hkk _ _ ⟨hE4, fun h => by cases h⟩) fun hlt => ?_
  refine jg9 (hE4.row p2 fun h => h) (jhy _ (Nat.le_refl _) (m3.ext hE4) (by omega) (by omega) fun r' H5 hE5 _ _ hr' => hkk _ _ ⟨eE hE4 hE5, fun h => ?_⟩)
  have h := of_decide_eq_false h
  have := hr (by omega)
  have := hr' (by omega)
  omega
 rintro j H4 ⟨hE4, hj⟩
 refine Br.mk (fun _ => ⟨rfl, eE x3 hE4⟩) fun hjf => ?_
 obtain ⟨cn, cm⟩ := hj hjf
 have x4 := eE x3 hE4
 have n4 := n3.ext hE4
 have m4 := m3.ext hE4
 have p1 : Row H4 b1 jlf (taC v) := hE4.row p1 fun h => h
 have p2 : Row H4 b2 jlf (taC u) := hE4.row p2 fun h => h
 have tn := jlO n4 cn
 have tm := jlO m4 cm
 have in' := n4.i64
 refine jg9 p1 (jkY _ (Nat.le_refl _) cn n4 fun q5 H5 hE5 o5 => ?_)
 obtain ⟨f5, t5, d5, _⟩ := o5.ex
 refine jg9 (hE5.row p2 fun h => h) (jkY _ (Nat.le_refl _) cm (m4.ext hE5) fun q6 H6 hE6 o6 => ?_)
 obtain ⟨f6, t6, _, _⟩ := o6.ex
 have y6 := eE hE5 hE6
 refine jg9 (y6.row p1 fun h => h) (jli _ (Nat.le_refl _) cn (n4.ext y6) fun q7 H7 hE7 o7 => ?_)
 obtain ⟨f7, t7, _, _⟩ := o7.ex
 have y7 := eE y6 hE7
 refine jg9 (y7.row p2 fun h => h) (jli _ (Nat.le_refl _) cm (m4.ext y7) fun q8 H8 hE8 o8 => ?_)
 obtain ⟨f8, t8, _, _⟩ := o8.ex
 have y8 := eE y7 hE8
 have g8 := hg.ext (eE x4 y8)
 have u5 : TR H8 (fcN n) q5 f5 := t5.upd (eE hE6 (eE hE7 hE8)) fun _ _ h => h
 have u6 : TR H8 (fcN m) q6 f6 := t6.upd (eE hE7 hE8) fun _ _ h => h
 have u7 : TRD H8 (fcN n) q7 f7 := t7.upd hE8 fun _ _ h => h
 refine jiE g8 u5 tn in' fun H9 hE9 => ?_
 refine jj5 (u5.upd hE9 fun _ _ h => h) d5 (u6.upd hE9 fun _ _ h => h) tn fun H10 hE10 => ?_
 have z10 := eE hE9 hE10
 have y10 := eE y8 z10
 refine jg9 (y10.row p1 fun h => h) (jkY _ (Nat.le_refl _) cn (n4.ext y10) fun q11 H11 hE11 o11 => ?_)
 obtain ⟨f11, t11, _, _⟩ := o11.ex
 have z11 := eE z10 hE11
 refine jj5 (u5.upd z11 fun _ _ h => h) d5 t11 tn fun H12 hE12 => ?_
 have z12 := eE z11 hE12
 have y12 := eE y8 z12
 refine jg9 (y12.row p1 fun h => h) (jm9 _ (Nat.le_refl _) (n4.ext y12) (u5.upd z12 fun _ _ h => h) fun H13 hE13 => ?_)
 have z13 := eE z12 hE13
 have y13 := eE y8 z13
 refine jg9 (y13.row p2 fun h => h) (jm9 _ (Nat.le_refl _) (m4.ext y13) (u6.upd z13 fun _ _ h => h) fun H14 hE14 => ?_)
 have z14 := eE z13 hE14
 have g14 := g8.ext z14
 refine s_dblA g14 fun H15 hE15 => ?_
 have z15 := eE z14 hE15
 rw [jdw]
 refine Jn.mk (fun j H' => Ext H15 H' ∧ j = true) (fun kk hkk => ?_) ?_
 ·refine s_dblB (g14.ext hE15) fun H16 t ht hE16 => ?_
  rw [ja3]
  have e1 : decide (bs (⟨⟨t⟩⟩ : ByteArray) = bs (⟨#[]⟩ : ByteArray)) = false := decide_eq_false ht
  rw [e1]
  refine (Br_true _ _).2 (s_dblC (g14.ext (eE hE15 hE16)) fun H17 hE17 => hkk _ _ ⟨eE hE16 hE17, ?_⟩)
  simp
 rintro _ H16 ⟨hE16, rfl⟩
 have z16 := eE z15 hE16
 have hfin := eE (eE x4 y8) z16
 refine Jn.mk (fun j H' => Ext H H' ∧ j = true) (fun kk hkk => ?_) ?_
 ·rw [ja3, decide_eq_true rfl]
  simp only [Br_true]
  refine jmB ⟨f7, u7.upd z16 fun _ _ h => h⟩ tn in' fun H17 hE17 => ?_
  have z17 := eE z16 hE17
  rw [ja3, decide_eq_true rfl]
  refine (Br_true _ _).2 (s_rSame _ (Nat.le_refl _) (u7.upd z17 fun _ _ h => h) (t8.upd z17 fun _ _ h => h) tn (hkk _ _ ⟨eE hfin hE17, ?_⟩))
  simp
 rintro _ H17 ⟨hE17, rfl⟩
 exact ⟨rfl, hE17⟩
end
section
open Hc Hc.Syn
theorem rd_ta {H : jaa} {v : Value} (h : RdV Tryz.prog H 39 v) : ∃ n u, v = .agg ⟨taC u⟩ ∧ TaR H n u := by
 obtain ⟨f, cs, rfl, hc⟩ := jlA Tryz.underlying39 h
 obtain ⟨n, u, rfl, ht⟩ := ta_of Tryz.underlying39 ⟨rfl, rfl⟩ ⟨rfl, rfl⟩ ⟨rfl, rfl⟩ ⟨rfl, rfl⟩ ⟨rfl, rfl⟩ Tryz.underlying3 Tryz.underlying2 Tryz.underlying9 Tryz.underlying37 (by kernel_rfl) (by kernel_rfl) (by kernel_rfl) (by kernel_rfl) (by kernel_rfl) (Nat.le_of_ble_eq_true (by kernel_rfl)) f f (Nat.le_refl _) hc
 exact ⟨n, u, rfl, ht⟩
theorem jgp {W : World} (hg : GL W.heap) (v0 v1 : Value) (h0 : RdV Tryz.prog W.heap 39 v0) (h1 : RdV Tryz.prog W.heap 39 v1) :
 CallT Pg fQep [v0, v1] (.one (.c .bool)) W.heap fun b H' => b = true ∧ Ext W.heap H' := by
 obtain ⟨n, u, rfl, hn⟩ := rd_ta h0
 obtain ⟨m, v, rfl, hm⟩ := rd_ta h1
 exact jm0 hg hn hm
end
end Go.Proofs.YtfpmgpblhhcpgaaGreatDoor
