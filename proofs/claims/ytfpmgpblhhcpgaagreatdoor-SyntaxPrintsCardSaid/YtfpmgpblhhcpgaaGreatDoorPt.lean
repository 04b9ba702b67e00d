/-
 How long a text is.
-/
import Derived.Test.YtfpmgpblhhcpgaaGreatDoorHcPrnB
import Derived.Lib.ItoaLen
import Derived.Lib.ItoaMem
import Derived.Test.YtfpmgpblhhcpgaaGreatDoorVPri
import Derived.Shelf.Strings.Builder1
set_option linter.unusedVariables false
set_option linter.unusedSimpArgs false
namespace Go.Proofs.YtfpmgpblhhcpgaaGreatDoor.Hc.Syn
set_option maxRecDepth 100000
section
open Go Hc Hc.Lex
mutual
def jcM : Nd → Prop
 | .nil => True
 | .mk _ _ nm l _ => (-9223372036854775808 ≤ nm ∧ nm ≤ 9223372036854775807) ∧ jl5 l
def jl5 : List Nd → Prop
 | [] => True
 | n :: ns => jcM n ∧ jl5 ns
end
theorem jaE : ∀ {l : List Nd}, jl5 l → ∀ n ∈ l, jcM n
 | [], _, n, hn => by cases hn
 | m :: ms, h, n, hn => by
   rcases List.mem_cons.1 hn with rfl | hn
   ·exact h.1
   ·exact jaE h.2 n hn
theorem jgD {n : Int} (h0 : 0 ≤ n) (h : n ≤ 9223372036854775807) : (jcH n).length ≤ 21 := by
 have := Lib.itoa_length_le n (by omega) h
 unfold Lib.itoa at this
 rw [if_neg (by omega)] at this
 exact this
theorem jj4 {t : Txt} (h : jaC t = true) : t.length ≤ 16 := by
 unfold jaC at h
 simp only [Bool.and_eq_true, decide_eq_true_eq] at h
 exact h.1.1
theorem jl3 {t : Txt} (h : 0 < jat t) : t.length ≤ 16 := by
 unfold jat at h
 repeat' split at h
 all_goals first | (rename_i e; rcases e with e | e | e | e <;> subst e <;> decide) | (rename_i e; rcases e with e | e | e <;> subst e <;> decide) | (rename_i e; rcases e with e | e <;> subst e <;> decide) | (rename_i e; subst e; decide) | omega
theorem jmR {k : Nat} {t : Txt} (h : jaN k t = true) : t.length ≤ 16 := by
 unfold jaN at h
 split at h
 ·simp only [beq_iff_eq] at h; subst h; decide
 ·exact jj4 h
 ·have h := List.contains_iff_mem.1 h
  simp only [clauseW, List.cons_append, List.nil_append, List.mem_cons, List.not_mem_nil, or_false] at h
  rcases h with rfl | rfl | rfl | rfl | rfl <;> decide
 ·exact jl3 (by simpa using h)
 ·simp only [Bool.or_eq_true, beq_iff_eq] at h
  rcases h with rfl | rfl <;> decide
 ·simp only [Bool.or_eq_true] at h
  rcases h with h | h
  ·exact jj4 h
  ·have h := List.contains_iff_mem.1 h
   simp only [builtinL, List.mem_cons, List.not_mem_nil, or_false] at h
   rcases h with rfl | rfl | rfl | rfl | rfl <;> decide
 ·simp only [Bool.or_eq_true, beq_iff_eq] at h
  rcases h with rfl | rfl <;> decide
theorem Loc.tlen {op nm : Int} {tx : Txt} {l : List Nd} (h : Loc op tx nm l) : tx.length ≤ 16 := by
 obtain ⟨k, sl, more, m, _, h2, _⟩ := h.ex
 exact jmR h2
theorem okN.tlen {n : Nd} (h : okN n) : n.tx.length ≤ 16 := by
 obtain ⟨op, tx, nm, l, a, rfl⟩ := h.op
 exact h.1.tlen
theorem jdk (b : Bool) (t : Txt) : (par b t).length ≤ t.length + 2 := by
 unfold par; split <;> simp
theorem jgx {l : List Nd} (h : okL l) : (l.headD .nil).tx.length ≤ 16 := by
 cases l with
 | nil => simp [Nd.tx]
 | cons x xs => exact h.1.tlen
mutual
theorem jbb : ∀ {n : Nd}, okN n → jcM n → (exT n).length + 2 ≤ 64 * cnt n
 | .nil, h, _ => h.elim
 | .mk op tx nm l a, h, hi => by
   have ht := h.1.tlen
   have hc : cnt (.mk op tx nm l a) = 1 + jaK l := by simp [cnt]
   have hl := jgO h.2 hi.2
   rw [hc]
   unfold exT
   split
   ·rename_i e; have := jgD (h.1.num e) hi.1.2; omega
   split
   ·have := jgx h.2
    simp only [List.length_append, List.length_cons]; omega
   split
   ·match l, h, hi, hl with
    | [], _, _, _ => simp; omega
    | [_], _, _, _ => simp; omega
    | x :: y :: r, h, hi, _ =>
      dsimp only
      have h1 := jbb h.2.1 hi.2.1
      have h2 := jbb h.2.2.1 hi.2.2.1
      have p1 := jdk (jaX (jat tx) false x) (exT x)
      have p2 := jdk (jaX (jat tx) true y) (exT y)
      simp only [List.length_append, List.length_cons, jaK]; omega
   split
   ·match l, h, hi, hl with
    | [], _, _, _ => simp; omega
    | x :: r, h, hi, _ =>
      dsimp only
      have h1 := jbb h.2.1 hi.2.1
      have p1 := jdk (jaX 7 false x) (exT x)
      simp only [List.length_append, jaK]; omega
   split
   ·match l, h, hi, hl with
    | [], _, _, _ => simp; omega
    | [_], _, _, _ => simp; omega
    | [_, _], _, _, _ => simp; omega
    | x :: y :: z :: r, h, hi, _ =>
      dsimp only
      have h1 := jbb h.2.1 hi.2.1
      have h2 := jbb h.2.2.1 hi.2.2.1
      have h3 := jbb h.2.2.2.1 hi.2.2.2.1
      have p1 := jdk (jaX 0 false x) (exT x)
      simp only [List.length_append, List.length_cons, List.length_nil, jaK]; omega
   split
   ·have := hl true
    simp only [List.length_append, List.length_cons, List.length_nil]; omega
   split
   ·simp only [List.length_append, List.length_cons, List.length_nil]; omega
   ·omega
theorem jgO : ∀ {l : List Nd}, okL l → jl5 l → ∀ b, (jbe b (jhu l)).length ≤ 64 * jaK l
 | [], _, _, b => by simp [jhu, jbe, jaK]
 | n :: ns, h, hi, b => by
   have h1 := jbb h.1 hi.1
   have h2 := jgO h.2 hi.2 false
   simp only [jhu, jbe, List.length_append, jaK]
   split <;> simp only [List.length_nil, List.length_cons] <;> omega
end
theorem jc9 {f : Nd → Txt} {g : Nd → Nat} : ∀ {l : List Nd}, (∀ n ∈ l, (f n).length + 2 ≤ 64 * g n) → ∀ b, (jbe b (l.map f)).length ≤ 64 * (l.map g).sum
 | [], _, b => by simp [jbe]
 | n :: ns, h, b => by
   have h1 := h n (by simp)
   have h2 := jc9 (l := ns) (fun m hm => h m (by simp [hm])) false
   simp only [List.map_cons, jbe, List.length_append, List.sum_cons]
   split <;> simp only [List.length_nil, List.length_cons] <;> omega
theorem jca : ∀ (l : List Nd), (l.map cnt).sum = jaK l
 | [] => rfl
 | n :: ns => by simp [jaK, jca ns]
theorem jgf {l : List Nd} (h : okL l) (hi : jl5 l) : (exT (l.headD .nil)).length ≤ 64 * jaK l := by
 cases l with
 | nil => simp [exT]
 | cons x xs => have := jbb h.1 hi.1; simp only [List.headD_cons, jaK]; omega
theorem jmS {n : Nd} (h : okN n) (hi : jcM n) : (jiK n).length + 2 ≤ 64 * cnt n := by
 obtain ⟨op, tx, nm, l, a, rfl⟩ := h.op
 have ht := h.1.tlen
 have := jgf h.2 hi.2
 simp only [jiK, Nd.tx, Nd.ks, List.length_append, List.length_cons, List.length_nil, cnt]; omega
theorem jdd {n : Nd} (h : okN n) (hi : jcM n) : (jbt n).length + 2 ≤ 64 * cnt n := by
 obtain ⟨op, tx, nm, l, a, rfl⟩ := h.op
 have ht := h.1.tlen
 have := jc9 (f := jiK) (g := cnt) (l := l) (fun n hn => jmS (jaM h.2 n hn) (jaE hi.2 n hn)) true
 rw [jca] at this
 simp only [jbt, Nd.tx, Nd.ks, List.length_append, List.length_cons, List.length_nil, cnt]; omega
theorem jmo {n : Nd} (h : okN n) (hi : jcM n) : (jcP n).length + 2 ≤ 64 * cnt n := by
 obtain ⟨op, tx, nm, l, a, rfl⟩ := h.op
 have ht := h.1.tlen
 have hx := jgf h.2 hi.2
 have hxt := jgx h.2
 have hy : (exT (l.headD .nil)).length + (exT (l.tail.headD .nil)).length ≤ 64 * jaK l := by
  cases l with
  | nil => simp [exT]
  | cons x xs =>
    have := jbb h.2.1 hi.2.1
    have := jgf h.2.2 hi.2.2
    simp only [List.headD_cons, List.tail_cons, jaK]; omega
 have hp := jc9 (f := jbt) (g := cnt) (l := l) (fun n hn => jdd (jaM h.2 n hn) (jaE hi.2 n hn)) true
 rw [jca] at hp
 have hpx : (jbt (l.headD .nil)).length ≤ 64 * jaK l + 2 := by
  cases l with
  | nil => simp [jbt, Nd.tx, Nd.ks, jbe]
  | cons x xs => have := jdd h.2.1 hi.2.1; simp only [List.headD_cons, jaK]; omega
 unfold jcP
 simp only [cnt]
 repeat' split
 all_goals simp only [List.length_append, List.length_cons, List.length_nil]
 all_goals first | omega | (split <;> simp only [List.length_nil, List.length_cons] <;> omega)
mutual
theorem jiO : ∀ {n : Nd} {t : Nat}, okN n → jcM n → t + dpN n ≤ 40 → (stT t n).length + 42 ≤ 256 * cnt n
 | .nil, _, h, _, _ => h.elim
 | .mk op tx nm l a, t, h, hi, hd => by
   unfold stT
   have hc : cnt (.mk op tx nm l a) = 1 + jaK l := by simp [cnt]
   have hd' : t + dpL l ≤ 40 := by simp only [dpN] at hd; split at hd <;> omega
   rw [hc]
   by_cases h13 : op = 13
   ·subst h13
    rw [if_pos rfl]
    match l, h, hi, hd' with
    | [], _, _, _ => simp; omega
    | [_], _, _, _ => simp; omega
    | [c, b], h, hi, hd' =>
      have hb : b.op = 5 := by
       obtain ⟨_, c', b', _, _, _, h5, e | ⟨e', e, _⟩⟩ := ok13 h
       ·cases e; exact h5
       ·cases e
      dsimp only
      simp only [dpL] at hd'
      have h1 := jbb h.2.1 hi.2.1
      have h2 := jb6 (n := b) (t := t) h.2.2.1 hi.2.2.1 hb (by omega)
      simp only [List.length_append, List.length_cons, List.length_nil, jaK]; omega
    | c :: b :: e :: r, h, hi, hd' =>
      obtain ⟨hb, he⟩ : b.op = 5 ∧ (e.op = 5 ∨ e.op = 13) := by
       obtain ⟨_, c', b', _, _, _, h5, e0 | ⟨e', e0, _, h6⟩⟩ := ok13 h
       ·cases e0
       ·cases e0; exact ⟨h5, h6⟩
      dsimp only
      simp only [dpL] at hd'
      have h1 := jbb h.2.1 hi.2.1
      have h2 := jb6 (n := b) (t := t) h.2.2.1 hi.2.2.1 hb (by omega)
      have h4 := jiO (n := e) (t := t) h.2.2.2.1 hi.2.2.2.1 (by omega)
      simp only [List.length_append, List.length_cons, List.length_nil, jaK]
      by_cases e13 : e.op = 13
      ·rw [if_pos e13]; simp only [List.length_cons]; omega
      ·rw [if_neg e13]
       have h3 := jb6 (n := e) (t := t) h.2.2.2.1 hi.2.2.2.1 (he.resolve_right e13) (by omega)
       omega
   rw [if_neg h13]
   by_cases h14 : op = 14
   ·subst h14
    rw [if_pos rfl]
    match l, h, hi, hd' with
    | [], _, _, _ => simp; omega
    | [_], _, _, _ => simp; omega
    | c :: b :: r, h, hi, hd' =>
      have hb : b.op = 5 := by
       obtain ⟨_, c', b', e, _, _, _, h5⟩ := ok14 h
       cases e; exact h5
      dsimp only
      simp only [dpL] at hd'
      have h1 := jbb h.2.1 hi.2.1
      have h2 := jb6 (n := b) (t := t) h.2.2.1 hi.2.2.1 hb (by omega)
      simp only [List.length_append, List.length_cons, List.length_nil, jaK]; omega
   rw [if_neg h14]
   by_cases h15 : op = 15
   ·subst h15
    rw [if_pos rfl]
    match l, h, hi, hd' with
    | [], _, _, _ => simp; omega
    | [_], _, _, _ => simp; omega
    | c :: b :: r, h, hi, hd' =>
      have hb : b.op = 5 := by
       obtain ⟨_, c', b', e, _, _, _, h5⟩ := ok15 h
       cases e; exact h5
      dsimp only
      simp only [dpL] at hd'
      have h1 := jbb h.2.1 hi.2.1
      have h2 := jb6 (n := b) (t := t) h.2.2.1 hi.2.2.1 hb (by omega)
      simp only [List.length_append, List.length_cons, List.length_nil, jaK]; omega
   rw [if_neg h15]
   have := jmo h hi
   rw [hc] at this
   simp only [List.length_append, List.length_cons, List.length_nil]; omega
theorem jb6 : ∀ {n : Nd} {t : Nat}, okN n → jcM n → n.op = 5 → t + dpN n ≤ 40 → (jcG t n).length + 42 ≤ 256 * cnt n
 | .nil, _, h, _, _, _ => h.elim
 | .mk op tx nm l a, t, h, hi, h5, hd => by
   have hd' : t + 1 + dpL l ≤ 40 := by have h5 : op = 5 := h5; simp only [dpN] at hd; rw [if_pos h5] at hd; omega
   have := jft (ns := l) (t := t + 1) h.2 hi.2 hd'
   unfold jcG
   simp only [List.length_append, List.length_cons, List.length_nil, cnt, ja9, List.length_replicate]; omega
theorem jft : ∀ {ns : List Nd} {t : Nat}, okL ns → jl5 ns → t + dpL ns ≤ 40 → (jfs t ns).length ≤ 256 * jaK ns
 | [], _, _, _, _ => by simp [jfs]
 | n :: ns, t, h, hi, hd => by
   simp only [dpL] at hd
   have h1 := jiO (n := n) (t := t) h.1 hi.1 (by omega)
   have h2 := jft (ns := ns) (t := t) h.2 hi.2 (by omega)
   simp only [jfs, List.length_append, List.length_cons, ja9, List.length_replicate, jaK]; omega
end
theorem jiT {n : Nd} (h : okN n) : (jaS n).length ≤ 256 * cnt n := by
 obtain ⟨op, tx, nm, l, a, rfl⟩ := h.op
 have ht := h.1.tlen
 have hp := jc9 (f := Nd.tx) (g := cnt) (l := l) (fun n hn => by have := (jaM h.2 n hn).tlen; have := jbQ (jaM h.2 n hn); omega) true
 rw [jca] at hp
 unfold jaS jb1
 simp only [cnt]
 cases l.isEmpty
 ·rw [if_neg (by decide)]; simp only [List.length_append, List.length_cons]; omega
 ·rw [if_pos rfl]; simp
theorem jev {f : Nd → Txt} : ∀ {l : List Nd}, (∀ n ∈ l, (f n).length ≤ 256 * cnt n) → (l.flatMap f).length ≤ 256 * jaK l
 | [], _ => by simp
 | n :: ns, h => by
   have h1 := h n (by simp)
   have h2 := jev (l := ns) fun m hm => h m (by simp [hm])
   simp only [List.flatMap_cons, List.length_append, jaK]; omega
theorem jgv {n : Nd} (h : okN n) (hi : jcM n) (ho : n.op = 2 ∨ n.op = 4) (hd : dpN n ≤ 20) : (jaT n).length ≤ 256 * cnt n := by
 obtain ⟨op, tx, nm, l, a, rfl⟩ := h.op
 have ht := h.1.tlen
 rcases ho with e | e
 ·have e : op = 2 := e
  subst e
  obtain ⟨_, c1, c2, c3, c4, b, rfl, hc, _, hb, h5⟩ := ok2 h
  have h1 := jev (f := jaS) (l := [c1, c2, c3, c4]) fun n hn => jiT (hc n hn).1
  have h2 := jb6 (n := b) (t := 0) hb hi.2.2.2.2.2.1 h5 (by simp only [dpN, dpL] at hd; omega)
  rw [jaT, if_neg (by decide)]
  simp only [List.length_append, List.length_cons, List.length_nil, List.take_succ_cons, List.take_zero, cnt, jaK, List.getLastD_cons, List.getLastD_nil] at h1 h2 ⊢
  omega
 ·have e : op = 4 := e
  subst e
  obtain ⟨_, c, b, rfl, hc, _, _, hb, h5⟩ := ok4 h
  obtain ⟨op', tx', nm', l', a', rfl⟩ := hc.op
  have hp := jc9 (f := Nd.tx) (g := cnt) (l := l') (fun n hn => by have := (jaM hc.2 n hn).tlen; have := jbQ (jaM hc.2 n hn); omega) true
  rw [jca] at hp
  have h2 := jb6 (n := b) (t := 0) hb hi.2.2.1 h5 (by simp only [dpN, dpL] at hd; omega)
  rw [jaT, if_pos rfl]
  simp only [jb1, Nd.ks, List.length_append, List.length_cons, List.length_nil, cnt, jaK, List.getLastD_cons, List.getLastD_nil, List.headD_cons] at h2 ⊢
  omega
end
end Go.Proofs.YtfpmgpblhhcpgaaGreatDoor.Hc.Syn
namespace Go.Proofs.YtfpmgpblhhcpgaaGreatDoor
set_option maxRecDepth 100000
section
open Hc Hc.Lex Hc.Syn Go.Shelf Go.RowKit
abbrev rhoB : Ren := Tryz.lays165_ren
theorem jnr : Lays.n240 Tryz.prog rhoB := { Tryz.lays165 with }
theorem lies84 : ∀ j : Nat, j = 3 / Tryz.prog.cellsOf 84 → liesAt Tryz.prog Tryz.prog.depth 84 j 0 82 1 = true := by
 intro j hj; subst hj; kernel_rfl
set_option maxHeartbeats 1000000 in
theorem jmD (b : Nat) (w : World) (h0 : w.cell? ⟨b, 0, none⟩ = some (.pointer none)) (hsh : w.shape? b = some (84, 3)) (hfz : w.frozen? ⟨b, 0, none⟩ = false) :
 Calls Tryz.prog 95 #[.pointer (some ⟨b, 0, none⟩)] w fun e w' => e = .returned (.tuple #[]) ∧ w' = w.setCell ⟨b, 0, none⟩ (.pointer (some ⟨b, 0, none⟩)) := by
 obtain ⟨j, hj, hjs⟩ := Option.map_eq_some_iff.1 Tryz.Builder_Extra_165.toX72.sizeBuilder
 have L := jnr
 have mixed := L.mixed
 have t72 := L.t72; have a72 := L.a72; have z72 := L.z72; have v72 := L.v72; have u72 := run_underlying L.t72
 have t70 := L.t70; have a70 := L.a70; have z70 := L.z70; have v70 := L.v70; have u70 := run_underlying L.t70
 have t9 := L.t9; have a9 := L.a9; have z9 := L.z9; have v9 := L.v9; have u9 := run_underlying L.t9
 have t4 := L.t4; have a4 := L.a4; have z4 := L.z4; have v4 := L.v4; have u4 := run_underlying L.t4
 have t164 := L.t164; have a164 := L.a164; have z164 := L.z164; have v164 := L.v164; have u164 := run_underlying L.t164
 show Calls Tryz.prog (rhoB.f 240) _ w _
 go_enter L.f240, Body.n240_ntmps rhoB
 go_wp2
 rw [Lib.run_to_unsafe w ⟨b, 0, none⟩ L.t70 L.t164 hj (by rw [hjs]; decide) hsh (by show 0 < 3; decide)]
 simp only [Result.andThen]
 rw [Oper.upon_value]
 go_wp2
 rw [run_callFunc_extern L.f276 (by kernel_rfl) (by kernel_rfl) (by kernel_rfl) (e := Extern.AbiNoEscape.same) (by kernel_rfl)]
 rw [Lib.run_noEscape]
 simp only [Result.andThen]
 rw [Oper.upon_value]
 go_wp2
 rw [Lib.run_from_unsafe w ⟨b, 0, none⟩ L.t164 L.t70 hj hsh (lies84 _ rfl)]
 simp only [Result.andThen]
 rw [Oper.upon_value]
 go_wp2
 go_end0
 exact ⟨rfl, rfl⟩
theorem cc_used (b : Nat) (w : World) (h0 : w.cell? ⟨b, 0, none⟩ = some (.pointer (some ⟨b, 0, none⟩))) :
 Calls Tryz.prog 95 #[.pointer (some ⟨b, 0, none⟩)] w fun e w' => e = .returned (.tuple #[]) ∧ w' = w :=
 Any.Builder_copyCheck_used jnr Tryz.Builder_Extra_165.toX72 b w h0
def PowH (H : jaa) : Prop := ∃ t fr, H[5]? = some (.cells (Lib.pow10Tab.map fun z => Value.int .u64 z).toArray t fr)
theorem PowH.nb {H H' : jaa} {M : Nat → Prop} (h : PowH H) (hU : Upd M H H') (hM : ¬ M 5) : PowH H' := by
 obtain ⟨t, fr, h⟩ := h
 exact ⟨t, fr, hU.keep h hM⟩
structure W0 (lo : Nat) (H : jaa) (b : Nat) (pre : Txt) (tabs : Nat) : Prop where
 row : ∃ p L, Row H b TQam [p, slV L, .int .i64 (tabs : Nat)] ∧ (p = .pointer none ∨ p = .pointer (some (adr b))) ∧ Vec H TQag L (u8s pre) ∧ (∀ c, L.a = some (adr c) → lo ≤ c ∧ c ≠ b) ∧ (pre = [] → L = ⟨none, 0, 0⟩)
 lo : lo ≤ b
variable {H : jaa} {lo b tabs : Nat} {pre : Txt}
theorem W0.lt (h : W0 lo H b pre tabs) : b < H.size := by obtain ⟨_, _, q, _⟩ := h.row; exact q.lt
theorem W0.ext {H' : jaa} (h : W0 lo H b pre tabs) (hE : Ext H H') : W0 lo H' b pre tabs := by
 obtain ⟨p, L, h1, h2, h3, h4⟩ := h.row
 exact ⟨⟨p, L, hE.row h1 fun h => h, h2, h3.upd hE fun _ _ h => h, h4⟩, h.lo⟩
theorem jfc : Cb Pg fQct := ⟨_, Tryz.func95, by kernel_rfl, by kernel_rfl⟩
theorem jh2 : Cb Pg fQce := ⟨_, Tryz.func34, by kernel_rfl, by kernel_rfl⟩
theorem jf9 (h : W0 lo H b pre tabs) {k : Unit → jaa → Prop} (hk : ∀ H' L, Upd (· = b) H H' → Row H' b TQam [.pointer (some (adr b)), slV L, .int .i64 (tabs : Nat)] → Vec H' TQag L (u8s pre) → (∀ c, L.a = some (adr c) → lo ≤ c ∧ c ≠ b) → (pre = [] → L = ⟨none, 0, 0⟩) → k () H') :
 CallT Pg fQct [.pointer (some (adr b))] (.tup []) H k := by
 obtain ⟨p, L, h1, h2, h3, h4, h5⟩ := h.row
 rcases h2 with rfl | rfl
 ·refine ja6 jfc (fun w hw => jmD b w ?_ ?_ ?_) fun w e w' hw ⟨g1, g2⟩ => ?_
  ·rw [cell?_eq, hw]; exact (h1.cell 0).trans rfl
  ·rw [shape?_eq, hw]; unfold jck; rw [show H[b]? = _ from h1]; rfl
  ·rw [frozen?_eq, hw]; exact jbr h1
  ·subst g2
   refine ⟨.setCell _ _ _, (), g1, ?_⟩
   rw [jia, hw]
   have hU := Upd.set H ⟨b, 0, none⟩ (.pointer (some ⟨b, 0, none⟩))
   exact hk _ L hU (jc4 h1 _) (h3.upd hU fun c hc e => (h4 c hc).2 e) h4 h5
 ·refine ja6 jfc (fun w hw => cc_used b w ?_) fun w e w' hw ⟨g1, g2⟩ => ?_
  ·rw [cell?_eq, hw]; exact (h1.cell 0).trans rfl
  ·subst g2
   exact ⟨.refl _, (), g1, by rw [hw]; exact hk H L (.refl _ _) h1 h3 h4 h5⟩
theorem jni : Lays.n169 Tryz.prog Tryz.lays169_ren := Tryz.lays169
set_option maxHeartbeats 2000000 in
theorem str_nil (b : Nat) (w : World) (c0 : w.drew.cell? ⟨b, 1, none⟩ = some (.slice none 0 0)) :
 Calls Tryz.prog 34 #[.pointer (some ⟨b, 0, none⟩)] w fun e w' => e = .returned (.string ⟨#[]⟩) ∧ w' = w.drew := by
 have L := jni
 have X := Tryz.Builder_Extra_169
 have hUS := Any.unsafeString_none L X
 have c1 := c0
 have hSD : (Builtin.unsafeSliceData_ #[(Tryz.lays169_ren.t 37)] (Tryz.lays169_ren.t 127) #[.slice none 0 0]).run Tryz.prog w.drew = .ok (.pointer none) w.drew := rfl
 have mixed := L.mixed
 have t72 := L.t72; have a72 := L.a72; have z72 := L.z72; have v72 := L.v72; have u72 := run_underlying L.t72
 have t70 := L.t70; have a70 := L.a70; have z70 := L.z70; have v70 := L.v70; have u70 := run_underlying L.t70
 have t37 := L.t37; have a37 := L.a37; have z37 := L.z37; have v37 := L.v37; have u37 := run_underlying L.t37
 have t127 := L.t127; have a127 := L.a127; have z127 := L.z127; have v127 := L.v127; have u127 := run_underlying L.t127
 have t3 := L.t3; have a3 := L.a3; have z3 := L.z3; have v3 := L.v3; have u3 := run_underlying L.t3
 have t9 := L.t9; have a9 := L.a9; have z9 := L.z9; have v9 := L.v9; have u9 := run_underlying L.t9
 have t5 := X.t5; have a5 := X.a5; have z5 := X.z5; have v5 := X.v5; have u5 := run_underlying X.t5
 show Calls Tryz.prog (Tryz.lays169_ren.f 169) _ w _
 go_enter L.f169, Body.n169_ntmps Tryz.lays169_ren
 go_wp2
 go_region_o
 all_goals (go_wp2; go_ret; exact ⟨rfl, rfl⟩)
set_option maxHeartbeats 2000000 in
theorem jmQ (b g n cap : Nat) (l : List UInt8) (hn : n = l.length) (h0 : l ≠ []) (hcap : n ≤ cap) (hmax : n ≤ 1152921504606846976) (w : World) (c0 : w.drew.cell? ⟨b, 1, none⟩ = some (.slice (some ⟨g, 0, none⟩) n cap)) (m : Nat) (hsh : w.drew.shape? g = some (5, m)) (hm : n ≤ m) (hc : ∀ (j : Nat) x, l[j]? = some x → w.drew.cell? ⟨g, j, none⟩ = some (.int .u8 x.toNat)) :
 Calls Tryz.prog 34 #[.pointer (some ⟨b, 0, none⟩)] w fun e w' => e = .returned (.string ⟨l.toArray⟩) ∧ w' = w.drew.freeze ⟨g, 0, none⟩ l.length := by
 have L := jni
 have X := Tryz.Builder_Extra_169
 subst hn
 have c1 := c0
 have hcap0 : cap ≠ 0 := by
  have : l.length ≠ 0 := by simpa using h0
  omega
 have hSD : (Builtin.unsafeSliceData_ #[(Tryz.lays169_ren.t 37)] (Tryz.lays169_ren.t 127) #[.slice (some ⟨g, 0, none⟩) l.length cap]).run Tryz.prog w.drew = .ok (.pointer (some ⟨g, 0, none⟩)) w.drew :=
  Lib.run_unsafeSliceData_row _ _ _ _ _ _ hcap0
 have hUS : (Builtin.unsafeString_ #[(Tryz.lays169_ren.t 127), (Tryz.lays169_ren.t 3)] (Tryz.lays169_ren.t 9) #[.pointer (some ⟨g, 0, none⟩), .int .i64 l.length]).run Tryz.prog w.drew = .ok (.string ⟨l.toArray⟩) (w.drew.freeze ⟨g, 0, none⟩ l.length) := by
  refine Lib.run_unsafeString_row w.drew (Tryz.lays169_ren.t 127) (Tryz.lays169_ren.t 3) (Tryz.lays169_ren.t 9) (Tryz.lays169_ren.t 5) L.t127 X.cellsByte g m hsh l h0 hm (by omega) ?_
  intro j x hx
  rw [mk_add, Nat.zero_add]
  exact hc j x hx
 have mixed := L.mixed
 have t72 := L.t72; have a72 := L.a72; have z72 := L.z72; have v72 := L.v72; have u72 := run_underlying L.t72
 have t70 := L.t70; have a70 := L.a70; have z70 := L.z70; have v70 := L.v70; have u70 := run_underlying L.t70
 have t37 := L.t37; have a37 := L.a37; have z37 := L.z37; have v37 := L.v37; have u37 := run_underlying L.t37
 have t127 := L.t127; have a127 := L.a127; have z127 := L.z127; have v127 := L.v127; have u127 := run_underlying L.t127
 have t3 := L.t3; have a3 := L.a3; have z3 := L.z3; have v3 := L.v3; have u3 := run_underlying L.t3
 have t9 := L.t9; have a9 := L.a9; have z9 := L.z9; have v9 := L.v9; have u9 := run_underlying L.t9
 have t5 := X.t5; have a5 := X.a5; have z5 := X.z5; have v5 := X.v5; have u5 := run_underlying X.t5
 show Calls Tryz.prog (Tryz.lays169_ren.f 169) _ w _
 go_enter L.f169, Body.n169_ntmps Tryz.lays169_ren
 go_wp2
 go_region_o
 all_goals (go_wp2; go_ret; exact ⟨rfl, rfl⟩)
theorem jko {T : TypeId} {bytes : Nat} {z : Value} {s : Sl} {t : Txt} {H : jaa} {k : Sl → jaa → Prop} {vs : List Value} (hv : Vec H T s vs) (hb : bytes ≠ 0) (hcap : (vs.length + t.length + (vs.length + t.length) / 4 + 1000) * bytes ≤ 2 ^ 48)
 (hk : ∀ s' H', Vec H' T s' (vs ++ u8s t) → Upd (fun b => s.a = some (adr b)) H H' → (s'.a = s.a ∨ s'.a = some (adr H.size)) → (t = [] → vs = [] → s' = ⟨none, 0, s.cap⟩ ∨ s.a ≠ none) → k s' H') :
 AppStr T bytes #[z] s ⟨⟨t⟩⟩ H k := by
 have hlen := hv.len
 have hsz : (⟨⟨t⟩⟩ : ByteArray).size = t.length := rfl
 have hbv : jem ⟨⟨t⟩⟩ = ⟨u8s t⟩ := by unfold jem; apply Array.ext'; simp [u8s]
 unfold AppStr
 rw [hsz, hbv]
 refine ⟨fun hfit => ?_, fun hgrow => ?_⟩
 ·rcases hv.own with ⟨h1, h2, h3⟩ | ⟨b, sp, h1, h2, h3⟩
  ·rw [h1]
   have ht : t = [] := List.eq_nil_of_length_eq_zero (by omega)
   subst ht h3
   exact hk _ H ⟨by simpa using hlen, .inl ⟨rfl, by simpa using h2, rfl⟩, hfit⟩ (.refl _ _) (.inl h1.symm) fun _ _ => .inl (by simp at hlen; simp [hlen])
  ·rw [h1]
   dsimp only
   rw [adr_add]
   refine jge h2 (by simp [u8s]; omega) (jlV t) fun H' hU hs hr => ?_
   refine hk _ H' ⟨by simp [u8s]; omega, .inr ⟨b, sp.drop t.length, rfl, ?_, by simp [u8s]; omega⟩, hfit⟩ (hU.mono fun b' _ e => ?_) (.inl h1.symm) fun _ _ => .inr (by rw [h1]; simp)
   ·rw [hlen, Nat.add_zero, List.take_left, List.drop_append, List.drop_eq_nil_of_le (by simp [u8s]), List.nil_append] at hr
    rw [show vs.length + (u8s t).length - vs.length = t.length by simp [u8s]] at hr
    exact hr
   ·obtain ⟨rfl, _⟩ := e; exact h1
 ·refine ⟨hb, ?_, vs, hv.rd, fun _ => by omega, fun c hc => ?_⟩
  ·have := jds (s.len + t.length) s.cap hgrow
   refine Nat.le_trans (Nat.mul_le_mul_right bytes this) ?_
   rw [hlen]; exact hcap
  ·have e : (⟨vs⟩ ++ ⟨u8s t⟩ ++ jbq #[z] ((c - (s.len + t.length)) * (#[z] : Array Value).size) : Array Value) = ⟨vs ++ u8s t ++ List.replicate (c - (s.len + t.length)) z⟩ := by
    rw [jeN]; apply Array.ext'; simp
   rw [e]
   refine hk _ _ ⟨by simp [u8s]; omega, .inr ⟨H.size, List.replicate (c - (s.len + t.length)) z, rfl, jaJ _ _, by simp [u8s]; omega⟩, hc⟩ (Upd.push _ _ _) (.inr rfl) fun ht hv0 => ?_
   subst ht hv0
   have := hv.lc
   simp at hlen hgrow
   omega
theorem jkZ (a c : Txt) : u8s (a ++ c) = u8s a ++ u8s c := by simp [u8s]
theorem jgk (h : W0 lo H b pre tabs) (t : Txt) (hne : pre ++ t ≠ []) (hlo : lo ≤ H.size) (hlen : pre.length + t.length ≤ 2 ^ 40) {k : Int × Value → jaa → Prop} (hk : ∀ d H', Upd (lo ≤ ·) H H' → W0 lo H' b (pre ++ t) tabs → k d H') :
 CallT Pg jfv [.pointer (some (adr b)), .string ⟨⟨t⟩⟩] (.tup [(.c (.int .i64)), (.c .raw)]) H k := by
 refine cQcb _ _ ?_
 unfold vQcb
 have hlb := h.lo
 refine jf9 h fun H1 L hU1 r1 v1 o1 n1 => ?_
 simp only [NilCk_some, adr_add]
 have hs1 := hU1.size
 refine jam ((r1.cell 1).trans rfl) (jko v1 (by decide) (by simp [u8s]; omega) fun L2 H2 v2 hU2 ha2 _ => ?_)
 have hbL : L.a ≠ some (adr b) := fun e => (o1 b e).2 rfl
 have r2 := hU2.row r1 hbL
 refine jay r2 (by simp) fun H3 hU3 _ hr3 => ?_
 have hbl : ∀ c, L2.a = some (adr c) → lo ≤ c ∧ c ≠ b := fun c hc => by
  rcases ha2 with e | e
  ·exact o1 c (e.symm.trans hc)
  ·rw [hc] at e
   have : c = H1.size := by simpa [adr] using e
   have := r1.lt
   omega
 refine hk _ H3 (((hU1.mono fun x _ e => by omega).trans (hU2.mono fun x _ e => (o1 x e).1) fun _ _ e => e).trans hU3 fun x _ e => by omega) ⟨⟨_, L2, hr3, .inr rfl, ?_, hbl, fun e => absurd e hne⟩, h.lo⟩
 rw [jkZ]
 exact v2.upd hU3 fun c hc e => (hbl c hc).2 e
theorem jim (h : W0 lo H b pre tabs) (c : UInt8) {n : Int} (hn : n = (c.toNat : Int)) (hlo : lo ≤ H.size) (hlen : pre.length + 1 ≤ 2 ^ 40) {k : Value → jaa → Prop} (hk : ∀ d H', Upd (lo ≤ ·) H H' → W0 lo H' b (pre ++ [c]) tabs → k d H') :
 CallT Pg jkn [.pointer (some (adr b)), .int .u8 n] (.one (.c .raw)) H k := by
 subst hn
 refine cQcd _ _ ?_
 unfold vQcd
 have hlb := h.lo
 refine jf9 h fun H1 L hU1 r1 v1 o1 n1 => ?_
 simp only [NilCk_some, adr_add]
 have hs1 := hU1.size
 refine jam ((r1.cell 1).trans rfl) (jaq (vs := u8s [c]) fun b2 H2 hb2 hE2 _ hr2 => ?_)
 have v2 := v1.upd hE2 fun _ _ h => h
 have r2 := hE2.row r1 fun h => h
 have hs2 := hE2.size
 refine App_vec (ws := u8s [c]) v2 hr2.rd_all rfl (jlV _) (by decide) (by simp [u8s]; omega) fun L3 H3 v3 hU3 ha3 _ => ?_
 have hbL : ¬ (L.a = some (adr b) ∧ L.len + 1 ≤ L.cap ∧ u8s [c] ≠ []) := fun e => (o1 b e.1).2 rfl
 have r3 := hU3.row r2 hbL
 refine jay r3 (by simp) fun H4 hU4 _ hr4 => ?_
 have hbl : ∀ c, L3.a = some (adr c) → lo ≤ c ∧ c ≠ b := fun c hc => by
  rcases ha3 with e | e
  ·exact o1 c (e.symm.trans hc)
  ·rw [hc] at e
   have : c = H2.size := by simpa [adr] using e
   have := r1.lt
   omega
 refine hk _ H4 ((((hU1.mono fun x _ e => by omega).trans hE2 fun _ _ e => e.elim).trans (hU3.mono fun x _ e => (o1 x e.1).1) fun _ _ e => e).trans hU4 fun x _ e => by omega) ⟨⟨_, L3, hr4, .inr rfl, ?_, hbl, fun e => by simp at e⟩, h.lo⟩
 rw [jkZ]
 exact v3.upd hU4 fun c hc e => (hbl c hc).2 e
theorem jlK (h : W0 lo H b pre tabs) (hlen : pre.length ≤ 2 ^ 40) {k : ByteArray → jaa → Prop} (hk : ∀ H', Upd (lo ≤ ·) H H' → k ⟨⟨pre⟩⟩ H') :
 CallT Pg fQce [.pointer (some (adr b))] (.one (.c .str)) H k := by
 obtain ⟨p, L, h1, h2, h3, h4, h5⟩ := h.row
 have hl3 := h3.len
 by_cases e0 : pre = []
 ·have eL := h5 e0
  subst e0 eL
  refine ja6 jh2 (fun w hw => str_nil b w ?_) fun w e w' hw ⟨g1, g2⟩ => ?_
  ·show jar w.heap _ = _; rw [hw]; exact (h1.cell 1).trans rfl
  ·subst g2
   exact ⟨⟨rfl, rfl, rfl⟩, ⟨⟨[]⟩⟩, g1, hk _ (by show Upd _ H w.heap; rw [hw]; exact .refl _ _)⟩
 ·rcases h3.own with ⟨_, _, hn⟩ | ⟨g, sp, hg1, hg2, hg3⟩
  ·exact absurd (List.map_eq_nil_iff.1 hn) e0
  have hg := h4 g hg1
  obtain ⟨La, Ll, Lc⟩ := L
  dsimp only at hg1 hg3 hl3 h1
  subst hg1
  have hcap := h3.lc
  dsimp only at hcap
  have hl : Ll = pre.length := by rw [hl3]; simp [u8s]
  refine ja6 jh2 (fun w hw => jmQ b g Ll Lc pre hl e0 hcap (by omega) w ?_ (u8s pre ++ sp).length ?_ (by rw [List.length_append, List.length_map]; omega) ?_) fun w e w' hw ⟨g1, g2⟩ => ?_
  ·show jar w.heap _ = _; rw [hw]; exact (h1.cell 1).trans rfl
  ·show jck w.heap _ = _; rw [hw]; unfold jck; rw [show H[g]? = _ from hg2]; rfl
  ·intro j x hx
   show jar w.heap _ = _
   rw [hw, hg2.cell]
   have hj : j < pre.length := (List.getElem?_eq_some_iff.1 hx).1
   rw [List.getElem?_append_left (by simpa [u8s] using hj)]
   simp [u8s, hx]
  ·subst g2
   refine ⟨(⟨rfl, rfl, rfl⟩ : SameEnv w w.drew).trans (.freeze _ _ _), ⟨⟨pre⟩⟩, g1, hk _ ?_⟩
   unfold World.freeze
   split
   ·show Upd _ H w.heap; rw [hw]; exact .refl _ _
   ·refine ⟨by show H.size ≤ (w.heap.modify _ _).size; rw [hw]; simp, fun x hx hnx => ?_⟩
    show (w.heap.modify _ _)[x]? = _
    rw [hw, Array.getElem?_modify, if_neg]
    intro e; exact hnx (by have : g = x := e; omega)
structure WR (lo : Nat) (H : jaa) (b : Nat) (pre : Txt) (tabs : Nat) : Prop where
 w : W0 lo H b pre tabs
 l8 : 8 ≤ lo
 los : lo ≤ H.size
 pow : PowH H
theorem WR.upd {H' : jaa} (h : WR lo H b pre tabs) (hU : Upd (lo ≤ ·) H H') {pre' : Txt} {tabs' : Nat} (hw : W0 lo H' b pre' tabs') : WR lo H' b pre' tabs' :=
 ⟨hw, h.l8, Nat.le_trans h.los hU.size, h.pow.nb hU (by have := h.l8; show ¬ lo ≤ 5; omega)⟩
theorem jgG (h : WR lo H b pre tabs) (t : Txt) (hne : pre ++ t ≠ []) (hlen : pre.length + t.length ≤ 2 ^ 40) {k : Int × Value → jaa → Prop} (hk : ∀ d H', Upd (lo ≤ ·) H H' → WR lo H' b (pre ++ t) tabs → k d H') :
 CallT Pg jfv [.pointer (some (adr b)), .string ⟨⟨t⟩⟩] (.tup [(.c (.int .i64)), (.c .raw)]) H k :=
 jgk h.w t hne h.los hlen fun d H' hU hw => hk d H' hU (h.upd hU hw)
theorem jnj (h : WR lo H b pre tabs) (c : UInt8) {n : Int} (hn : n = (c.toNat : Int)) (hlen : pre.length + 1 ≤ 2 ^ 40) {k : Value → jaa → Prop} (hk : ∀ d H', Upd (lo ≤ ·) H H' → WR lo H' b (pre ++ [c]) tabs → k d H') :
 CallT Pg jkn [.pointer (some (adr b)), .int .u8 n] (.one (.c .raw)) H k :=
 jim h.w c hn h.los hlen fun d H' hU hw => hk d H' hU (h.upd hU hw)
theorem jij : Cb Pg fQc2 := ⟨_, Tryz.func177, by kernel_rfl, by kernel_rfl⟩
theorem jlc : Cb Pg fQcs := ⟨_, Tryz.func94, by kernel_rfl, by kernel_rfl⟩
theorem g5 : Tryz.prog.globalNamed "internal/strconv.uint64pow10" = some 5 := by kernel_rfl
theorem ji4 (hp : PowH H) {n : Int} (h0 : 0 ≤ n) (h1 : n ≤ 9223372036854775807) {k : ByteArray → jaa → Prop} (hk : ∀ H', Ext H H' → k ⟨⟨jcH n⟩⟩ H') :
 CallT Pg fQc2 [.int .i64 n, .int .i64 10] (.one (.c .str)) H k := by
 refine ja6 jij (fun w hw => Tryz.strconv_FormatInt_10 n (by omega) h1 w ?_) fun w e w' hw ⟨g1, kk, os, g2⟩ => ?_
 ·obtain ⟨t, fr, h⟩ := hp
  unfold Lib.TabIs World.var?
  rw [g5]
  show (match w.heap[5]? with | some (.cells cs _ _) => some cs | _ => none) = _
  rw [hw, h]
 ·subst g2
  have e1 : Lib.itoa n = jcH n := by unfold Lib.itoa jcH; rw [if_neg (by omega)]
  rw [e1] at g1
  refine ⟨⟨rfl, rfl, rfl⟩, ⟨⟨jcH n⟩⟩, g1, hk _ ?_⟩
  show Ext H ((w.drewN kk).heap ++ os)
  rw [World.heap_drewN, hw]
  exact ⟨by simp, fun x hx _ => by rw [Array.getElem?_append_left hx]⟩
theorem jjz : ∀ (b : Bool) (xs : List Txt), jbe b xs = (if b || xs.isEmpty then [] else [44, 32]) ++ Lib.join xs [44, 32]
 | b, [] => by simp [jbe, Lib.join]
 | b, [x] => by cases b <;> simp [jbe, Lib.join]
 | b, x :: y :: r => by
   have := jjz false (y :: r)
   rw [jbe, this]
   cases b <;> simp [Lib.join, List.intercalate, List.intersperse]
theorem s_Join {L : Sl} {xs : List Txt} (hv : Vec H jcC L (xs.map jbG)) (hn : xs.length ≤ 2 ^ 40) (hlen : (jbe true xs).length ≤ 2 ^ 40) {k : ByteArray → jaa → Prop} (hk : ∀ H', Ext H H' → k ⟨⟨jbe true xs⟩⟩ H') :
 CallT Pg fQcs [.slice L.a L.len L.cap, .string ⟨⟨[44, 32]⟩⟩] (.one (.c .str)) H k := by
 have hl := hv.len
 have hj : jbe true xs = Lib.join xs [44, 32] := by rw [jjz]; simp
 rcases hv.own with ⟨h1, h2, h3⟩ | ⟨bk, sp, h1, h2, h3⟩
 ·have e : xs = [] := List.map_eq_nil_iff.1 h3
  subst e
  have hl0 : L.len = 0 := by simpa using hl
  rw [hl0]
  exact ja6 jlc (fun w hw => Tryz.strings_Join_none L.a L.cap _ w) fun w e w' hw ⟨g1, g2⟩ => by subst g2; exact ⟨.refl _, ⟨⟨[]⟩⟩, g1, by rw [hw]; exact hk _ (.refl _ _)⟩
 ·have hl' : L.len = xs.length := by simpa using hl
  rw [h1, hl']
  have em : (xs.map fun t => (⟨⟨t⟩⟩ : ByteArray)).map (fun x => x.data.toList) = xs := by
   rw [List.map_map]
   exact (List.map_congr_left fun _ _ => rfl).trans (List.map_id xs)
  have hcap := hv.lc
  refine ja6 jlc (fun w hw => ?_) ?_ (post := fun w e w' => e = .returned (.string ⟨(Lib.join xs [44, 32]).toArray⟩) ∧ Below w.heap.size w w')
  ·have := Tryz.strings_Join bk 0 L.cap (xs.map fun t => (⟨⟨t⟩⟩ : ByteArray)) ⟨⟨[44, 32]⟩⟩ w ?_ ?_ (by simp; omega) (by simp; omega) ?_
   ·rw [em, List.length_map] at this; exact this
   ·intro j x hx
    rw [List.getElem?_map] at hx
    obtain ⟨t, ht, rfl⟩ := Option.map_eq_some_iff.1 hx
    show jar w.heap _ = _
    rw [hw, Nat.zero_add, h2.cell]
    have hj : j < xs.length := (List.getElem?_eq_some_iff.1 ht).1
    rw [List.getElem?_append_left (by simpa using hj)]
    simp [ht]
   ·rw [hw]; exact h2.lt
   ·rw [em]; show (Lib.join xs [44, 32]).length ≤ _; rw [← hj]; omega
  ·rintro w e w' hw ⟨g1, g2⟩
   refine ⟨⟨g2.tape, g2.os, g2.output⟩, ⟨⟨jbe true xs⟩⟩, by rw [hj]; exact g1, hk _ ?_⟩
   rw [← hw]
   exact ⟨g2.size, fun x hx _ => g2.block x hx⟩
end
section
open Hc Hc.Lex Hc.Syn
variable {H : jaa} {lo b tabs : Nat} {pre : Txt}
structure LN (lo : Nat) (H : jaa) (n : Nd) (q : Option Nat) : Prop where
 ex : ∃ fp, TrR jdY jbd H n q fp ∧ ∀ x ∈ fp, x < lo
theorem LN.upd {H' : jaa} {n : Nd} {q : Option Nat} (h : LN lo H n q) (hU : Upd (lo ≤ ·) H H') : LN lo H' n q := by
 obtain ⟨fp, h1, h2⟩ := h.ex
 exact ⟨fp, h1.upd hU fun x hx => by have := h2 x hx; omega, h2⟩
structure NA (lo : Nat) (H : jaa) (op : Int) (tx : Txt) (nm : Int) (l : List Nd) (c : Nat) (L : Sl) : Prop where
 lt : c < lo
 c0 : jar H ⟨c, 0, none⟩ = some (.int .i64 op)
 c1 : jar H ⟨c, 1, none⟩ = some (jbG tx)
 c2 : jar H ⟨c, 2, none⟩ = some (.int .i64 nm)
 c3 : jar H ⟨c, 3, none⟩ = some (.slice L.a L.len L.cap)
 len : L.len = l.length
 cap : L.len ≤ L.cap
 ix : ∀ (i : Nat) n, l[i]? = some n → ∃ ad q, (∀ {k : Addr → Prop} {j : Int}, j = (i : Nat) → k ad → IxA 1 L j k) ∧ ad.block < lo ∧ jar H ad = some (jcy q) ∧ LN lo H n q
theorem NA.upd {H' : jaa} {op nm : Int} {tx : Txt} {l : List Nd} {c : Nat} {L : Sl} (h : NA lo H op tx nm l c L) (hU : Upd (lo ≤ ·) H H') : NA lo H' op tx nm l c L := by
 have hl := h.lt
 have k : ∀ {i : Nat} {v : Value}, jar H ⟨c, i, none⟩ = some v → jar H' ⟨c, i, none⟩ = some v := fun hc => hU.cell hc (by show ¬ lo ≤ c; omega)
 refine ⟨hl, k h.c0, k h.c1, k h.c2, k h.c3, h.len, h.cap, fun i n hi => ?_⟩
 obtain ⟨ad, q, h1, h2, h3, h4⟩ := h.ix i n hi
 exact ⟨ad, q, h1, h2, hU.cell h3 (by omega), h4.upd hU⟩
theorem TrL.get : ∀ {ns : List Nd} {qs : List (Option Nat)} {fp : List Nat} {TN TP : TypeId}, TrL TN TP H ns qs fp → ∀ (i : Nat) n, ns[i]? = some n → ∃ q f, qs[i]? = some q ∧ TrR TN TP H n q f ∧ ∀ x ∈ f, x ∈ fp
 | [], _, _, _, _, _, i, n, h => by simp at h
 | m :: ns, _, _, _, _, ⟨q, qs', f1, f2, rfl, rfl, h1, h2⟩, i, n, h => by
   cases i with
   | zero => simp at h; subst h; exact ⟨q, f1, rfl, h1, fun x hx => List.mem_append_left _ hx⟩
   | succ i =>
     obtain ⟨q', f, g1, g2, g3⟩ := TrL.get h2 i n (by simpa using h)
     exact ⟨q', f, by simpa using g1, g2, fun x hx => List.mem_append_right _ (g3 x hx)⟩
theorem LN.na {op nm a : Int} {tx : Txt} {l : List Nd} {q : Option Nat} (h : LN lo H (.mk op tx nm l a) q) : ∃ c L, q = some c ∧ NA lo H op tx nm l c L := by
 obtain ⟨fp, ⟨c, L, qs, fl, rfl, hr, hv, hl, rfl⟩, hfp⟩ := h.ex
 have hql := hl.len
 refine ⟨c, L, rfl, hfp c (by simp), (hr.cell 0).trans rfl, (hr.cell 1).trans rfl, (hr.cell 2).trans rfl, (hr.cell 3).trans rfl, by rw [hv.len, List.length_map, hql], hv.lc, fun i n hi => ?_⟩
 obtain ⟨q, f, g1, g2, g3⟩ := TrL.get hl i n hi
 have hi' : i < qs.length := (List.getElem?_eq_some_iff.1 g1).1
 obtain ⟨d, hd, hc⟩ := hv.cell (i := i) (by simpa using hi')
 have hlen := hv.len
 rw [List.length_map] at hlen
 refine ⟨⟨d, i, none⟩, q, fun {k j} hj hk => ?_, hfp d (by simp [jbl, hd]), ?_, f, g2, fun x hx => hfp x (by simp [g3 x hx])⟩
 ·subst hj
  exact IxA.mk hd (by omega) (by omega) (by rw [adr_add]; simpa using hk)
 ·rw [hc]; simp [g1]
theorem LN.some' {n : Nd} {q : Option Nat} (h : LN lo H n q) (hn : okN n) : ∃ op tx nm l a c L, n = .mk op tx nm l a ∧ q = some c ∧ NA lo H op tx nm l c L := by
 obtain ⟨op, tx, nm, l, a, rfl⟩ := hn.op
 obtain ⟨c, L, rfl, g⟩ := h.na
 exact ⟨op, tx, nm, l, a, c, L, rfl, rfl, g⟩
def Wx (lo b tabs : Nat) (f : FuncId) (args : List Value) (t : Txt) (H : jaa) : Prop :=
 ∀ {pre : Txt} {k : Unit → jaa → Prop}, WR lo H b pre tabs → pre ≠ [] → pre.length + t.length ≤ 2 ^ 40 → (∀ H', Upd (lo ≤ ·) H H' → WR lo H' b (pre ++ t) tabs → k () H') → CallT Pg f args (.tup []) H k
theorem jah {a c : Int} {X Y : Prop} (h : a = c) (hx : X) : Br (a == c) X Y := by subst h; rw [beq_self_eq_true]; exact hx
theorem jai {a c : Int} {X Y : Prop} (h : a ≠ c) (hy : Y) : Br (a == c) X Y := by rw [beq_eq_false_iff_ne.2 h]; exact hy
theorem Cat {x y : Txt} {k : ByteArray → Prop} (h : x.length + y.length ≤ 2 ^ 41) (hk : k ⟨⟨x ++ y⟩⟩) : jag ⟨⟨x⟩⟩ ⟨⟨y⟩⟩ k :=
 ⟨by show ((x.length + y.length : Nat) : Int) ≤ _; omega, by rw [jlH]; exact hk⟩
theorem jas {pre t : Txt} (h : pre ≠ []) : pre ++ t ≠ [] := by simp [h]
abbrev pN (q : Option Nat) : Value := .pointer (q.map adr)
theorem upL {H1 H2 : jaa} (h : Upd (lo ≤ ·) H H1) (h2 : Upd (lo ≤ ·) H1 H2) : Upd (lo ≤ ·) H H2 := h.trans h2 fun _ _ h => h
theorem upLE {H1 H2 : jaa} (h : Upd (lo ≤ ·) H H1) (h2 : Ext H1 H2) : Upd (lo ≤ ·) H H2 := h.trans h2 fun _ _ h => h.elim
theorem EL {H1 : jaa} (h : Ext H H1) : Upd (lo ≤ ·) H H1 := h.mono fun _ _ h => h.elim
theorem WR.ext {H' : jaa} (h : WR lo H b pre tabs) (hE : Ext H H') : WR lo H' b pre tabs := h.upd (EL hE) (h.w.ext hE)
theorem jlJ (i : Nat) : Wx lo b tabs fQc4 [pA b, .int .i64 (i : Nat)] (if i = 0 then [] else [44, 32]) H := by
 intro pre k h hp hl hk
 refine cQcq _ _ ?_
 unfold vQcq
 simp only [Jn, NilCk_some]
 by_cases h0 : i = 0
 ·rw [if_pos h0] at hk hl
  refine jbS (by omega) ?_
  exact hk H (.refl _ _) (by rw [List.append_nil]; exact h)
 ·rw [if_neg h0] at hk hl
  exact ja1 (by omega) (jgG h [44, 32] (jas hp) hl fun _ H' hU h' => hk H' hU h')
theorem jgV {t : Txt} {n : Nd} {q : Option Nat} (ht : t ≠ [] ∨ True) (he : ∀ H1, Upd (lo ≤ ·) H H1 → Wx lo b tabs jmw [pA b, pN q] (exT n) H1) : Wx lo b tabs jil [pA b, .string ⟨⟨t⟩⟩, pN q] (t ++ exT n) H := by
 intro pre k h hp hl hk
 refine cQck _ _ _ ?_
 unfold vQck
 simp only [NilCk_some]
 rw [List.length_append] at hl
 refine jgG h t (jas hp) (by omega) fun _ H1 hU1 h1 => he H1 hU1 h1 (jas hp) (by rw [List.length_append]; omega) fun H2 hU2 h2 => hk H2 (upL hU1 hU2) ?_
 rw [← List.append_assoc]; exact h2
theorem jhh {n : Nd} {q : Option Nat} (hn : okN n) (hq : LN lo H n q) (lv : Int) (r : Bool) (he : ∀ H1, Upd (lo ≤ ·) H H1 → Wx lo b tabs jmw [pA b, pN q] (exT n) H1) :
 Wx lo b tabs fQc3 [pA b, pN q, .int .i64 lv, .bool r] (par (jaX lv r n) (exT n)) H := by
 intro pre k h hp hl hk
 refine cQcp _ _ _ _ ?_
 unfold vQcp
 obtain ⟨op, tx, nm, l, a, c, L, rfl, rfl, na⟩ := hq.some' hn
 simp only [Option.map_some, NilCk_some, adr_add]
 refine Jn.mk (fun j H' => H = H' ∧ j = jaX lv r (.mk op tx nm l a)) (fun kk hkk => ?_) ?_
 ·refine jaf na.c0 ?_
  by_cases e : op = 35
  ·refine jah e (hkk _ _ ⟨rfl, ?_⟩)
   simp [jaX, Nd.op, e]
  refine jai e (jaf na.c0 ?_)
  by_cases e2 : op = 33
  ·refine jah e2 (jap na.c1 (jc7 (jaj (fun h3 => hkk _ _ ⟨rfl, ?_⟩) fun h3 => ?_)))
   ·simp [jaX, Nd.op, Nd.tx, e2, h3]
   ·cases r with
    | true =>
      refine (Br_true _ _).2 (jap na.c1 (jc7 (hkk _ _ ⟨rfl, ?_⟩)))
      simp [jaX, Nd.op, Nd.tx, e2, h3]
    | false =>
      refine (Br_false _ _).2 (hkk _ _ ⟨rfl, ?_⟩)
      simp [jaX, Nd.op, Nd.tx, e2, h3]
  ·refine jai e2 (hkk _ _ ⟨rfl, ?_⟩)
   simp [jaX, Nd.op, e, e2]
 ·rintro j _ ⟨rfl, rfl⟩
  cases hb : jaX lv r (.mk op tx nm l a) with
  | true =>
    rw [hb] at hk hl
    have e : par true (exT (.mk op tx nm l a)) = ([40] ++ exT (.mk op tx nm l a)) ++ [41] := by simp [par]
    rw [e] at hk hl
    rw [List.length_append] at hl
    simp only [List.length_cons, List.length_nil] at hl
    refine (Br_true _ _).2 (jgV (.inr trivial) he h hp (by omega) fun H1 hU1 h1 => ?_)
    refine jnj h1 41 rfl (by rw [List.length_append]; omega) fun _ H2 hU2 h2 => hk H2 (upL hU1 hU2) ?_
    rw [← List.append_assoc]; exact h2
  | false =>
    rw [hb] at hk hl
    exact (Br_false _ _).2 (he H (.refl _ _) h hp hl fun H1 hU1 h1 => hk H1 hU1 h1)
section
variable {nm a : Int} {tx : Txt} {l : List Nd}
theorem ex30 : exT (.mk 30 tx nm l a) = jcH nm := by unfold exT; rw [if_pos rfl]
theorem ex32 : exT (.mk 32 tx nm l a) = tx ++ (46 :: (l.headD .nil).tx) := by unfold exT; rw [if_neg (by decide)]; rw [if_pos rfl]
theorem ex33 {x y : Nd} : exT (.mk 33 tx nm [x, y] a) = par (jaX (jat tx) false x) (exT x) ++ (32 :: (tx ++ 32 :: par (jaX (jat tx) true y) (exT y))) := by simp [exT]
theorem ex34 {x : Nd} : exT (.mk 34 tx nm [x] a) = tx ++ par (jaX 7 false x) (exT x) := by simp [exT]
theorem ex35 {x y z : Nd} : exT (.mk 35 tx nm [x, y, z] a) = par (jaX 0 false x) (exT x) ++ ([32, 63, 32] ++ (exT y ++ ([32, 58, 32] ++ exT z))) := by simp [exT]
theorem ex36 : exT (.mk 36 tx nm l a) = tx ++ (40 :: (jbe true (jhu l) ++ [41])) := by unfold exT; rw [if_neg (by decide)]; rw [if_neg (by decide)]; rw [if_neg (by decide)]; rw [if_neg (by decide)]; rw [if_neg (by decide)]; rw [if_pos rfl]
theorem ex37 : exT (.mk 37 tx nm l a) = [104, 97, 115, 40] ++ (tx ++ [41]) := by unfold exT; rw [if_neg (by decide)]; rw [if_neg (by decide)]; rw [if_neg (by decide)]; rw [if_neg (by decide)]; rw [if_neg (by decide)]; rw [if_neg (by decide)]; rw [if_pos rfl]
theorem ex31 : exT (.mk 31 tx nm l a) = tx := by unfold exT; rw [if_neg (by decide)]; rw [if_neg (by decide)]; rw [if_neg (by decide)]; rw [if_neg (by decide)]; rw [if_neg (by decide)]; rw [if_neg (by decide)]; rw [if_neg (by decide)]
theorem ex38 : exT (.mk 38 tx nm l a) = tx := by unfold exT; rw [if_neg (by decide)]; rw [if_neg (by decide)]; rw [if_neg (by decide)]; rw [if_neg (by decide)]; rw [if_neg (by decide)]; rw [if_neg (by decide)]; rw [if_neg (by decide)]
theorem jh3 {l : List Nd} {i : Nat} {n : Nd} (h : l[i]? = some n) : jhu (l.drop i) = exT n :: jhu (l.drop (i + 1)) := by
 have hlt := (List.getElem?_eq_some_iff.1 h).1
 rw [List.drop_eq_getElem_cons hlt, show l[i] = n from (List.getElem?_eq_some_iff.1 h).2]; rfl
theorem ja5 {l : List Nd} {i : Nat} {n : Nd} (h : l[i]? = some n) : n ∈ l := List.mem_of_getElem? h
theorem jaH : ∀ {l : List Nd} {n : Nd}, n ∈ l → cnt n ≤ jaK l
 | [], _, h => by cases h
 | m :: ms, n, h => by
   rcases List.mem_cons.1 h with rfl | h
   ·simp only [jaK]; omega
   ·have := jaH h; simp only [jaK]; omega
theorem jbw : ∀ {l : List Nd}, okL l → l.length ≤ jaK l
 | [], _ => Nat.le_refl _
 | n :: ns, h => by
   have := jbQ h.1
   have := jbw h.2
   simp only [jaK, List.length_cons]; omega
end
theorem jht (b : Bool) (t : Txt) (ts : List Txt) : (jbe b (t :: ts)).length = (if b then 0 else 2) + t.length + (jbe false ts).length := by
 cases b <;> simp [jbe] <;> omega
theorem jgh (i : Nat) (t : Txt) (ts : List Txt) : jbe (i == 0) (t :: ts) = (if i = 0 then [] else [44, 32]) ++ (t ++ jbe (i + 1 == 0) ts) := by
 have e : (i + 1 == 0) = false := by simp
 rw [e]
 show (if (i == 0) = true then [] else [44, 32]) ++ (t ++ jbe false ts) = _
 by_cases h : i = 0
 ·simp [h]
 ·simp [h]
theorem w_expr : ∀ (m : Nat) {n : Nd} {q : Option Nat} {H : jaa}, m ≤ 2 ^ 40 → cnt n ≤ m → okN n → jcM n → isE n → LN lo H n q → Wx lo b tabs jmw [pA b, pN q] (exT n) H := by
 intro m
 induction m with
 | zero => intro n _ _ _ hm hn; have := jbQ hn; omega
 | succ m ih =>
   intro n q H hm0 hm hn hi hE hq pre k h hp hl hk
   refine cQcm _ _ ?_
   unfold vQcm
   obtain ⟨op, tx, nm, l, a, c, L, rfl, rfl, na⟩ := hq.some' hn
   simp only [Jn, Option.map_some, NilCk_some, adr_add]
   have hcn : cnt (.mk op tx nm l a) = 1 + jaK l := by simp [cnt]
   have htl : tx.length ≤ 16 := hn.tlen
   have hpl : pre.length ≤ 2 ^ 40 := by omega
   have hE1 : 30 ≤ op := hE.1
   have hE2 : op ≤ 38 := hE.2
   -- a child is written, wherever it stands
   have kid : ∀ {x : Nd} {r : Option Nat} {H1 : jaa}, x ∈ l → isE x → LN lo H1 x r → ∀ H2, Upd (lo ≤ ·) H1 H2 → Wx lo b tabs jmw [pA b, pN r] (exT x) H2 := fun hx hxe hxl H2 hU2 =>
    ih (by omega) (by have := jaH hx; omega) (jaM hn.2 _ hx) (jaE hi.2 _ hx) hxe (hxl.upd hU2)
   refine jaf na.c0 ?_
   by_cases e : op = 30
   ·subst e
    rw [ex30] at hk hl
    obtain ⟨_, h0, _⟩ := ok30 hn
    refine jah rfl (jaf na.c2 (ji4 h.pow h0 hi.1.2 fun H1 hE1 => jgG (h.ext hE1) _ (jas hp) hl fun _ H2 hU2 h2 => jb9 ((na.upd (upL (EL hE1) hU2)).c2) (hk H2 (upL (EL hE1) hU2) h2)))
   refine jai e ?_
   by_cases e : op = 32
   ·subst e
    obtain ⟨_, x, rfl, hx, hxo⟩ := ok32 hn
    rw [ex32] at hk hl
    obtain ⟨ad, q2, ix, hlt, hc, hl2⟩ := na.ix 0 x rfl
    obtain ⟨op2, tx2, nm2, l2, a2, c2, L2, rfl, rfl, na2⟩ := hl2.some' hx
    have htx2 : tx2.length ≤ 16 := hx.tlen
    refine jah rfl (jap na.c1 (Cat (by simp; omega) (jam na.c3 (ix rfl (jan hc ?_)))))
    simp only [Option.map_some, NilCk_some, adr_add]
    have et : tx ++ [46] ++ tx2 = tx ++ (46 :: ([Nd.mk op2 tx2 nm2 l2 a2].headD .nil).tx) := by simp [Nd.tx]
    refine jap na2.c1 (Cat (by simp; omega) (jgG h _ (jas hp) (by rw [et]; exact hl) fun _ H2 hU2 h2 => ?_))
    have n1 := na.upd hU2
    have n2 := na2.upd hU2
    exact jax (by simp only [List.mem_cons, List.not_mem_nil, or_false, forall_eq_or_imp, forall_eq]; exact ⟨n2.c1, hU2.cell hc (by omega), n1.c3, n1.c1⟩) (hk H2 hU2 (by rw [← et]; exact h2))
   refine jai e ?_
   by_cases e : op = 33
   ·subst e
    obtain ⟨_, x, y, rfl, hx, hy, hxe, hye⟩ := ok33 hn
    rw [ex33] at hk hl
    obtain ⟨ad, qx, ix, hlt, hc, hlx⟩ := na.ix 0 x rfl
    simp only [List.length_append, List.length_cons] at hl
    refine jah rfl (jap na.c1 (jc7 (jam na.c3 (ix rfl (jan hc ?_)))))
    refine jhh hx hlx _ _ (kid (by simp) hxe hlx) h hp (by omega) fun H1 hU1 h1 => ?_
    have n1 := na.upd hU1
    refine jap n1.c1 (Cat (by simp; omega) (Cat (by simp; omega) ?_))
    refine jgG h1 ([32] ++ tx ++ [32]) (jas (jas hp)) (by simp; omega) fun _ H2 hU2 h2 => ?_
    have n2 := n1.upd hU2
    obtain ⟨ad2, qy, iy, hlt2, hc2, hly⟩ := n2.ix 1 y rfl
    refine jb9 n2.c1 (jam n2.c3 (iy rfl (jan hc2 ?_)))
    refine jhh hy hly _ _ (kid (by simp) hye hly) h2 (jas (jas hp)) (by simp; omega) fun H3 hU3 h3 => hk H3 (upL (upL hU1 hU2) hU3) ?_
    have et : ∀ A B : Txt, pre ++ (A ++ (32 :: (tx ++ 32 :: B))) = pre ++ A ++ ([32] ++ tx ++ [32]) ++ B := fun A B => by simp
    rw [et]; exact h3
   refine jai e ?_
   by_cases e : op = 34
   ·subst e
    obtain ⟨_, x, rfl, hx, hxe⟩ := ok34 hn
    rw [ex34] at hk hl
    simp only [List.length_append] at hl
    refine jah rfl (jap na.c1 (jgG h tx (jas hp) (by omega) fun _ H1 hU1 h1 => ?_))
    have n1 := na.upd hU1
    obtain ⟨ad, qx, ix, hlt, hc, hlx⟩ := n1.ix 0 x rfl
    refine jam n1.c3 (ix rfl (jan hc ?_))
    refine jhh hx hlx _ _ (kid (by simp) hxe hlx) h1 (jas hp) (by simp; omega) fun H2 hU2 h2 => hk H2 (upL hU1 hU2) ?_
    rw [← List.append_assoc]; exact h2
   refine jai e ?_
   by_cases e : op = 35
   ·subst e
    obtain ⟨_, x, y, z, rfl, hx, hy, hz, hxe, hye, hze⟩ := ok35 hn
    rw [ex35] at hk hl
    simp only [List.length_append] at hl
    obtain ⟨ad, qx, ix, hlt, hc, hlx⟩ := na.ix 0 x rfl
    refine jah rfl (jam na.c3 (ix rfl (jan hc ?_)))
    refine jhh hx hlx _ _ (kid (by simp) hxe hlx) h hp (by omega) fun H1 hU1 h1 => ?_
    have n1 := na.upd hU1
    obtain ⟨ad1, qy, iy, hlt1, hc1, hly⟩ := n1.ix 1 y rfl
    refine jam n1.c3 (iy rfl (jan hc1 ?_))
    refine jgV (.inr trivial) (kid (by simp) hye hly) h1 (jas hp) (by simp only [List.length_append]; omega) fun H2 hU2 h2 => ?_
    have n2 := n1.upd hU2
    obtain ⟨ad2, qz, iz, hlt2, hc2, hlz⟩ := n2.ix 2 z rfl
    refine jam n2.c3 (iz rfl (jan hc2 ?_))
    refine jgV (.inr trivial) (kid (by simp) hze hlz) h2 (jas (jas hp)) (by simp only [List.length_append]; omega) fun H3 hU3 h3 => hk H3 (upL (upL hU1 hU2) hU3) ?_
    have et : ∀ A B C : Txt, pre ++ (A ++ ([32, 63, 32] ++ (B ++ ([32, 58, 32] ++ C)))) = pre ++ A ++ ([32, 63, 32] ++ B) ++ ([32, 58, 32] ++ C) := fun A B C => by simp
    rw [et]; exact h3
   refine jai e ?_
   by_cases e : op = 36
   ·subst e
    obtain ⟨_, hall⟩ := ok36 hn
    rw [ex36] at hk hl
    simp only [List.length_append, List.length_cons, List.length_nil] at hl
    refine jah rfl (jap na.c1 (Cat (by simp; omega) (jgG h (tx ++ [40]) (jas hp) (by simp; omega) fun _ H1 hU1 h1 => ?_)))
    have n1 := na.upd hU1
    refine jb9 n1.c1 (jam n1.c3 ?_)
    refine LoopT.ghost (fun r (i : Int) H' => ∃ (j : Nat) (pr : Txt), i = (j : Nat) ∧ j + r = l.length ∧ Upd (lo ≤ ·) H H' ∧ WR lo H' b pr tabs ∧ pr ≠ [] ∧ pr ++ jbe (j == 0) (jhu (l.drop j)) = pre ++ (tx ++ [40]) ++ jbe true (jhu l)) l.length
     ⟨0, _, rfl, by omega, hU1, h1, jas hp, by simp⟩ ?_
    rintro next r i H2 ⟨j, pr, rfl, hj, hU2, h2, hpr, heq⟩ hnext
    have n2 := na.upd hU2
    have hlq := congrArg List.length heq
    simp only [List.length_append, List.length_cons, List.length_nil] at hlq
    cases r with
    | zero =>
      refine jbS (by rw [na.len]; omega) ?_
      have ed : l.drop j = [] := List.drop_eq_nil_of_le (by omega)
      rw [ed] at heq
      refine jnj h2 41 rfl (by omega) fun _ H3 hU3 h3 => hk H3 (upL hU2 hU3) ?_
      have et : pr = pre ++ (tx ++ [40]) ++ jbe true (jhu l) := by simpa [jhu, jbe] using heq
      rw [et] at h3
      have e2 : pre ++ (tx ++ 40 :: (jbe true (jhu l) ++ [41])) = pre ++ (tx ++ [40]) ++ jbe true (jhu l) ++ [41] := by simp
      rw [e2]; exact h3
    | succ r =>
      have hjl : j < l.length := by omega
      have hget : l[j]? = some l[j] := List.getElem?_eq_getElem hjl
      obtain ⟨ad, qx, ix, hlt, hc, hlx⟩ := n2.ix j _ hget
      refine ja1 (by rw [na.len]; omega) (ix rfl (jan hc ?_))
      rw [jh3 hget, jgh] at heq hlq
      simp only [List.length_append] at hlq
      refine jlJ j h2 hpr (by omega) fun H3 hU3 h3 => ?_
      have hmem := ja5 hget
      refine kid hmem (hall _ hmem).2 hlx H3 hU3 h3 (jas hpr) (by simp only [List.length_append]; omega) fun H4 hU4 h4 => ?_
      refine Lt.mk (u := ((j + 1 : Nat) : Int)) (by have := jbw hn.2; rw [jac] <;> omega) (hnext r _ _ (by omega) ⟨j + 1, _, rfl, by omega, upL (upL hU2 hU3) hU4, h4, jas (jas hpr), ?_⟩)
      rw [← heq]; simp
   refine jai e ?_
   by_cases e : op = 37
   ·subst e
    rw [ex37] at hk hl
    have et : [104, 97, 115, 40] ++ tx ++ [41] = [104, 97, 115, 40] ++ (tx ++ [41]) := by simp
    refine jah rfl (jap na.c1 (Cat (by simp; omega) (Cat (by simp; omega) (jgG h _ (jas hp) (by rw [et]; exact hl) fun _ H1 hU1 h1 => jb9 (na.upd hU1).c1 (hk H1 hU1 (by rw [← et]; exact h1))))))
   refine jai e ?_
   have et : exT (.mk op tx nm l a) = tx := by
    have : op = 31 ∨ op = 38 := by omega
    rcases this with rfl | rfl
    ·exact ex31
    ·exact ex38
   rw [et] at hk hl
   exact jap na.c1 (jgG h tx (jas hp) hl fun _ H1 hU1 h1 => hk H1 hU1 h1)
end
section
open Hc Hc.Lex Hc.Syn
variable {H : jaa} {lo b tabs : Nat} {pre : Txt}
theorem w_ex {n : Nd} {q : Option Nat} (hc : cnt n ≤ 2 ^ 40) (hn : okN n) (hi : jcM n) (hE : isE n) (hq : LN lo H n q) : ∀ H1, Upd (lo ≤ ·) H H1 → Wx lo b tabs jmw [pA b, pN q] (exT n) H1 :=
 fun _ hU => w_expr (2 ^ 40) (Nat.le_refl _) hc hn hi hE (hq.upd hU)
theorem jmZ {t : Txt} {n : Nd} {q : Option Nat} (hc : cnt n ≤ 2 ^ 40) (hn : okN n) (hi : jcM n) (hE : isE n) (hq : LN lo H n q) : Wx lo b tabs jil [pA b, .string ⟨⟨t⟩⟩, pN q] (t ++ exT n) H := jgV (.inr trivial) (w_ex hc hn hi hE hq)
theorem jdb {f : Nd → Txt} {l : List Nd} {i : Nat} {n : Nd} (h : l[i]? = some n) : jbe (i == 0) ((l.drop i).map f) = (if i = 0 then [] else [44, 32]) ++ (f n ++ jbe (i + 1 == 0) ((l.drop (i + 1)).map f)) := by
 have hlt := (List.getElem?_eq_some_iff.1 h).1
 rw [List.drop_eq_getElem_cons hlt, show l[i] = n from (List.getElem?_eq_some_iff.1 h).2, List.map_cons, jgh]
theorem jno {n : Nd} {q : Option Nat} (hc : cnt n ≤ 2 ^ 40) (hn : okN n) (hi : jcM n) (ho : n.op = 23) (hq : LN lo H n q) : Wx lo b tabs fQc1 [pA b, pN q] (jbt n) H := by
 intro pre k h hp hl hk
 refine cQco _ _ ?_
 unfold vQco
 obtain ⟨op, tx, nm, l, a, c, L, rfl, rfl, na⟩ := hq.some' hn
 have ho : op = 23 := ho
 subst ho
 simp only [Jn, Option.map_some, NilCk_some, adr_add]
 have hcn : cnt (.mk 23 tx nm l a) = 1 + jaK l := by simp [cnt]
 have htl : tx.length ≤ 16 := hn.tlen
 have hle := jbw hn.2
 obtain ⟨_, hall⟩ := ok23 hn
 have eT : jbt (.mk 23 tx nm l a) = (tx ++ [123]) ++ jbe true (l.map jiK) ++ [125] := by simp [jbt, Nd.tx, Nd.ks]
 rw [eT] at hk hl
 simp only [List.length_append, List.length_cons, List.length_nil] at hl
 refine jap na.c1 (Cat (by simp; omega) (jgG h (tx ++ [123]) (jas hp) (by simp; omega) fun _ H1 hU1 h1 => ?_))
 have n1 := na.upd hU1
 refine jb9 n1.c1 (jam n1.c3 ?_)
 refine LoopT.ghost (fun r (i : Int) H' => ∃ (j : Nat) (pr : Txt), i = (j : Nat) ∧ j + r = l.length ∧ Upd (lo ≤ ·) H H' ∧ WR lo H' b pr tabs ∧ pr ≠ [] ∧ pr ++ jbe (j == 0) ((l.drop j).map jiK) = pre ++ (tx ++ [123]) ++ jbe true (l.map jiK)) l.length
  ⟨0, _, rfl, by omega, hU1, h1, jas hp, by simp⟩ ?_
 rintro next r i H2 ⟨j, pr, rfl, hj, hU2, h2, hpr, heq⟩ hnext
 have n2 := na.upd hU2
 have hlq := congrArg List.length heq
 simp only [List.length_append, List.length_cons, List.length_nil] at hlq
 cases r with
 | zero =>
   refine jbS (by rw [na.len]; omega) ?_
   have ed : l.drop j = [] := List.drop_eq_nil_of_le (by omega)
   rw [ed] at heq
   refine jnj h2 125 rfl (by omega) fun _ H3 hU3 h3 => hk H3 (upL hU2 hU3) ?_
   have et : pr = pre ++ (tx ++ [123]) ++ jbe true (l.map jiK) := by simpa [jbe] using heq
   rw [et] at h3
   rw [← List.append_assoc, ← List.append_assoc]; exact h3
 | succ r =>
   have hjl : j < l.length := by omega
   have hget : l[j]? = some l[j] := List.getElem?_eq_getElem hjl
   generalize l[j] = v at hget
   have hmem := ja5 hget
   obtain ⟨hvo, hvop⟩ := hall v hmem
   have hvi := jaE hi.2 v hmem
   have hvc := jaH hmem
   obtain ⟨ad, qx, ix, hlt, hcc, hlx⟩ := n2.ix j v hget
   refine ja1 (by rw [na.len]; omega) (ix rfl (jan hcc ?_))
   rw [jdb hget] at heq hlq
   simp only [List.length_append] at hlq
   refine jlJ j h2 hpr (by omega) fun H3 hU3 h3 => ?_
   obtain ⟨op2, tx2, nm2, l2, a2, c2, L2, rfl, rfl, na2⟩ := (hlx.upd hU3).some' hvo
   have hvop : op2 = 24 := hvop
   subst hvop
   obtain ⟨_, x, rfl, hx, hxe⟩ := ok24 hvo
   have htx2 : tx2.length ≤ 16 := hvo.tlen
   have eV : jiK (.mk 24 tx2 nm2 [x] a2) = (tx2 ++ [58, 32]) ++ exT x := by simp [jiK, Nd.tx, Nd.ks]
   rw [eV] at heq hlq
   simp only [List.length_append, List.length_cons, List.length_nil] at hlq
   simp only [Option.map_some, NilCk_some, adr_add]
   obtain ⟨ad3, qx3, ix3, hlt3, hcc3, hlx3⟩ := na2.ix 0 x rfl
   refine jap na2.c1 (Cat (by simp; omega) (jam na2.c3 (ix3 rfl (jan hcc3 ?_))))
   refine jmZ (t := tx2 ++ [58, 32]) (by simp only [cnt, jaK] at hvc; omega) hx hvi.2.1 hxe hlx3 h3 (jas hpr) (by simp only [List.length_append, List.length_cons, List.length_nil]; omega) fun H4 hU4 h4 => ?_
   have n4 := na2.upd hU4
   refine jdW n4.c3 n4.c1 (Lt.mk (u := ((j + 1 : Nat) : Int)) (by rw [jac] <;> omega) (hnext r _ _ (by omega) ⟨j + 1, _, rfl, by omega, upL (upL hU2 hU3) hU4, h4, jas (jas hpr), ?_⟩))
   rw [← heq]; simp
theorem w_spawn {n : Nd} {q : Option Nat} (hc : cnt n ≤ 2 ^ 40) (hn : okN n) (hi : jcM n) (ho : n.op = 17) (hq : LN lo H n q) : Wx lo b tabs fQc0 [pA b, pN q] (jcP n) H := by
 intro pre k h hp hl hk
 refine cQcn _ _ ?_
 unfold vQcn
 obtain ⟨op, tx, nm, l, a, c, L, rfl, rfl, na⟩ := hq.some' hn
 have ho : op = 17 := ho
 subst ho
 simp only [Jn, Option.map_some, NilCk_some, adr_add]
 have hcn : cnt (.mk 17 tx nm l a) = 1 + jaK l := by simp [cnt]
 have hle := jbw hn.2
 obtain ⟨_, hall⟩ := ok17 hn
 have eT : jcP (.mk 17 tx nm l a) = [115, 112, 97, 119, 110] ++ (if l.isEmpty then [] else 32 :: jbe true (l.map jbt)) := by simp [jcP]
 rw [eT] at hk hl
 simp only [List.length_append, List.length_cons, List.length_nil] at hl
 refine jgG h [115, 112, 97, 119, 110] (jas hp) (by simp; omega) fun _ H1 hU1 h1 => ?_
 have n1 := na.upd hU1
 refine jam n1.c3 ?_
 refine LoopT.ghost (fun r (i : Int) H' => ∃ (j : Nat) (pr : Txt), i = (j : Nat) ∧ j + r = l.length ∧ Upd (lo ≤ ·) H H' ∧ WR lo H' b pr tabs ∧ pr ≠ [] ∧ pr ++ (if (l.drop j).isEmpty then [] else (if j = 0 then [32] else []) ++ jbe (j == 0) ((l.drop j).map jbt)) = pre ++ [115, 112, 97, 119, 110] ++ (if l.isEmpty then [] else 32 :: jbe true (l.map jbt))) l.length
  ⟨0, _, rfl, by omega, hU1, h1, jas hp, by simp⟩ ?_
 rintro next r i H2 ⟨j, pr, rfl, hj, hU2, h2, hpr, heq⟩ hnext
 have n2 := na.upd hU2
 have hlq := congrArg List.length heq
 simp only [List.length_append, List.length_cons, List.length_nil] at hlq
 cases r with
 | zero =>
   refine jbS (by rw [na.len]; omega) ?_
   have ed : l.drop j = [] := List.drop_eq_nil_of_le (by omega)
   rw [ed] at heq
   refine hk H2 hU2 ?_
   have et : pr = pre ++ [115, 112, 97, 119, 110] ++ (if l.isEmpty then [] else 32 :: jbe true (l.map jbt)) := by simpa using heq
   rw [← List.append_assoc, ← et]; exact h2
 | succ r =>
   have hjl : j < l.length := by omega
   have hget : l[j]? = some l[j] := List.getElem?_eq_getElem hjl
   have hde : (l.drop j).isEmpty = false := by rw [List.drop_eq_getElem_cons hjl]; rfl
   generalize l[j] = v at hget
   have hmem := ja5 hget
   obtain ⟨hvo, hvop⟩ := hall v hmem
   have hvi := jaE hi.2 v hmem
   have hvc := jaH hmem
   obtain ⟨ad, qx, ix, hlt, hcc, hlx⟩ := n2.ix j v hget
   refine ja1 (by rw [na.len]; omega) (ix rfl (jan hcc ?_))
   rw [hde, jdb hget, if_neg (by decide)] at heq hlq
   refine jaq (vs := [jbG [32], jbG [44, 32]]) fun b3 H3 hb3 hE3 _ hr3 => ?_
   have h3 := h2.ext hE3
   have go : ∀ (o : Nat) (t : Txt) (rest : Txt), (o = if 1 < (j : Int) then 1 else j) → [jbG [32], jbG [44, 32]][o]? = some (jbG t) → o < 2 → pr ++ (t ++ (jbt v ++ rest)) = pr ++ ((if j = 0 then [32] else []) ++ ((if j = 0 then [] else [44, 32]) ++ (jbt v ++ jbe (j + 1 == 0) ((l.drop (j + 1)).map jbt)))) → rest = jbe false ((l.drop (j + 1)).map jbt) →
    IxA 1 ⟨some (adr b3), 2, 2⟩ (if 1 < (j : Int) then 1 else (j : Int)) fun a5 => Ld .str a5 H3 fun (x3 : ByteArray) =>
     CallT Pg jfv [.pointer (some (adr b)), .string x3] (.tup [(.c (.int .i64)), (.c .raw)]) H3 fun (r2 : Int × Value) H4 =>
     CallT Pg fQc1 [.pointer (some (adr b)), .pointer (qx.map adr)] (.tup []) H4 fun (r3 : Unit) H5 =>
     Lt (IntKind.wrap .i64 ((j : Int) + 1)) fun t1 => next t1 H5 := by
    intro o t rest ho hot ho2 hot2 hrest
    have eo : (if 1 < (j : Int) then 1 else (j : Int)) = (o : Int) := by rw [ho]; split <;> simp
    rw [eo]
    refine jgc (by omega) (by omega) ?_
    have e1 : (o : Int).toNat * 1 = o := by omega
    rw [e1]
    refine jap ((hr3.cell o).trans hot) ?_
    rw [← hot2] at heq
    have hlq := congrArg List.length heq
    simp only [List.length_append, List.length_cons, List.length_nil] at hlq
    refine jgG h3 t (jas hpr) (by omega) fun _ H4 hU4 h4 => ?_
    refine jno (by omega) hvo hvi hvop ((hlx.upd (EL hE3)).upd hU4) h4 (jas hpr) (by simp only [List.length_append]; omega) fun H5 hU5 h5 => ?_
    refine Lt.mk (u := ((j + 1 : Nat) : Int)) (by rw [jac] <;> omega) (hnext r _ _ (by omega) ⟨j + 1, _, rfl, by omega, upL (upL (upLE hU2 hE3) hU4) hU5, h5, jas (jas hpr), ?_⟩)
    rw [← heq, hrest]
    have ej : (j + 1 == 0) = false := by simp
    rw [ej, if_neg (by omega : ¬ j + 1 = 0)]
    cases hdd : l.drop (j + 1) <;> simp [jbe]
   by_cases hj0 : j = 0
   ·exact go 0 [32] (jbe false ((l.drop (j + 1)).map jbt)) (by subst hj0; rfl) rfl (by omega) (by subst hj0; rfl) rfl
   ·exact go 1 [44, 32] (jbe false ((l.drop (j + 1)).map jbt)) (by split <;> omega) rfl (by omega) (by rw [if_neg hj0, if_neg hj0]; rfl) rfl
theorem jjE (h : WR lo H b pre tabs) (t : Txt) (hne : pre ++ t ≠ []) (hl : pre.length + (tabs + t.length) ≤ 2 ^ 40) {k : Unit → jaa → Prop} (hk : ∀ H', Upd (lo ≤ ·) H H' → WR lo H' b (pre ++ (ja9 tabs ++ t)) tabs → k () H') :
 CallT Pg fQcj [pA b, .string ⟨⟨t⟩⟩] (.tup []) H k := by
 refine cQb9 _ _ ?_
 unfold vQb9
 simp only [NilCk_some, adr_add]
 obtain ⟨p, L, r1, _⟩ := h.w.row
 refine jaf ((r1.cell 2).trans rfl) ?_
 refine LoopT.ghost (fun r (i : Int) H' => ∃ (j : Nat), i = (j : Nat) ∧ j + r = tabs ∧ Upd (lo ≤ ·) H H' ∧ WR lo H' b (pre ++ ja9 j) tabs) tabs ⟨0, rfl, by omega, .refl _ _, by simpa [ja9] using h⟩ ?_
 rintro next r i H2 ⟨j, rfl, hj, hU2, h2⟩ hnext
 cases r with
 | zero =>
   have : j = tabs := by omega
   subst this
   refine jbS (by omega) (jgG h2 t (fun e => hne (by have g := List.append_eq_nil_iff.1 e; have g2 := List.append_eq_nil_iff.1 g.1; rw [g2.1, g.2]; rfl)) (by simp [ja9]; omega) fun _ H3 hU3 h3 => hk H3 (upL hU2 hU3) ?_)
   rw [← List.append_assoc]; exact h3
 | succ r =>
   refine ja1 (by omega) (jnj h2 9 rfl (by simp [ja9]; omega) fun _ H3 hU3 h3 => ?_)
   refine Lt.mk (u := ((j + 1 : Nat) : Int)) (by rw [jac] <;> omega) (hnext r _ _ (by omega) ⟨j + 1, rfl, by omega, upL hU2 hU3, ?_⟩)
   have e : ja9 (j + 1) = ja9 j ++ [9] := by simp [ja9, List.replicate_succ']
   rw [e, ← List.append_assoc]; exact h3
theorem jmA {n : Nd} {q : Option Nat} (hc : cnt n ≤ 2 ^ 40) (hn : okN n) (hi : jcM n) (ho : 10 ≤ n.op ∧ n.op ≤ 22) (hno : n.op ≠ 13 ∧ n.op ≠ 14 ∧ n.op ≠ 15) (hq : LN lo H n q) : Wx lo b tabs fQcy [pA b, pN q] (jcP n) H := by
 intro pre k h hp hl hk
 refine cQcl _ _ ?_
 unfold vQcl
 have hq0 := hq
 obtain ⟨op, tx, nm, l, a, c, L, rfl, rfl, na⟩ := hq.some' hn
 have ho : 10 ≤ op ∧ op ≤ 22 := ho
 have hno : op ≠ 13 ∧ op ≠ 14 ∧ op ≠ 15 := hno
 simp only [Jn, Option.map_some, NilCk_some, adr_add]
 have hcn : cnt (.mk op tx nm l a) = 1 + jaK l := by simp [cnt]
 have htl : tx.length ≤ 16 := hn.tlen
 have kc : ∀ {x : Nd}, x ∈ l → cnt x ≤ 2 ^ 40 := fun hx => by have := jaH hx; omega
 refine jaf na.c0 ?_
 by_cases e : op = 10
 ·subst e
  obtain ⟨_, x, rfl, hx, hxe⟩ := ok10 hn
  have eT : jcP (.mk 10 tx nm [x] a) = ([108, 101, 116, 32] ++ tx ++ [32, 61, 32]) ++ exT x := by simp [jcP]
  rw [eT] at hk hl
  obtain ⟨ad, qx, ix, hlt, hcc, hlx⟩ := na.ix 0 x rfl
  refine jah rfl (jap na.c1 (Cat (by simp; omega) (Cat (by simp; omega) (jam na.c3 (ix rfl (jan hcc ?_))))))
  refine jmZ (kc (by simp)) hx hi.2.1 hxe hlx h hp hl fun H1 hU1 h1 => ?_
  have n1 := na.upd hU1
  exact jdW n1.c3 n1.c1 (hk H1 hU1 h1)
 refine jai e ?_
 by_cases e : op = 11
 ·subst e
  obtain ⟨_, x, rfl, hx, hxe⟩ := ok11 hn
  have eT : jcP (.mk 11 tx nm [x] a) = (tx ++ [32, 61, 32]) ++ exT x := by simp [jcP]
  rw [eT] at hk hl
  obtain ⟨ad, qx, ix, hlt, hcc, hlx⟩ := na.ix 0 x rfl
  refine jah rfl (jap na.c1 (Cat (by simp; omega) (jam na.c3 (ix rfl (jan hcc ?_)))))
  refine jmZ (kc (by simp)) hx hi.2.1 hxe hlx h hp hl fun H1 hU1 h1 => ?_
  have n1 := na.upd hU1
  exact jdW n1.c3 n1.c1 (hk H1 hU1 h1)
 refine jai e ?_
 by_cases e : op = 12
 ·subst e
  obtain ⟨_, x, y, rfl, hx, hy, hxo, hye⟩ := ok12 hn
  obtain ⟨ad, qx, ix, hlt, hcc, hlx⟩ := na.ix 0 x rfl
  obtain ⟨op2, tx2, nm2, l2, a2, c2, L2, rfl, rfl, na2⟩ := hlx.some' hx
  have htx2 : tx2.length ≤ 16 := hx.tlen
  have eT : jcP (.mk 12 tx nm [.mk op2 tx2 nm2 l2 a2, y] a) = (tx ++ [46] ++ tx2 ++ [32, 61, 32]) ++ exT y := by simp [jcP, Nd.tx]
  rw [eT] at hk hl
  refine jah rfl (jap na.c1 (Cat (by simp; omega) (jam na.c3 (ix rfl (jan hcc ?_)))))
  simp only [Option.map_some, NilCk_some, adr_add]
  obtain ⟨ad2, qy, iy, hlt2, hcc2, hly⟩ := na.ix 1 y rfl
  refine jap na2.c1 (Cat (by simp; omega) (Cat (by simp; omega) (jam na.c3 (iy rfl (jan hcc2 ?_)))))
  refine jmZ (kc (by simp)) hy hi.2.2.1 hye hly h hp hl fun H1 hU1 h1 => ?_
  have n1 := na.upd hU1
  have n2 := na2.upd hU1
  exact jax (by simp only [List.mem_cons, List.not_mem_nil, or_false, forall_eq_or_imp, forall_eq]; exact ⟨n1.c3, n2.c1, hU1.cell hcc (by omega), n1.c3, n1.c1⟩) (hk H1 hU1 h1)
 refine jai e ?_
 by_cases e : op = 16
 ·subst e
  obtain ⟨_, x, y, rfl, hx, hy, hxe, hye⟩ := ok16 hn
  have eT : jcP (.mk 16 tx nm [x, y] a) = ([101, 109, 105, 116, 32] ++ exT x) ++ ([44, 32] ++ exT y) := by simp [jcP]
  rw [eT] at hk hl
  rw [List.length_append] at hl
  obtain ⟨ad, qx, ix, hlt, hcc, hlx⟩ := na.ix 0 x rfl
  refine jah rfl (jam na.c3 (ix rfl (jan hcc ?_)))
  refine jmZ (kc (by simp)) hx hi.2.1 hxe hlx h hp (by omega) fun H1 hU1 h1 => ?_
  have n1 := na.upd hU1
  obtain ⟨ad2, qy, iy, hlt2, hcc2, hly⟩ := n1.ix 1 y rfl
  refine jam n1.c3 (iy rfl (jan hcc2 ?_))
  refine jmZ (kc (by simp)) hy hi.2.2.1 hye hly h1 (jas hp) (by rw [List.length_append]; omega) fun H2 hU2 h2 => hk H2 (upL hU1 hU2) ?_
  rw [← List.append_assoc]; exact h2
 refine jai e ?_
 by_cases e : op = 17
 ·subst e
  exact jah rfl (w_spawn hc hn hi rfl hq0 h hp hl hk)
 refine jai e ?_
 by_cases e : op = 18
 ·subst e
  obtain ⟨_, x, rfl, hx, hxo⟩ := ok18 hn
  have eT : jcP (.mk 18 tx nm [x] a) = [97, 100, 100, 32] ++ jbt x := by simp [jcP]
  rw [eT] at hk hl
  rw [List.length_append] at hl
  refine jah rfl (jgG h [97, 100, 100, 32] (jas hp) (by omega) fun _ H1 hU1 h1 => ?_)
  have n1 := na.upd hU1
  obtain ⟨ad, qx, ix, hlt, hcc, hlx⟩ := n1.ix 0 x rfl
  refine jam n1.c3 (ix rfl (jan hcc ?_))
  refine jno (kc (by simp)) hx hi.2.1 hxo hlx h1 (jas hp) (by rw [List.length_append]; omega) fun H2 hU2 h2 => hk H2 (upL hU1 hU2) ?_
  rw [← List.append_assoc]; exact h2
 refine jai e ?_
 by_cases e : op = 19
 ·subst e
  have eT : jcP (.mk 19 tx nm l a) = [114, 101, 109, 111, 118, 101, 32] ++ tx := by unfold jcP; rfl
  rw [eT] at hk hl
  exact jah rfl (jap na.c1 (Cat (by simp; omega) (jgG h _ (jas hp) hl fun _ H1 hU1 h1 => jb9 (na.upd hU1).c1 (hk H1 hU1 h1))))
 refine jai e ?_
 by_cases e : op = 20
 ·subst e
  have eT : jcP (.mk 20 tx nm l a) = [100, 105, 101] := by unfold jcP; rfl
  rw [eT] at hk hl
  exact jah rfl (jgG h _ (jas hp) hl fun _ H1 hU1 h1 => hk H1 hU1 h1)
 refine jai e ?_
 by_cases e : op = 21
 ·subst e
  have eT : jcP (.mk 21 tx nm l a) = [115, 116, 111, 112] := by unfold jcP; rfl
  rw [eT] at hk hl
  exact jah rfl (jgG h _ (jas hp) hl fun _ H1 hU1 h1 => hk H1 hU1 h1)
 refine jai e ?_
 have e : op = 22 := by omega
 subst e
 obtain ⟨_, x, rfl, hx, hxe⟩ := ok22 hn
 have eT : jcP (.mk 22 tx nm [x] a) = [114, 101, 116, 117, 114, 110, 32] ++ exT x := by simp [jcP]
 rw [eT] at hk hl
 obtain ⟨ad, qx, ix, hlt, hcc, hlx⟩ := na.ix 0 x rfl
 refine jah rfl (jam na.c3 (ix rfl (jan hcc ?_)))
 exact jmZ (kc (by simp)) hx hi.2.1 hxe hlx h hp hl fun H1 hU1 h1 => hk H1 hU1 h1
end
section
open Hc Hc.Lex Hc.Syn
variable {H : jaa} {lo b tabs : Nat} {pre : Txt}
theorem WR.tab (h : WR lo H b pre tabs) (t : Nat) {k : jaa → Prop} (hk : ∀ H', Upd (lo ≤ ·) H H' → WR lo H' b pre t → k H') : St ⟨b, 2, none⟩ (.int .i64 (t : Nat)) H k := by
 obtain ⟨p, L, r1, h2, h3, h4, h5⟩ := h.w.row
 have hlb := h.w.lo
 refine jay r1 (by simp) fun H1 hU _ hr1 => ?_
 have hU' : Upd (lo ≤ ·) H H1 := hU.mono fun x _ e => by omega
 exact hk H1 hU' (h.upd hU' ⟨⟨p, L, hr1, h2, h3.upd hU fun c hc e => (h4 c hc).2 e, h4, h5⟩, hlb⟩)
theorem WR.tabc (h : WR lo H b pre tabs) : jar H ⟨b, 2, none⟩ = some (.int .i64 (tabs : Nat)) := by
 obtain ⟨p, L, r1, _⟩ := h.w.row
 exact (r1.cell 2).trans rfl
structure WkP (lo b m : Nat) : Prop where
 st : ∀ {n : Nd} {q : Option Nat} {H : jaa} {tabs : Nat}, cnt n ≤ m → okN n → jcM n → 10 ≤ n.op ∧ n.op ≤ 22 → LN lo H n q → Wx lo b tabs fQcu [pA b, pN q] (ja9 tabs ++ (stT tabs n ++ [10])) H
 br : ∀ {n : Nd} {q : Option Nat} {H : jaa} {tabs : Nat}, cnt n ≤ m → okN n → jcM n → n.op = 13 → LN lo H n q → Wx lo b tabs fQcw [pA b, pN q] (stT tabs n) H
 bl : ∀ {n : Nd} {q : Option Nat} {H : jaa} {tabs : Nat}, cnt n ≤ m → okN n → jcM n → n.op = 5 → LN lo H n q → Wx lo b tabs jml [pA b, pN q] (jcG tabs n) H
theorem jhW {t : Nat} {l : List Nd} {i : Nat} {n : Nd} (h : l[i]? = some n) : jfs t (l.drop i) = ja9 t ++ (stT t n ++ [10]) ++ jfs t (l.drop (i + 1)) := by
 have hlt := (List.getElem?_eq_some_iff.1 h).1
 rw [List.drop_eq_getElem_cons hlt, show l[i] = n from (List.getElem?_eq_some_iff.1 h).2]
 simp [jfs]
section
variable {nm a : Int} {tx : Txt} {l : List Nd} {t : Nat}
theorem st13a {c d : Nd} : stT t (.mk 13 tx nm [c, d] a) = ([105, 102, 32] ++ exT c) ++ jcG t d := by simp [stT]
theorem jmq {c d e : Nd} : stT t (.mk 13 tx nm [c, d, e] a) = ([105, 102, 32] ++ exT c) ++ jcG t d ++ [32, 101, 108, 115, 101] ++ (if e.op = 13 then 32 :: stT t e else jcG t e) := by simp [stT]
theorem st14 {c d : Nd} : stT t (.mk 14 tx nm [c, d] a) = ([119, 104, 105, 108, 101, 32] ++ exT c) ++ jcG t d := by simp [stT]
theorem st15 {c d : Nd} : stT t (.mk 15 tx nm [c, d] a) = ([114, 101, 112, 101, 97, 116, 32] ++ exT c) ++ jcG t d := by simp [stT]
theorem stS {op : Int} (h1 : op ≠ 13) (h2 : op ≠ 14) (h3 : op ≠ 15) : stT t (.mk op tx nm l a) = jcP (.mk op tx nm l a) ++ [59] := by unfold stT; rw [if_neg h1, if_neg h2, if_neg h3]
end
theorem wkP (lo b : Nat) : ∀ m, m ≤ 2 ^ 40 → WkP lo b m := by
 intro m
 induction m with
 | zero => exact fun _ => ⟨fun hm hn => by have := jbQ hn; omega, fun hm hn => by have := jbQ hn; omega, fun hm hn => by have := jbQ hn; omega⟩
 | succ m ih0 =>
 intro hm0
 have ih := ih0 (by omega)
 have hbr : ∀ {n : Nd} {q : Option Nat} {H : jaa} {tabs : Nat}, cnt n ≤ m + 1 → okN n → jcM n → n.op = 13 → LN lo H n q → Wx lo b tabs fQcw [pA b, pN q] (stT tabs n) H := by
  intro n q H tabs hm hn hi ho hq pre k h hp hl hk
  refine cQcj _ _ ?_
  unfold vQcj
  obtain ⟨op, tx, nm, l, a, c, L, rfl, rfl, na⟩ := hq.some' hn
  have ho : op = 13 := ho
  subst ho
  simp only [Jn, Option.map_some, NilCk_some, adr_add]
  have hcn : cnt (.mk 13 tx nm l a) = 1 + jaK l := by simp [cnt]
  have kc : ∀ {x : Nd}, x ∈ l → cnt x ≤ m := fun hx => by have := jaH hx; omega
  obtain ⟨_, co, bk, hco, hcoe, hbk, hbko, hl2⟩ := ok13 hn
  have hg0 : l[0]? = some co := by rcases hl2 with rfl | ⟨_, rfl, _⟩ <;> rfl
  have hg1 : l[1]? = some bk := by rcases hl2 with rfl | ⟨_, rfl, _⟩ <;> rfl
  obtain ⟨rest, hT⟩ : ∃ rest, stT tabs (.mk 13 tx nm l a) = ([105, 102, 32] ++ exT co) ++ jcG tabs bk ++ rest := by
   rcases hl2 with rfl | ⟨_, rfl, _⟩
   ·exact ⟨[], by rw [st13a, List.append_nil]⟩
   ·exact ⟨_, by rw [jmq, List.append_assoc]⟩
  have hl' := hl
  rw [hT] at hl
  simp only [List.length_append] at hl
  obtain ⟨ad, qx, ix, hlt, hcc, hlx⟩ := na.ix 0 co hg0
  refine jam na.c3 (ix rfl (jan hcc ?_))
  refine jmZ (by have := kc (ja5 hg0); omega) hco (jaE hi.2 _ (ja5 hg0)) hcoe hlx h hp (by simp only [List.length_append]; omega) fun H1 hU1 h1 => ?_
  have n1 := na.upd hU1
  obtain ⟨ad2, qy, iy, hlt2, hcc2, hly⟩ := n1.ix 1 bk hg1
  refine jam n1.c3 (iy rfl (jan hcc2 ?_))
  refine ih.bl (kc (ja5 hg1)) hbk (jaE hi.2 _ (ja5 hg1)) hbko hly h1 (jas hp) (by simp only [List.length_append]; omega) fun H2 hU2 h2 => ?_
  have n2 := n1.upd hU2
  refine jam n2.c3 ?_
  rcases hl2 with rfl | ⟨e, rfl, heo, heop⟩
  ·refine ja1 (by rw [na.len]; show (2 : Int) < 3; decide) (hk H2 (upL hU1 hU2) ?_)
   rw [st13a, ← List.append_assoc]; exact h2
  ·refine jbS (by rw [na.len]; show ¬ (3 : Int) < 3; decide) ?_
   rw [jmq] at hk hl'
   simp only [List.length_append, List.length_cons, List.length_nil] at hl'
   refine jgG h2 [32, 101, 108, 115, 101] (jas (jas (jas hp))) (by simp only [List.length_append, List.length_cons, List.length_nil]; omega) fun _ H3 hU3 h3 => ?_
   have n3 := n2.upd hU3
   obtain ⟨ad3, qz, iz, hlt3, hcc3, hlz⟩ := n3.ix 2 e rfl
   refine jam n3.c3 (iz rfl (jan hcc3 ?_))
   obtain ⟨op4, tx4, nm4, l4, a4, c4, L4, rfl, rfl, na4⟩ := hlz.some' heo
   simp only [Option.map_some, NilCk_some, adr_add]
   refine jaf na4.c0 ?_
   have hei := hi.2.2.2.1
   rcases heop with e5 | e13
   ·have e5 : op4 = 5 := e5
    subst e5
    have el : (if (Nd.mk 5 tx4 nm4 l4 a4).op = 13 then 32 :: stT tabs (.mk 5 tx4 nm4 l4 a4) else jcG tabs (.mk 5 tx4 nm4 l4 a4)) = jcG tabs (.mk 5 tx4 nm4 l4 a4) := if_neg (by show ¬ (5 : Int) = 13; decide)
    rw [el] at hk hl'
    refine jai (by decide) (jam n3.c3 (iz rfl (jan hcc3 ?_)))
    refine ih.bl (kc (by simp)) heo hei rfl hlz h3 (jas (jas (jas hp))) (by simp only [List.length_append, List.length_cons, List.length_nil]; omega) fun H4 hU4 h4 => hk H4 (upL (upL (upL hU1 hU2) hU3) hU4) ?_
    have et : ∀ A B C : Txt, pre ++ (([105, 102, 32] ++ A) ++ B ++ [32, 101, 108, 115, 101] ++ C) = pre ++ ([105, 102, 32] ++ A) ++ B ++ [32, 101, 108, 115, 101] ++ C := fun A B C => by simp
    rw [et]; exact h4
   ·have e13 : op4 = 13 := e13
    subst e13
    have el : (if (Nd.mk 13 tx4 nm4 l4 a4).op = 13 then 32 :: stT tabs (.mk 13 tx4 nm4 l4 a4) else jcG tabs (.mk 13 tx4 nm4 l4 a4)) = 32 :: stT tabs (.mk 13 tx4 nm4 l4 a4) := if_pos rfl
    rw [el] at hk hl'
    simp only [List.length_cons] at hl'
    refine jah rfl (jnj h3 32 rfl (by simp only [List.length_append, List.length_cons, List.length_nil]; omega) fun _ H4 hU4 h4 => ?_)
    have n4 := n3.upd hU4
    obtain ⟨ad5, qz5, iz5, hlt5, hcc5, hlz5⟩ := n4.ix 2 _ rfl
    refine jam n4.c3 (iz5 rfl (jan hcc5 ?_))
    refine ih.br (kc (by simp)) heo hei rfl hlz5 h4 (jas (jas (jas (jas hp)))) (by simp only [List.length_append, List.length_cons, List.length_nil]; omega) fun H5 hU5 h5 => hk H5 (upL (upL (upL (upL hU1 hU2) hU3) hU4) hU5) ?_
    have et : ∀ A B C : Txt, pre ++ (([105, 102, 32] ++ A) ++ B ++ [32, 101, 108, 115, 101] ++ 32 :: C) = pre ++ ([105, 102, 32] ++ A) ++ B ++ [32, 101, 108, 115, 101] ++ [32] ++ C := fun A B C => by simp
    rw [et]; exact h5
 have hbl : ∀ {n : Nd} {q : Option Nat} {H : jaa} {tabs : Nat}, cnt n ≤ m + 1 → okN n → jcM n → n.op = 5 → LN lo H n q → Wx lo b tabs jml [pA b, pN q] (jcG tabs n) H := by
  intro n q H tabs hm hn hi ho hq pre k h hp hl hk
  refine cQcc _ _ ?_
  unfold vQcc
  obtain ⟨op, tx, nm, l, a, c, L, rfl, rfl, na⟩ := hq.some' hn
  have ho : op = 5 := ho
  subst ho
  simp only [Jn, Option.map_some, NilCk_some, adr_add]
  have hcn : cnt (.mk 5 tx nm l a) = 1 + jaK l := by simp [cnt]
  have hle := jbw hn.2
  obtain ⟨_, hall⟩ := ok5 hn
  have eT : jcG tabs (.mk 5 tx nm l a) = [32, 123, 10] ++ jfs (tabs + 1) l ++ (ja9 tabs ++ [125]) := by simp [jcG]
  rw [eT] at hk hl
  simp only [List.length_append, List.length_cons, List.length_nil] at hl
  have htabs : tabs ≤ 2 ^ 40 := by simp [ja9] at hl; omega
  refine jgG h [32, 123, 10] (jas hp) (by simp only [List.length_cons, List.length_nil]; omega) fun _ H1 hU1 h1 => jaf h1.tabc ?_
  refine Lt.mk (u := ((tabs + 1 : Nat) : Int)) (by rw [jac] <;> omega) (h1.tab (tabs + 1) fun H2 hU2 h2 => ?_)
  have n2 := na.upd (upL hU1 hU2)
  refine jam n2.c3 ?_
  refine LoopT.ghost (fun r (i : Int) H' => ∃ (j : Nat) (pr : Txt), i = (j : Nat) ∧ j + r = l.length ∧ Upd (lo ≤ ·) H H' ∧ WR lo H' b pr (tabs + 1) ∧ pr ≠ [] ∧ pr ++ jfs (tabs + 1) (l.drop j) = pre ++ [32, 123, 10] ++ jfs (tabs + 1) l) l.length
   ⟨0, _, rfl, by omega, upL hU1 hU2, h2, jas hp, by simp⟩ ?_
  rintro next r i H3 ⟨j, pr, rfl, hj, hU3, h3, hpr, heq⟩ hnext
  have n3 := na.upd hU3
  have hlq := congrArg List.length heq
  simp only [List.length_append, List.length_cons, List.length_nil] at hlq
  cases r with
  | zero =>
    refine jbS (by rw [na.len]; omega) (jaf h3.tabc ?_)
    have ed : l.drop j = [] := List.drop_eq_nil_of_le (by omega)
    rw [ed] at heq
    refine Lt.mk (u := ((tabs : Nat) : Int)) (by rw [jac] <;> omega) (h3.tab tabs fun H4 hU4 h4 => ?_)
    have et : pr = pre ++ [32, 123, 10] ++ jfs (tabs + 1) l := by simpa [jfs] using heq
    refine jjE h4 [125] (jas hpr) (by simp [ja9] at hl ⊢; omega) fun H5 hU5 h5 => hk H5 (upL (upL hU3 hU4) hU5) ?_
    have e2 : pre ++ ([32, 123, 10] ++ jfs (tabs + 1) l ++ (ja9 tabs ++ [125])) = pre ++ [32, 123, 10] ++ jfs (tabs + 1) l ++ (ja9 tabs ++ [125]) := by simp
    rw [e2, ← et]; exact h5
  | succ r =>
    have hjl : j < l.length := by omega
    have hget : l[j]? = some l[j] := List.getElem?_eq_getElem hjl
    generalize l[j] = v at hget
    have hmem := ja5 hget
    obtain ⟨hvo, hvop⟩ := hall v hmem
    have hvi := jaE hi.2 v hmem
    have hvc := jaH hmem
    obtain ⟨ad, qx, ix, hlt, hcc, hlx⟩ := n3.ix j v hget
    rw [jhW hget] at heq hlq
    simp only [List.length_append] at hlq
    refine ja1 (by rw [na.len]; omega) (ix rfl (jan hcc ?_))
    refine ih.st (by omega) hvo hvi hvop hlx h3 hpr (by simp only [List.length_append]; omega) fun H4 hU4 h4 => ?_
    refine Lt.mk (u := ((j + 1 : Nat) : Int)) (by rw [jac] <;> omega) (hnext r _ _ (by omega) ⟨j + 1, _, rfl, by omega, upL hU3 hU4, h4, jas hpr, ?_⟩)
    rw [← heq]; simp
 refine ⟨?_, hbr, hbl⟩
 intro n q H tabs hm hn hi ho hq pre k h hp hl hk
 refine cQci _ _ ?_
 unfold vQci
 obtain ⟨op, tx, nm, l, a, c, L, rfl, rfl, na⟩ := hq.some' hn
 have ho : 10 ≤ op ∧ op ≤ 22 := ho
 simp only [Jn, Option.map_some, NilCk_some, adr_add]
 have hcn : cnt (.mk op tx nm l a) = 1 + jaK l := by simp [cnt]
 have kc : ∀ {x : Nd}, x ∈ l → cnt x ≤ m := fun hx => by have := jaH hx; omega
 simp only [List.length_append, List.length_cons, List.length_nil] at hl
 have htb : (ja9 tabs).length = tabs := by simp [ja9]
 refine jjE h [] (by simpa using hp) (by simp only [List.length_nil]; omega) fun H1 hU1 h1 => ?_
 rw [List.append_nil] at h1
 have n1 := na.upd hU1
 refine jaf n1.c0 ?_
 -- behind the statement: the line feed
 have fin : ∀ H2, Upd (lo ≤ ·) H1 H2 → WR lo H2 b (pre ++ ja9 tabs ++ stT tabs (.mk op tx nm l a)) tabs →
  CallT Pg jkn [.pointer (some (adr b)), .int .u8 10] (.one (.c .raw)) H2 fun (r9 : Value) H13 => k () H13 := fun H2 hU2 h2 =>
  jnj h2 10 rfl (by simp only [List.length_append]; omega) fun _ H3 hU3 h3 => hk H3 (upL (upL hU1 hU2) hU3) (by
   have e : pre ++ (ja9 tabs ++ (stT tabs (.mk op tx nm l a) ++ [10])) = pre ++ ja9 tabs ++ stT tabs (.mk op tx nm l a) ++ [10] := by simp
   rw [e]; exact h3)
 by_cases e13 : op = 13
 ·subst e13
  exact jah rfl (hbr hm hn hi rfl (hq.upd hU1) h1 (jas hp) (by simp only [List.length_append]; omega) fun H2 hU2 h2 => fin H2 hU2 h2)
 refine jai e13 ?_
 have two : ∀ (w : Txt) (op' : Int) (c' d : Nd) , op = op' → l = [c', d] → okN c' → isE c' → okN d → d.op = 5 → stT tabs (.mk op tx nm l a) = (w ++ exT c') ++ jcG tabs d →
  Ld .sl ⟨c, 3, none⟩ H1 fun (x2 : Sl) => IxA 1 x2 0 fun a3 => Ld .ptr a3 H1 fun (x3 : Option Addr) =>
   CallT Pg jil [.pointer (some (adr b)), .string ⟨⟨w⟩⟩, .pointer x3] (.tup []) H1 fun (r3 : Unit) H6 =>
   Ld .sl ⟨c, 3, none⟩ H6 fun (x4 : Sl) => IxA 1 x4 1 fun a5 => Ld .ptr a5 H6 fun (x5 : Option Addr) =>
   CallT Pg jml [.pointer (some (adr b)), .pointer x5] (.tup []) H6 fun (r4 : Unit) H7 =>
   CallT Pg jkn [.pointer (some (adr b)), .int .u8 10] (.one (.c .raw)) H7 fun (r9 : Value) H13 => k () H13 := by
  intro w op' c' d e0 e1 hc' hce hd hd5 eT
  subst e1
  rw [eT] at fin hl
  simp only [List.length_append] at hl
  obtain ⟨ad, qx, ix, hlt, hcc, hlx⟩ := n1.ix 0 c' rfl
  refine jam n1.c3 (ix rfl (jan hcc ?_))
  refine jmZ (by have := kc (x := c') (by simp); omega) hc' hi.2.1 hce hlx h1 (jas hp) (by simp only [List.length_append]; omega) fun H2 hU2 h2 => ?_
  have n2 := n1.upd hU2
  obtain ⟨ad2, qy, iy, hlt2, hcc2, hly⟩ := n2.ix 1 d rfl
  refine jam n2.c3 (iy rfl (jan hcc2 ?_))
  refine ih.bl (kc (by simp)) hd hi.2.2.1 hd5 hly h2 (jas (jas hp)) (by simp only [List.length_append]; omega) fun H3 hU3 h3 => fin H3 (upL hU2 hU3) ?_
  rw [← List.append_assoc]; exact h3
 by_cases e14 : op = 14
 ·subst e14
  obtain ⟨_, c', d, e1, hc', hce, hd, hd5⟩ := ok14 hn
  exact jah rfl (two _ 14 c' d rfl e1 hc' hce hd hd5 (by rw [e1, st14]))
 refine jai e14 ?_
 by_cases e15 : op = 15
 ·subst e15
  obtain ⟨_, c', d, e1, hc', hce, hd, hd5⟩ := ok15 hn
  exact jah rfl (two _ 15 c' d rfl e1 hc' hce hd hd5 (by rw [e1, st15]))
 refine jai e15 ?_
 have eS := stS (t := tabs) (tx := tx) (nm := nm) (l := l) (a := a) e13 e14 e15
 rw [eS] at fin hl
 simp only [List.length_append, List.length_cons, List.length_nil] at hl
 refine jmA (by omega) hn hi ho ⟨e13, e14, e15⟩ (hq.upd hU1) h1 (jas hp) (by simp only [List.length_append]; omega) fun H2 hU2 h2 => ?_
 refine jnj h2 59 rfl (by simp only [List.length_append]; omega) fun _ H3 hU3 h3 => fin H3 (upL hU2 hU3) ?_
 rw [← List.append_assoc]; exact h3
end
end Go.Proofs.YtfpmgpblhhcpgaaGreatDoor
