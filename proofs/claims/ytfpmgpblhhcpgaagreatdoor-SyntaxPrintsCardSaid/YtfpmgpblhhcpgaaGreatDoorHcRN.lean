/-
 The lexer's methods.
-/
import Derived.Test.YtfpmgpblhhcpgaaGreatDoorLexA
import Derived.Test.YtfpmgpblhhcpgaaGreatDoorHcLists
set_option linter.unusedVariables false
set_option linter.unusedSimpArgs false
namespace Go.Proofs.YtfpmgpblhhcpgaaGreatDoor
set_option maxRecDepth 100000
section
open Hc Hc.Lex
abbrev jgZ (t : Tk) : List Value := [.int .i64 (t.kind : Nat), .string ⟨⟨t.text⟩⟩, .int .i64 (t.at' : Nat)]
abbrev jcb (ts : List Tk) : List Value := ts.flatMap jgZ
theorem jfC (t : Tk) : (jgZ t).length = 3 := rfl
theorem jeo (ts : List Tk) : (jcb ts).length = ts.length * 3 := jj3 jfC
theorem jiA {H : jaa} {T T' : TypeId} {n : Nat} {s : Sl} {vs ws : List Value} {b : Nat} (h : VecN H T n s vs) (hr : Row H b T' ws) (ht : T ≠ T') : s.a ≠ some (adr b) := fun e => by
 rcases h.own with ⟨h1, _⟩ | ⟨c, sp, h1, h2, _⟩
 ·rw [h1] at e; cases e
 ·rw [h1] at e; cases e; exact h2.ne hr ht rfl
structure Rdr (lo : Nat) (H : jaa) (b : Nat) (s : ByteArray) (p : Nat) (ts : List Tk) (l : Sl) : Prop where
 row : Row H b TQah [.string s, .int .i64 (p : Nat), slV l]
 vec : VecN H jbP 3 l (jcb ts)
 lb : lo ≤ b
 ll : ∀ c, l.a = some (adr c) → lo ≤ c
variable {lo : Nat} {H : jaa} {b : Nat} {s : ByteArray} {p : Nat} {ts : List Tk} {l : Sl}
theorem Rdr.c0 (h : Rdr lo H b s p ts l) : jar H (adr b) = some (.string s) := (h.row.cell 0).trans rfl
theorem Rdr.c1 (h : Rdr lo H b s p ts l) : jar H ⟨b, 1, none⟩ = some (.int .i64 (p : Nat)) := (h.row.cell 1).trans rfl
theorem Rdr.c2 (h : Rdr lo H b s p ts l) : jar H ⟨b, 2, none⟩ = some (slV l) := (h.row.cell 2).trans rfl
theorem Rdr.ext {H' : jaa} (hu : Ext H H') (h : Rdr lo H b s p ts l) : Rdr lo H' b s p ts l := ⟨hu.row h.row fun h => h, h.vec.upd hu fun _ _ h => h, h.lb, h.ll⟩
theorem Rdr.lt (h : Rdr lo H b s p ts l) : b < H.size := h.row.lt
theorem Rdr.len (h : Rdr lo H b s p ts l) : l.len = ts.length := by
 have := h.vec.len
 rw [jeo] at this
 omega
theorem jny (h : Rdr lo H b s p ts l) (hp : p ≤ s.size) {k : ByteArray → jaa → Prop} (hk : k ⟨⟨(bs s).drop p⟩⟩ H) : CallT Pg fQby [.pointer (some (adr b))] (.one (.c .str)) H k := by
 refine cQbn _ ?_
 unfold vQbn
 simp only [NilCk_some, adr_add]
 refine jap h.c0 (jaf h.c1 (jd2 rfl rfl hp (Nat.le_refl _) ?_))
 rw [List.take_of_length_le (by simp)]
 exact hk
theorem jlu (h : Rdr lo H b s p ts l) (hp : p ≤ s.size) (hs : s.size ≤ 8000) {f : FuncId} {pr : UInt8 → Bool} (hf : ∀ (c : UInt8) (H : jaa) (k : Bool → jaa → Prop), k (pr c) H → CallT Pg f [.int .u8 (c.toNat : Int)] (.one (.c .bool)) H k) {k : Int → jaa → Prop}
 (hk : k (ja0 pr ((bs s).drop p) : Nat) H) : CallT Pg fQb3 [.pointer (some (adr b)), .func (.func f) #[] #[]] (.one (.c (.int .i64))) H k := by
 refine cQbp _ _ ?_
 unfold vQbp
 simp only [NilCk_some, adr_add]
 have hle := jbK pr ((bs s).drop p)
 rw [List.length_drop, jaw] at hle
 refine LoopT.mk (fun n H' => H = H' ∧ ∃ m : Nat, n = m ∧ m ≤ ja0 pr ((bs s).drop p)) (fun n _ => ja0 pr ((bs s).drop p) - n.toNat) ⟨rfl, 0, rfl, Nat.zero_le _⟩ ?_
 rintro next _ _ ⟨rfl, m, rfl, hm⟩ hnext
 refine Jn.mk (fun j H' => H = H' ∧ j = decide (m < ja0 pr ((bs s).drop p))) (fun kk hkk => ?_) ?_
 ·refine jaf h.c1 (Lt.mk (u := ((p + m : Nat) : Int)) (by rw [jac] <;> omega) (jap h.c0 ?_))
  rcases jcd hm with ⟨c, t, h1, h2, h3⟩ | ⟨h1, h2⟩
  ·rw [List.drop_drop] at h1
   have := (drop_length h1).1
   rw [jaw] at this
   refine ja1 (by omega) (jap h.c0 (jaf h.c1 (Lt.mk (u := ((p + m : Nat) : Int)) (by rw [jac] <;> omega) (jaU h1 rfl ?_))))
   refine ⟨f, #[], #[], rfl, hf c _ _ ?_⟩
   exact jax (fun x hx => by simp only [List.mem_cons, List.not_mem_nil, or_false] at hx; rcases hx with rfl | rfl | rfl | rfl <;> first | exact h.c1 | exact h.c0) (hkk _ _ ⟨rfl, by rw [h2, decide_eq_true h3]⟩)
  ·rcases h2 with h2 | ⟨c, t, h2, h3⟩
   ·rw [List.drop_drop] at h2
    have := congrArg List.length h2
    simp only [List.length_drop, List.length_nil, jaw] at this
    exact jbS (by omega) (hkk _ _ ⟨rfl, (decide_eq_false (by omega)).symm⟩)
   ·rw [List.drop_drop] at h2
    have := (drop_length h2).1
    rw [jaw] at this
    refine ja1 (by omega) (jap h.c0 (jaf h.c1 (Lt.mk (u := ((p + m : Nat) : Int)) (by rw [jac] <;> omega) (jaU h2 rfl ?_))))
    refine ⟨f, #[], #[], rfl, hf c _ _ ?_⟩
    exact jax (fun x hx => by simp only [List.mem_cons, List.not_mem_nil, or_false] at hx; rcases hx with rfl | rfl | rfl | rfl <;> first | exact h.c1 | exact h.c0) (hkk _ _ ⟨rfl, by rw [h3, decide_eq_false (by omega)]⟩)
 ·rintro j _ ⟨rfl, rfl⟩
  refine jaj (fun hlt => Lt.mk (u := ((m + 1 : Nat) : Int)) (by rw [jac] <;> omega) (hnext _ _ ⟨rfl, m + 1, rfl, hlt⟩ (by omega))) fun hge => ?_
  have : m = ja0 pr ((bs s).drop p) := by omega
  rw [this]; exact hk
theorem jmT (h : Rdr lo H b s p ts l) (hlo : lo ≤ H.size) (hs : s.size ≤ 8000) (ht : ts.length ≤ 9000) {kind n : Nat} (hn : p + n ≤ s.size) {k : Unit → jaa → Prop}
 (hk : ∀ l' H', Rdr lo H' b s (p + n) (ts ++ [⟨kind, ((bs s).drop p).take n, p⟩]) l' → Nb lo H H' → k () H') : CallT Pg fQbw [.pointer (some (adr b)), .int .i64 (kind : Nat), .int .i64 (n : Nat)] (.tup []) H k := by
 refine cQbm _ _ _ ?_
 unfold vQbm
 simp only [NilCk_some, adr_add]
 have hz := h.lt
 refine jam (s := l) h.c2 (jap h.c0 (jaf h.c1 (jaf h.c1 (Lt.mk (u := ((p + n : Nat) : Int)) (by rw [jac] <;> omega) (jd2 rfl rfl (by omega) hn (jaf h.c1 (jaq fun b1 H1 hb1 hE1 _ hr1 => ?_)))))))
 have h1 := h.ext hE1
 refine jax (fun x hx => by simp only [List.mem_cons, List.not_mem_nil, or_false] at hx; rcases hx with rfl | rfl | rfl | rfl | rfl <;> first | exact h1.c1 | exact h1.c0 | exact h1.c2) ?_
 have hl := h1.len
 refine jjV (n := 3) rfl (by omega) h1.vec (ws := [.int .i64 (kind : Nat), .string ⟨⟨((bs s).drop p).take (p + n - p)⟩⟩, .int .i64 (p : Nat)]) hr1.rd_all rfl (by simp [Value.oneCell']) (by omega) (by simp only; omega) fun l1 H2 hv2 hl2 hU2 ha2 => ?_
 have hr2 : Row H2 b TQah [.string s, .int .i64 (p : Nat), slV l] := hU2.row h1.row fun e => jiA h1.vec h1.row (by decide) e.1
 have d1 : jar H2 ⟨b, 1, none⟩ = some (.int .i64 (p : Nat)) := (hr2.cell 1).trans rfl
 refine jax (fun x hx => by simp only [List.mem_cons, List.not_mem_nil, or_false] at hx; rcases hx with rfl | rfl | rfl | rfl <;> first | exact (hr2.cell 1).trans rfl | exact (hr2.cell 0).trans rfl) ?_
 refine jay hr2 (by simp) fun H3 hU3 _ hr3 => ?_
 refine jaf ((hr3.cell 1).trans rfl) (Lt.mk (u := ((p + n : Nat) : Int)) (by rw [jac] <;> omega) (jay hr3 (by simp) fun H4 hU4 _ hr4 => ?_))
 have hlb : ∀ c, l1.a = some (adr c) → lo ≤ c ∧ c ≠ b := fun c hc => by
  rcases ha2 with ⟨e, _⟩ | e
  ·rw [e] at hc
   exact ⟨h1.ll c hc, fun e2 => jiA h1.vec h1.row (by decide) (e2 ▸ hc)⟩
  ·rw [e] at hc; cases hc
   have := hE1.size
   exact ⟨by omega, by omega⟩
 refine hk l1 H4 ⟨hr4, ?_, h.lb, fun c hc => (hlb c hc).1⟩ ?_
 ·rw [show jcb (ts ++ [⟨kind, ((bs s).drop p).take n, p⟩]) = jcb ts ++ jgZ ⟨kind, ((bs s).drop p).take n, p⟩ by simp [jcb]]
  rw [show p + n - p = n by omega] at hv2
  exact (hv2.upd hU3 fun c hc e => (hlb c hc).2 e).upd hU4 fun c hc e => (hlb c hc).2 e
 ·have hbl := h.lb
  exact (((Nb.ex hE1).tr (hU2.mono fun c _ e => h1.ll c e.1)).tr (hU3.mono fun c _ e => by subst e; exact hbl)).tr (hU4.mono fun c _ e => by subst e; exact hbl)
theorem jes (l : Bs) (c : UInt8) : 0 ≤ Lib.indexByte l c ↔ c ∈ l := by
 induction l with
 | nil => simp [Lib.indexByte]
 | cons d l ih =>
   unfold Lib.indexByte
   have hge := Lib.indexByte_ge l c
   by_cases hd : d = c
   ·subst hd; simp
   ·rw [if_neg (by simpa using hd)]
    rw [List.mem_cons, ← ih]
    split
    ·rename_i h1
     have : Lib.indexByte l c = -1 := by simpa using h1
     constructor
     ·intro h; omega
     ·rintro (e | h)
      ·exact absurd e.symm hd
      ·omega
    ·rename_i h1
     have : Lib.indexByte l c ≠ -1 := by simpa using h1
     constructor
     ·intro h; right; omega
     ·rintro (e | h)
      ·exact absurd e.symm hd
      ·omega
theorem s_sign (h : Rdr lo H b s p ts l) (hp : p < s.size) {k : Int → jaa → Prop} (hk : ∀ H', Ext H H' → k (jbB ((bs s).drop p) : Nat) H') : CallT Pg fQb2 [.pointer (some (adr b))] (.one (.c (.int .i64))) H k := by
 refine cQbo _ ?_
 unfold vQbo
 simp only [NilCk_some, adr_add]
 refine jaq (vs := twos.map fun l => .string ⟨⟨l⟩⟩) fun b1 H1 _ hE1 _ hr1 => ?_
 have h1 := h.ext hE1
 refine LoopT.mk (fun i H' => H1 = H' ∧ ∃ m : Nat, i = m ∧ m ≤ 6 ∧ ∀ j, j < m → Lib.hasPrefix ((bs s).drop p) twos[j]! = false) (fun i _ => 6 - i.toNat) ⟨rfl, 0, rfl, by omega, fun j hj => by omega⟩ ?_
 rintro next _ _ ⟨rfl, m, rfl, hm, hno⟩ hnext
 refine jaj (fun hlt => ?_) fun hge => ?_
 ·have hlt6 : m < twos.length := by simp [twos]; omega
  refine jgc (by omega) (by omega) ?_
  rw [Int.toNat_natCast, Nat.mul_one]
  have hc : jar H1 ⟨b1, m, none⟩ = some (.string ⟨⟨twos[m]!⟩⟩) := by
   rw [hr1.cell, List.getElem?_map, List.getElem?_eq_getElem hlt6, getElem!_pos twos m hlt6]; rfl
  have hsz : ((⟨⟨twos[m]!⟩⟩ : ByteArray)).size = 2 := by
   rw [getElem!_pos twos m hlt6]
   have : ∀ x ∈ twos, x.length = 2 := by decide
   exact this _ (List.getElem_mem hlt6)
  refine jap hc (jny h1 (by omega) (jd3 ?_))
  refine Br.mk (fun hy => ?_) fun hy => Lt.mk (u := ((m + 1 : Nat) : Int)) (by rw [jac] <;> omega) (hnext _ _ ⟨rfl, m + 1, rfl, by omega, fun j hj => ?_⟩ (by omega))
  ·have : jbB ((bs s).drop p) = 2 := by
    unfold jbB
    rw [if_pos (List.any_eq_true.2 ⟨twos[m]!, by rw [getElem!_pos twos m hlt6]; exact List.getElem_mem hlt6, hy⟩)]
   rw [hsz]
   have := hk H1 hE1
   simp_all
  ·rcases Nat.lt_or_ge j m with e | e
   ·exact hno j e
   ·have : j = m := by omega
    subst this; exact hy
 ·have hm6 : m = 6 := by omega
  subst hm6
  rcases jbN (bs s) p with ⟨e, _⟩ | ⟨c, t, hd, _⟩
  ·rw [jaw] at e; omega
  refine jap h1.c0 (jaf h1.c1 (jaU hd rfl (jf4 ?_)))
  refine jax (fun x hx => by simp only [List.mem_cons, List.not_mem_nil, or_false] at hx; rcases hx with rfl | rfl <;> first | exact h1.c1 | exact h1.c0) ?_
  have hany : twos.any (fun s_1 => Lib.hasPrefix ((bs s).drop p) s_1) = false := by
   rw [List.any_eq_false]
   intro x hx
   obtain ⟨j, hj, rfl⟩ := List.getElem_of_mem hx
   have := hno j (by simpa [twos] using hj)
   rw [getElem!_pos twos j hj] at this
   simp [this]
  have hsg : jbB ((bs s).drop p) = if c ∈ ones then 1 else 0 := by
   unfold jbB
   rw [hany, hd]
   rfl
  have hi := jes ones c
  have hkk := hk H1 hE1
  rw [hsg] at hkk
  refine jaj (fun hy => ?_) fun hy => ?_
  ·rw [if_pos (hi.1 hy)] at hkk; exact hkk
  ·rw [if_neg (fun e => hy (hi.2 e))] at hkk; exact hkk
end
section
open Hc Hc.Lex
def jef (lo : Nat) (H : jaa) (r : Option Addr) (a e : Nat) : Prop := ∃ f, r = some (adr f) ∧ lo ≤ f ∧ Row H f jkH [.int .i64 (a : Nat), .int .i64 (e : Nat)]
def jjF (lo : Nat) (H H' : jaa) (b : Nat) (s : ByteArray) (p : Nat) (ts : List Tk) (r : Option Addr) : Prop :=
 Nb lo H H' ∧ ((∃ k n l', jeg ((bs s).drop p) = .tok k n ∧ r = none ∧ Rdr lo H' b s (p + n) (ts ++ [⟨k, ((bs s).drop p).take n, p⟩]) l') ∨ (∃ n, jeg ((bs s).drop p) = .err n ∧ jef lo H' r (p + n) 90))
variable {lo : Nat} {H : jaa} {b : Nat} {s : ByteArray} {p : Nat} {ts : List Tk} {l : Sl}
theorem jcg (hlo : lo ≤ H.size) {H' : jaa} {f : Nat} (hf : f = H.size) {x : Nat} (hr : Row H' f jkH [.int .i64 (x : Nat), .int .i64 90]) : jef lo H' (some (adr f)) x 90 := ⟨f, rfl, by omega, hr⟩
theorem Rdr.ps {c : UInt8} {t : Bs} (hd : (bs s).drop p = c :: t) : p < s.size ∧ s.size = p + (t.length + 1) := by
 have := drop_length hd
 rw [jaw] at this
 exact this
theorem jmg (h : Rdr lo H b s p ts l) (hlo : lo ≤ H.size) (hs : s.size ≤ 8000) (ht : ts.length ≤ 9000) {c : UInt8} {t : Bs} (hd : (bs s).drop p = c :: t) (hc1 : jaA c = false) (hc2 : jav c = false) {k : Option Addr → jaa → Prop}
 (hk : ∀ r H', jjF lo H H' b s p ts r → k r H') : CallT Pg fQbt [.pointer (some (adr b))] (.one (.c .ptr)) H k := by
 refine cQbj _ ?_
 unfold vQbj
 simp only [NilCk_some, adr_add]
 obtain ⟨hp, hsz⟩ := Rdr.ps hd
 refine s_sign h hp fun H1 hE => ?_
 have h1 := h.ext hE
 have z := hE.size
 have he : jeg ((bs s).drop p) = if jbB ((bs s).drop p) = 0 then .err 0 else .tok 3 (jbB ((bs s).drop p)) := by
  rw [hd]; unfold jeg; dsimp only; rw [hc1, hc2]; rfl
 by_cases h0 : jbB ((bs s).drop p) = 0
 ·rw [if_pos h0] at he
  rw [h0]
  refine jaf h1.c1 (jd4 fun H2 f hf hE2 hr => ?_)
  exact hk _ _ ⟨(Nb.ex hE).tr (Nb.ex hE2), .inr ⟨0, he, jcg (by omega) hf hr⟩⟩
 ·rw [if_neg h0] at he
  have hle := jhj ((bs s).drop p)
  rw [List.length_drop, jaw] at hle
  rw [show (((jbB ((bs s).drop p) : Nat) : Int) == 0) = false from beq_eq_false_iff_ne.2 (by omega)]
  refine jmT (kind := 3) h1 (by omega) hs ht (by omega) fun l' H2 hR hN => ?_
  exact hk _ _ ⟨(Nb.ex hE).tr hN, .inl ⟨3, _, l', he, rfl, hR⟩⟩
theorem s_word (h : Rdr lo H b s p ts l) (hlo : lo ≤ H.size) (hs : s.size ≤ 8000) (ht : ts.length ≤ 9000) {c : UInt8} {t : Bs} (hd : (bs s).drop p = c :: t) (hc1 : jaA c = true) {k : Option Addr → jaa → Prop}
 (hk : ∀ r H', jjF lo H H' b s p ts r → k r H') : CallT Pg fQbu [.pointer (some (adr b))] (.one (.c .ptr)) H k := by
 refine cQbk _ ?_
 unfold vQbk
 simp only [NilCk_some, adr_add]
 obtain ⟨hp, hsz⟩ := Rdr.ps hd
 refine jlu h (by omega) hs (pr := jaP) (fun _ _ _ hk => s_wordC hk) ?_
 have he : jeg ((bs s).drop p) = if ja0 jaP ((bs s).drop p) > 16 then .err 0 else .tok 1 (ja0 jaP ((bs s).drop p)) := by
  rw [hd]; unfold jeg; dsimp only; rw [hc1]; rfl
 refine jaj (fun h0 => ?_) fun h0 => ?_
 ·rw [if_pos (by omega)] at he
  refine jaf h.c1 (jd4 fun H2 f hf hE2 hr => ?_)
  exact hk _ _ ⟨Nb.ex hE2, .inr ⟨0, he, jcg hlo hf hr⟩⟩
 ·rw [if_neg (by omega)] at he
  have hle := jbK jaP ((bs s).drop p)
  rw [List.length_drop, jaw] at hle
  refine jmT (kind := 1) h hlo hs ht (by omega) fun l' H2 hR hN => ?_
  exact hk _ _ ⟨hN, .inl ⟨1, _, l', he, rfl, hR⟩⟩
theorem jmV (h : Rdr lo H b s p ts l) (hlo : lo ≤ H.size) (hg : GE lo H) (hs : s.size ≤ 8000) (ht : ts.length ≤ 9000) {c : UInt8} {t : Bs} (hd : (bs s).drop p = c :: t) (hc1 : jaA c = false) (hc2 : jav c = true) {k : Option Addr → jaa → Prop}
 (hk : ∀ r H', jjF lo H H' b s p ts r → k r H') : CallT Pg fQbv [.pointer (some (adr b))] (.one (.c .ptr)) H k := by
 refine cQbl _ ?_
 unfold vQbl
 simp only [NilCk_some, adr_add]
 obtain ⟨hp, hsz⟩ := Rdr.ps hd
 refine jlu h (by omega) hs (pr := jav) (fun _ _ _ hk => ji8 hk) ?_
 have hle := jbK jav ((bs s).drop p)
 rw [List.length_drop, jaw] at hle
 have hpos : 1 ≤ ja0 jav ((bs s).drop p) := by rw [hd]; exact jex hc2
 have hall : ∀ x ∈ ((bs s).drop p).take (ja0 jav ((bs s).drop p)), jav x = true := fun x hx => jfx hx
 have he : jeg ((bs s).drop p) = (if jdl 0 (((bs s).drop p).take (ja0 jav ((bs s).drop p))) > 9223372036854775807 ∨ (ja0 jav ((bs s).drop p) > 1 ∧ c = 48) then .err 0
  else if jbT (((bs s).drop p).drop (ja0 jav ((bs s).drop p))) then .err (ja0 jav ((bs s).drop p)) else .tok 2 (ja0 jav ((bs s).drop p))) := by
  rw [hd]; unfold jeg; dsimp only; rw [hc1, hc2]; rfl
 generalize hn : ja0 jav ((bs s).drop p) = n at *
 refine jap h.c0 (jaf h.c1 (jaf h.c1 (Lt.mk (u := ((p + n : Nat) : Int)) (by rw [jac] <;> omega) (jd2 rfl rfl (by omega) (by omega) ?_))))
 rw [show p + n - p = n by omega]
 have hy : ∃ t', ((bs s).drop p).take n = c :: t' := by
  rw [hd]
  obtain ⟨m, rfl⟩ : ∃ m, n = m + 1 := ⟨n - 1, by omega⟩
  exact ⟨t.take m, rfl⟩
 obtain ⟨t', ht'⟩ := hy
 have hpi := jfe hall (by rw [ht']; simp)
 have hsz2 : ((⟨⟨((bs s).drop p).take n⟩⟩ : ByteArray)).size ≤ 8000 := by
  show (((bs s).drop p).take n).length ≤ 8000
  simp; omega
 -- behind the number
 have tail : ∀ H1, Ext H H1 → ¬ jdl 0 (((bs s).drop p).take n) > 9223372036854775807 → ¬ (n > 1 ∧ c = 48) →
  Ld (.int .i64) ⟨b, 1, none⟩ H1 fun (x5 : Int) =>
  Lt (IntKind.wrap .i64 (x5 + (n : Nat))) fun t2 =>
  Jn (σ := Bool) (fun kk2 =>
   Ld .str (adr b) H1 fun (x6 : ByteArray) =>
   Br (decide (t2 < (x6.size : Int))) (
    Ld .str (adr b) H1 fun (x7 : ByteArray) =>
    jdP x7 t2 fun b2 =>
    CallT Pg jnx [.int .u8 b2] (.one (.c .bool)) H1 fun (r4 : Bool) H6 =>
    Br r4 (
     kk2 true H6) (
     Ld .str (adr b) H6 fun (x8 : ByteArray) =>
     jdP x8 t2 fun b3 =>
     kk2 (b3 == 95) H6)) (
    kk2 false H1)) fun j2 H5 =>
  Br j2 (
   CallT Pg jmO [.int .i64 t2, .int .i64 90] (.one (.c .ptr)) H5 fun (r5 : Option Addr) H7 =>
   k r5 H7) (
   CallT Pg fQbw [.pointer (some (adr b)), .int .i64 2, .int .i64 (n : Nat)] (.tup []) H5 fun (r6 : Unit) H8 =>
   k none H8) := by
  intro H1 hE h1 h2
  have hr := h.ext hE
  have z := hE.size
  rw [if_neg (by rintro (e | e); exact h1 e; exact h2 e)] at he
  refine jaf hr.c1 (Lt.mk (u := ((p + n : Nat) : Int)) (by rw [jac] <;> omega) (Jn.mk (fun j H' => H1 = H' ∧ j = jbT ((bs s).drop (p + n))) (fun kk hkk => ?_) ?_))
  ·refine jap hr.c0 (jaj (fun hlt => ?_) fun hge => hkk _ _ ⟨rfl, ?_⟩)
   ·rcases jbN (bs s) (p + n) with ⟨e, _⟩ | ⟨d, u, hdu, _⟩
    ·rw [jaw] at e; omega
    ·refine jap hr.c0 (jaU hdu rfl (jhr (Br.mk (fun hl => hkk _ _ ⟨rfl, by rw [hdu]; simp [jbT, hl]⟩) fun hl => jap hr.c0 (jaU hdu rfl (hkk _ _ ⟨rfl, ?_⟩)))))
     rw [hdu]; unfold jbT; dsimp only; rw [hl]; exact jbp d 95 (by decide)
   ·rw [List.drop_eq_nil_of_le (by rw [jaw]; omega)]; rfl
  ·rintro j _ ⟨rfl, rfl⟩
   rw [List.drop_drop] at he
   refine Br.mk (fun hb => ?_) fun hb => ?_
   ·rw [if_pos hb] at he
    refine jd4 fun H2 f hf hE2 hrw => ?_
    exact hk _ _ ⟨(Nb.ex hE).tr (Nb.ex hE2), .inr ⟨n, he, jcg (by omega) hf hrw⟩⟩
   ·rw [if_neg (by rw [hb]; simp)] at he
    refine jmT (kind := 2) hr (by omega) hs ht (by omega) fun l' H2 hR hN => ?_
    exact hk _ _ ⟨(Nb.ex hE).tr hN, .inl ⟨2, _, l', he, rfl, hR⟩⟩
 by_cases hbig : jdl 0 (((bs s).drop p).take n) > 9223372036854775807
 ·rw [if_neg (by omega)] at hpi
  rw [if_pos (.inl hbig)] at he
  refine jfr hg hsz2 hpi fun H1 v q hE => ?_
  have z := hE.size
  refine Jn.mk (fun j H' => H1 = H' ∧ j = true) (fun kk hkk => .inr ⟨⟨_, _, rfl⟩, hkk _ _ ⟨rfl, rfl⟩⟩) ?_
  rintro j _ ⟨rfl, rfl⟩
  refine jaf (h.ext hE).c1 (jd4 fun H2 f hf hE2 hrw => ?_)
  exact hk _ _ ⟨(Nb.ex hE).tr (Nb.ex hE2), .inr ⟨0, he, jcg (by omega) hf hrw⟩⟩
 ·rw [if_pos (by omega)] at hpi
  refine jeE hsz2 hpi fun H1 hE => ?_
  have z := hE.size
  refine Jn.mk (fun j H' => H1 = H' ∧ j = decide (n > 1 ∧ c = 48)) (fun kk hkk => .inl ⟨rfl, ?_⟩) ?_
  ·refine jaj (fun h1 => jaU (p := 0) (c := c) (t := t') ?_ rfl (hkk _ _ ⟨rfl, ?_⟩)) fun h1 => hkk _ _ ⟨rfl, (decide_eq_false (by omega)).symm⟩
   ·rw [List.drop_zero]; exact ht'
   ·rw [show (((c.toNat : Int)) == 48) = (c == UInt8.ofNat 48) from jbp c 48 (by decide), Bool.eq_iff_iff]
    simp only [beq_iff_eq, decide_eq_true_eq]
    exact ⟨fun e => ⟨by omega, e⟩, fun e => e.2⟩
  ·rintro j _ ⟨rfl, rfl⟩
   refine jaj (fun h2 => ?_) fun h2 => tail H1 hE hbig h2
   rw [if_pos (.inr h2)] at he
   refine jaf (h.ext hE).c1 (jd4 fun H2 f hf hE2 hrw => ?_)
   exact hk _ _ ⟨(Nb.ex hE).tr (Nb.ex hE2), .inr ⟨0, he, jcg (by omega) hf hrw⟩⟩
theorem Rdr.go {H' : jaa} {q : Nat} (h : Rdr lo H b s p ts l) (hU : Upd (· = b) H H') (hr : Row H' b TQah ([.string s, .int .i64 (p : Nat), slV l].set 1 (.int .i64 (q : Nat)))) : Rdr lo H' b s q ts l :=
 ⟨hr, h.vec.upd hU fun c hc e => jiA h.vec h.row (by decide) (e ▸ hc), h.lb, h.ll⟩
theorem s_skip (h : Rdr lo H b s p ts l) (hlo : lo ≤ H.size) (hg : GE lo H) (hs : s.size ≤ 8000) (hp : p ≤ s.size) {k : Option Addr → jaa → Prop}
 (hk : ∀ r H', Nb lo H H' → (∃ q, p ≤ q ∧ q ≤ s.size ∧ r = none ∧ Rdr lo H' b s q ts l ∧ jdr p ((bs s).drop p) = jdr q ((bs s).drop q) ∧ Stop ((bs s).drop q)) ∨ (∃ e, jef lo H' r e 90 ∧ jdr p ((bs s).drop p) = .error e) → k r H') :
 CallT Pg fQbq [.pointer (some (adr b))] (.one (.c .ptr)) H k := by
 refine cQbg _ ?_
 unfold vQbg
 simp only [NilCk_some, adr_add]
 refine LoopT.ghost (fun m _ H' => ∃ q, m = s.size - q ∧ p ≤ q ∧ q ≤ s.size ∧ Rdr lo H' b s q ts l ∧ jdr p ((bs s).drop p) = jdr q ((bs s).drop q) ∧ Nb lo H H') _ ⟨p, rfl, Nat.le_refl _, hp, h, rfl, .refl _ _⟩ ?_
 rintro next _ _ H1 ⟨q, rfl, hpq, hq, hr, hl, hN⟩ hnext
 have hz := hN.size
 have hbl := h.lb
 refine jaf hr.c1 (jap hr.c0 (jaj (fun hlt => ?_) fun hge => ?_))
 ·rcases jbN (bs s) q with ⟨e, _⟩ | ⟨c, t, hd, _⟩
  ·rw [jaw] at e; omega
  have hnx : ∀ n, Lex.evL ((bs s).drop q) = .skip n → 1 ≤ n → q + n ≤ s.size → ∀ {K : jaa → Prop}, (∀ H', (∃ m', m' < s.size - q ∧ ∃ q', m' = s.size - q' ∧ p ≤ q' ∧ q' ≤ s.size ∧ Rdr lo H' b s q' ts l ∧ jdr p ((bs s).drop p) = jdr q' ((bs s).drop q') ∧ Nb lo H H') → K H') → ∀ x : Int, x = ((q + n : Nat) : Int) → St ⟨b, 1, none⟩ (.int .i64 x) H1 K := by
   intro n hev hn hle K hK x hx
   subst hx
   refine jay hr.row (by simp) fun H2 hU _ hr2 => hK H2 ⟨s.size - (q + n), by omega, q + n, rfl, by omega, hle, hr.go hU hr2, ?_, hN.tr (hU.mono fun c _ e => by subst e; exact hbl)⟩
   rw [hl, jih hd (by rw [← hd]; exact hev) hn]
  refine jhB (jny hr hq (jhB ?_))
  refine jaU (p := 0) (c := c) (t := t) (by rw [jiX, List.drop_zero]; exact hd) rfl (jf4 (jhB ?_))
  have hi := jes [32, 9, 10, 13] c
  refine jaj (fun hb => ?_) fun hb => jd3 (jhB ?_)
  ·have hb2 : jbE c = true := by
    have := hi.1 hb
    unfold jbE
    simp only [List.mem_cons, List.not_mem_nil, or_false] at this
    rcases this with rfl | rfl | rfl | rfl <;> rfl
   have hev : Lex.evL ((bs s).drop q) = .skip 1 := by rw [hd]; unfold Lex.evL; dsimp only; rw [hb2]; rfl
   refine jaf hr.c1 (hnx 1 hev (by omega) (by omega) (fun H' ⟨m', h1, h2⟩ => hnext _ _ _ h1 h2) _ ?_)
   rw [jac] <;> omega
  ·have hb2 : jbE c = false := by
    have h1 : ¬ c ∈ [32, 9, 10, 13] := fun e => hb (hi.2 e)
    simp only [List.mem_cons, List.not_mem_nil, or_false, not_or] at h1
    unfold jbE
    simp [h1]
   have hev : Lex.evL ((bs s).drop q) = match jfa ((bs s).drop q) with | .to n => .skip n | .endless => .err 0 | .no => jeg ((bs s).drop q) := by
    rw [hd]; unfold Lex.evL; dsimp only; rw [hb2]; rfl
   refine Br.mk (fun h1 => ?_) fun h1 => ?_
   ·have hrm : jfa ((bs s).drop q) = .to (ja0 (fun c => c != 10) ((bs s).drop q)) := by unfold jfa; exact if_pos h1
    rw [hrm] at hev
    have hle := (jgS hrm)
    rw [List.length_drop, jaw] at hle
    refine s_Cut (hg.nb (by have := hg.lt; omega) hN) ?_ ?_
    ·show ((bs s).drop q).length < _
     simp; omega
    refine jaf hr.c1 (hnx _ hev (by omega) (by omega) (fun H' ⟨m', h1, h2⟩ => hnext _ _ _ h1 h2) _ ?_)
    have hc : ((⟨⟨(Lib.cut (bs ⟨⟨(bs s).drop q⟩⟩) (bs ⟨#[10]⟩)).1⟩⟩ : ByteArray)).size = ja0 (fun c => c != 10) ((bs s).drop q) := jmr _
    rw [hc]
    rw [jac] <;> omega
   ·refine jd3 (Br.mk (fun h2 => ?_) fun h2 => ?_)
    ·obtain ⟨u, hu⟩ := hp2 (r := (bs s).drop q) h2
     have hlen := congrArg List.length hu
     simp only [List.length_drop, List.length_cons, jaw] at hlen
     have hsz : ((⟨⟨(bs s).drop q⟩⟩ : ByteArray)).size = s.size - q := by
      show ((bs s).drop q).length = _
      simp
     refine jd2 (a := 2) (b := s.size - q) rfl (by rw [hsz]) (by omega) (by rw [hsz]; exact Nat.le_refl _) ?_
     have ey : ((bs ⟨⟨(bs s).drop q⟩⟩).drop 2).take (s.size - q - 2) = ((bs s).drop q).drop 2 := by
      rw [jiX, List.take_of_length_le]; simp only [List.length_drop, jaw]; exact Nat.le_refl _
     rw [ey]
     obtain ⟨ce1, ce2⟩ := cut_end (((bs s).drop q).drop 2)
     have hrm : jfa ((bs s).drop q) = if 0 ≤ Lib.index (((bs s).drop q).drop 2) [42, 47] then .to ((Lib.index (((bs s).drop q).drop 2) [42, 47]).toNat + 4) else .endless := by
      unfold jfa; rw [if_neg (fun e => by rw [show Lib.hasPrefix ((bs s).drop q) [47, 47] = false from h1] at e; cases e)]; exact if_pos h2
     refine s_Cut (hg.nb (by have := hg.lt; omega) hN) ?_ ?_
     ·show (((bs s).drop q).drop 2).length < _
      simp; omega
     by_cases hin : 0 ≤ Lib.index (((bs s).drop q).drop 2) [42, 47]
     ·rw [if_pos hin] at hrm
      rw [hrm] at hev
      have hle := (jgS hrm)
      rw [List.length_drop, jaw] at hle
      obtain ⟨c1, c2⟩ := ce1 hin
      have hc1 : (Lib.cut (bs ⟨⟨((bs s).drop q).drop 2⟩⟩) (bs ⟨#[42, 47]⟩)).2.2 = true := c1
      have hc2 : ((⟨⟨(Lib.cut (bs ⟨⟨((bs s).drop q).drop 2⟩⟩) (bs ⟨#[42, 47]⟩)).1⟩⟩ : ByteArray)).size = (Lib.index (((bs s).drop q).drop 2) [42, 47]).toNat := c2
      dsimp only
      rw [hc1]
      refine jaf hr.c1 (Lt.mk rfl (Lt.mk rfl (hnx _ hev (by omega) (by omega) (fun H' ⟨m', h1, h2⟩ => hnext _ _ _ h1 h2) _ ?_)))
      rw [hc2]
      rw [jac (x := 4 + _) (by omega) (by omega), jac] <;> omega
     ·rw [if_neg hin] at hrm
      rw [hrm] at hev
      have hc1 : (Lib.cut (bs ⟨⟨((bs s).drop q).drop 2⟩⟩) (bs ⟨#[42, 47]⟩)).2.2 = false := ce2 hin
      dsimp only
      rw [hc1]
      refine jaf hr.c1 (jd4 fun H2 f hf hE2 hrw => ?_)
      refine hk _ _ (hN.tr (Nb.ex hE2)) (.inr ⟨q, jcg (by omega) hf hrw, ?_⟩)
      rw [hl, jfA hd (by rw [← hd]; exact hev)]
      rfl
    ·have hrm : jfa ((bs s).drop q) = .no := by
      unfold jfa
      rw [if_neg (fun e => by rw [show Lib.hasPrefix ((bs s).drop q) [47, 47] = false from h1] at e; cases e), if_neg (fun e => by rw [show Lib.hasPrefix ((bs s).drop q) [47, 42] = false from h2] at e; cases e)]
     exact hk _ _ hN (.inl ⟨q, hpq, hq, rfl, hr, hl, .inr ⟨c, t, hd, hb2, hrm⟩⟩)
 ·have e : q = s.size := by omega
  have hnil : (bs s).drop q = [] := List.drop_eq_nil_of_le (by rw [jaw]; omega)
  exact hk _ _ hN (.inl ⟨q, hpq, hq, rfl, hr, hl, .inl hnil⟩)
end
section
open Hc Hc.Lex
structure Core (lo : Nat) (H0 H : jaa) (b : Nat) (s : ByteArray) (q : Nat) (ts : List Tk) (l : Sl) : Prop where
 rdr : Rdr lo H b s q ts l
 lex : jdr 0 (bs s) = pre ts (jdr q ((bs s).drop q))
 len : ts.length ≤ q
 le : q ≤ s.size
 nb : Nb lo H0 H
variable {lo : Nat} {H0 H : jaa} {b : Nat} {s : ByteArray} {q : Nat} {ts : List Tk} {l : Sl}
theorem Core.tok (h : Core lo H0 H b s q ts l) {c : UInt8} {t : Bs} (hd : (bs s).drop q = c :: t) (hst : Stop ((bs s).drop q)) {H' : jaa} {r : Option Addr} (ho : jjF lo H H' b s q ts r) :
 (∃ n ts' l', r = none ∧ 1 ≤ n ∧ Core lo H0 H' b s (q + n) ts' l') ∨ (∃ e, jef lo H' r e 90 ∧ jdr 0 (bs s) = .error e ∧ Nb lo H0 H') := by
 have hev := Stop.ev (hd ▸ hst)
 obtain ⟨hN, ⟨k, n, l', he, hr, hR⟩ | ⟨n, he, hF⟩⟩ := ho
 ·have hle := jg0 he
  rw [List.length_drop, jaw] at hle
  rw [hd] at he
  refine .inl ⟨n, _, l', hr, hle.1, hR, ?_, ?_, by omega, h.nb.tr hN⟩
  ·rw [h.lex, jj2 hd (hev.trans he) hle.1, ji9]
  ·have := h.len
   simp; omega
 ·rw [hd] at he
  refine .inr ⟨_, hF, ?_, h.nb.tr hN⟩
  rw [h.lex, jfA hd (hev.trans he)]; rfl
theorem s_all (h : Rdr lo H b s 0 [] l) (hlo : lo ≤ H.size) (hg : GE lo H) (hs : s.size ≤ 8000) {k : Option Addr → jaa → Prop}
 (hk : ∀ r H', Nb lo H H' → (∃ ts l, r = none ∧ Rdr lo H' b s s.size ts l ∧ jdr 0 (bs s) = .ok ts) ∨ (∃ e, jef lo H' r e 90 ∧ jdr 0 (bs s) = .error e) → k r H') :
 CallT Pg fQbj [.pointer (some (adr b))] (.one (.c .ptr)) H k := by
 refine cQbf _ ?_
 unfold vQbf
 simp only [NilCk_some, adr_add]
 -- between two tokens
 have between : ∀ (q : Nat) (ts : List Tk) (l : Sl) (H1 : jaa) (jump : Nat → Option Addr → jaa → Prop), Core lo H H1 b s q ts l →
  (∀ ts l H2, Core lo H H2 b s s.size ts l → jump 1 none H2) →
  (∀ q' ts l H2 c t, q ≤ q' → Core lo H H2 b s q' ts l → (bs s).drop q' = c :: t → Stop ((bs s).drop q') → jaA c = true → jump 2 none H2) →
  (∀ q' ts l H2 c t, q ≤ q' → Core lo H H2 b s q' ts l → (bs s).drop q' = c :: t → Stop ((bs s).drop q') → jaA c = false → jav c = true → jump 3 none H2) →
  (∀ q' ts l H2, q < q' → Core lo H H2 b s q' ts l → jump 4 none H2) →
  (∀ r e H2, jef lo H2 r e 90 → jdr 0 (bs s) = .error e → Nb lo H H2 → jump 4 r H2) →
  CallT Pg fQbq [.pointer (some (adr b))] (.one (.c .ptr)) H1 fun (r1 : Option Addr) H1 =>
  Br (!r1.isNone) (
   k r1 H1) (
   Ld (.int .i64) ⟨b, 1, none⟩ H1 fun (x1 : Int) =>
   Ld .str (adr b) H1 fun (x2 : ByteArray) =>
   Br (x1 == (x2.size : Int)) (
    jump 1 r1 H1) (
    Ld .str (adr b) H1 fun (x3 : ByteArray) =>
    Ld (.int .i64) ⟨b, 1, none⟩ H1 fun (x4 : Int) =>
    jdP x3 x4 fun b1 =>
    CallT Pg jnx [.int .u8 b1] (.one (.c .bool)) H1 fun (r2 : Bool) H2 =>
    Br r2 (
     jump 2 r1 H2) (
     CallT Pg fQbs [.int .u8 b1] (.one (.c .bool)) H2 fun (r3 : Bool) H3 =>
     Br r3 (
      jump 3 r1 H3) (
      CallT Pg fQbt [.pointer (some (adr b))] (.one (.c .ptr)) H3 fun (r4 : Option Addr) H4 =>
      jump 4 r4 H4)))) := by
  intro q ts l H1 jump hC h1 h2 h3 h4 h5
  have z := hC.nb.size
  have hlen := hC.len
  refine s_skip hC.rdr (by omega) (hg.nb hg.lt hC.nb) hs hC.le fun r H2 hN ho => ?_
  have z2 := hN.size
  rcases ho with ⟨q', hq, hq2, rfl, hR, hl, hst⟩ | ⟨e, hF, he⟩
  ·have hC2 : Core lo H H2 b s q' ts l := ⟨hR, by rw [hC.lex, hl], by omega, hq2, hC.nb.tr hN⟩
   refine jaf hR.c1 (jap hR.c0 ?_)
   by_cases hend : q' = s.size
   ·subst hend
    rw [show ((((s.size : Nat) : Int)) == (s.size : Int)) = true from beq_self_eq_true _]
    exact h1 _ _ _ hC2
   ·rw [show (((q' : Nat) : Int) == (s.size : Int)) = false from beq_eq_false_iff_ne.2 (by omega)]
    rcases jbN (bs s) q' with ⟨e, _⟩ | ⟨c, t, hd, _⟩
    ·rw [jaw] at e; omega
    refine jap hR.c0 (jaf hR.c1 (jaU hd rfl (jhr (Br.mk (fun hc => h2 _ _ _ _ c t hq hC2 hd hst hc) fun hc => ji8 (Br.mk (fun hc2 => h3 _ _ _ _ c t hq hC2 hd hst hc hc2) fun hc2 => ?_)))))
    refine jmg hR (by omega) hs (by omega) hd hc hc2 fun r H3 ho => ?_
    rcases hC2.tok hd hst ho with ⟨n, ts', l', rfl, hn, hC3⟩ | ⟨e, hF, he, hN3⟩
    ·exact h4 _ _ _ _ (by omega) hC3
    ·exact h5 _ _ _ hF he hN3
  ·obtain ⟨f, rfl, hf, hrow⟩ := hF
   refine hk _ _ (hC.nb.tr hN) (.inr ⟨e, ⟨f, rfl, hf, hrow⟩, ?_⟩)
   rw [hC.lex, he]; rfl
 have hC0 : Core lo H H b s 0 [] l := ⟨h, by rw [List.drop_zero, jiQ], Nat.le_refl _, Nat.zero_le _, .refl _ _⟩
 refine JumpT.ghost (fun m lb f H1 => match lb with
  | 0 => ∃ q ts l, m = 3 * (s.size - q) + 1 ∧ Core lo H H1 b s q ts l
  | 1 => ∃ ts l, m = 0 ∧ Core lo H H1 b s s.size ts l
  | 2 => ∃ q ts l c t, m = 3 * (s.size - q) ∧ Core lo H H1 b s q ts l ∧ (bs s).drop q = c :: t ∧ Stop ((bs s).drop q) ∧ jaA c = true
  | 3 => ∃ q ts l c t, m = 3 * (s.size - q) ∧ Core lo H H1 b s q ts l ∧ (bs s).drop q = c :: t ∧ Stop ((bs s).drop q) ∧ jaA c = false ∧ jav c = true
  | _ => (∃ q ts l, f = none ∧ m = 3 * (s.size - q) + 2 ∧ Core lo H H1 b s q ts l) ∨ (∃ e, m = 0 ∧ jef lo H1 f e 90 ∧ jdr 0 (bs s) = .error e ∧ Nb lo H H1)) (fun jump hj => ?_) ?_
 ·exact between 0 [] l H jump hC0 (fun ts l H2 hC => hj 0 1 _ _ ⟨ts, l, rfl, hC⟩) (fun q ts l H2 c t _ hC h1 h2 h3 => hj _ 2 _ _ ⟨q, ts, l, c, t, rfl, hC, h1, h2, h3⟩)
   (fun q ts l H2 c t _ hC h1 h2 h3 h4 => hj _ 3 _ _ ⟨q, ts, l, c, t, rfl, hC, h1, h2, h3, h4⟩) (fun q ts l H2 _ hC => hj _ 4 _ _ (.inl ⟨q, ts, l, rfl, rfl, hC⟩)) (fun r e H2 hF he hN => hj 0 4 _ _ (.inr ⟨e, rfl, hF, he, hN⟩))
 ·intro pz hpz jump m f H1 hI hj
  simp only [List.mem_cons, List.not_mem_nil, or_false] at hpz
  rcases hpz with rfl | rfl | rfl | rfl | rfl
  ·obtain ⟨q, ts, l, rfl, hC⟩ := hI
   have hq := hC.le
   exact between q ts l H1 jump hC (fun ts l H2 hC => hj 0 1 _ _ (by omega) ⟨ts, l, rfl, hC⟩) (fun q' ts l H2 c t hle hC h1 h2 h3 => hj _ 2 _ _ (by omega) ⟨q', ts, l, c, t, rfl, hC, h1, h2, h3⟩)
    (fun q' ts l H2 c t hle hC h1 h2 h3 h4 => hj _ 3 _ _ (by omega) ⟨q', ts, l, c, t, rfl, hC, h1, h2, h3, h4⟩) (fun q' ts l H2 hlt hC => hj _ 4 _ _ (by have := hC.le; omega) (.inl ⟨q', ts, l, rfl, rfl, hC⟩)) (fun r e H2 hF he hN => hj 0 4 _ _ (by omega) (.inr ⟨e, rfl, hF, he, hN⟩))
  ·obtain ⟨ts, l, rfl, hC⟩ := hI
   have z := hC.nb.size
   have hlen := hC.len
   refine jmT (kind := 0) (n := 0) hC.rdr (by omega) hs (by omega) (by omega) fun l' H2 hR hN => ?_
   refine hk _ _ (hC.nb.tr hN) (.inl ⟨_, l', rfl, hR, ?_⟩)
   have hnil : (bs s).drop s.size = [] := List.drop_eq_nil_of_le (by rw [jaw]; omega)
   rw [hC.lex, hnil, jhm]; rfl
  ·obtain ⟨q, ts, l, c, t, rfl, hC, hd, hst, hc⟩ := hI
   have z := hC.nb.size
   have hlen := hC.len
   have hle := hC.le
   obtain ⟨hp, _⟩ := Rdr.ps hd
   refine s_word hC.rdr (by omega) hs (by omega) hd hc fun r H2 ho => ?_
   rcases hC.tok hd hst ho with ⟨n, ts', l', rfl, hn, hC3⟩ | ⟨e, hF, he, hN3⟩
   ·exact hj _ 4 _ _ (by have := hC3.le; omega) (.inl ⟨_, _, _, rfl, rfl, hC3⟩)
   ·exact hj 0 4 _ _ (by omega) (.inr ⟨e, rfl, hF, he, hN3⟩)
  ·obtain ⟨q, ts, l, c, t, rfl, hC, hd, hst, hc, hc2⟩ := hI
   have z := hC.nb.size
   have hlen := hC.len
   have hle := hC.le
   obtain ⟨hp, _⟩ := Rdr.ps hd
   dsimp only
   refine jmV hC.rdr (by omega) (hg.nb hg.lt hC.nb) hs (by omega) hd hc hc2 fun r H2 ho => ?_
   rcases hC.tok hd hst ho with ⟨n, ts', l', rfl, hn, hC3⟩ | ⟨e, ⟨f, rfl, hf, hrow⟩, he, hN3⟩
   ·exact hj _ 0 _ _ (by have := hC3.le; omega) ⟨_, _, _, rfl, hC3⟩
   ·exact hk _ _ hN3 (.inr ⟨e, ⟨f, rfl, hf, hrow⟩, he⟩)
  ·rcases hI with ⟨q, ts, l, rfl, rfl, hC⟩ | ⟨e, rfl, ⟨f, rfl, hf, hrow⟩, he, hN⟩
   ·exact hj _ 0 _ _ (by omega) ⟨q, ts, l, rfl, hC⟩
   ·exact hk _ _ hN (.inr ⟨e, ⟨f, rfl, hf, hrow⟩, he⟩)
def jfR (s : ByteArray) : Except (Nat × Nat) (List Tk) :=
 if 8000 < s.size then .error (8000, 102) else match jdr 0 (bs s) with
  | .ok l => .ok l
  | .error e => .error (e, 90)
def LexOut (lo : Nat) (H : jaa) (s : ByteArray) (r : Sl) (v : Value) : Prop :=
 match jfR s with
 | .ok ts => v = .nilIface ∧ VecN H jbP 3 r (jcb ts) ∧ ∀ c, r.a = some (adr c) → lo ≤ c
 | .error (a, e) => r = ⟨none, 0, 0⟩ ∧ ∃ f, v = .iface jkO (.pointer (some (adr f))) ∧ lo ≤ f ∧ Row H f jkH [.int .i64 (a : Nat), .int .i64 (e : Nat)]
theorem s_Lex (hg : GE H.size H) {k : Sl × Value → jaa → Prop} (hk : ∀ r H', Ext H H' → LexOut H.size H' s r.1 r.2 → k r H') : CallT Pg fQbg [.string s] (.tup [(.c .sl), (.c .raw)]) H k := by
 refine cQbd _ ?_
 unfold vQbd
 have ofNb : ∀ {H'}, Nb H.size H H' → Ext H H' := fun h => h.mono fun b hb h => by omega
 refine jaj (fun hbig => ?_) fun hsmall => ?_
 ·refine jd4 fun H1 f hf hE hr => hk _ _ hE ?_
  unfold LexOut jfR
  rw [if_pos (by omega)]
  exact ⟨rfl, f, rfl, by omega, hr⟩
 ·refine jaq fun b1 H1 hb hE hz hr => ?_
  have hR : Rdr H.size H1 b1 s 0 [] ⟨none, 0, 0⟩ := ⟨hr, ⟨rfl, .inl ⟨rfl, rfl, rfl⟩, Nat.le_refl _⟩, by omega, fun c e => by cases e⟩
  refine s_all hR (by omega) (hg.ext hE) (by omega) fun r H2 hN ho => ?_
  have hE2 := ofNb ((Nb.ex hE).tr hN)
  rcases ho with ⟨ts, l, rfl, hR2, hl⟩ | ⟨e, ⟨f, rfl, hf, hrow⟩, he⟩
  ·simp only [NilCk_some, adr_add]
   refine jam (s := l) hR2.c2 (hk _ _ hE2 ?_)
   unfold LexOut jfR
   rw [if_neg (by omega), hl]
   exact ⟨rfl, hR2.vec, hR2.ll⟩
  ·refine hk _ _ hE2 ?_
   unfold LexOut jfR
   rw [if_neg (by omega), he]
   exact ⟨rfl, f, rfl, hf, hrow⟩
end
section
open Hc Hc.Lex
variable {lo : Nat} {H : jaa} {s : ByteArray} {p : Nat}
theorem jkI {x : Bool} {X Y : Prop} (h : Br x Y X) : Br (!x) X Y := by cases x <;> exact h
theorem jek (r l : Bs) : Lib.hasPrefix r l = decide (l.length ≤ r.length ∧ r.take l.length = l) := by
 rw [Bool.eq_iff_iff]
 simp only [Lib.hasPrefix, List.isPrefixOf_iff_prefix, decide_eq_true_eq]
 rw [List.prefix_iff_eq_take]
 constructor
 ·intro h
  refine ⟨?_, h.symm⟩
  have := congrArg List.length h
  simp only [List.length_take] at this
  omega
 ·exact fun h => h.2.symm
theorem jfw {lit : ByteArray} (hs : s.size ≤ 8000) (hp : p ≤ s.size) (hl : lit.size ≤ 8000) {k : Bool → jaa → Prop} (hk : k (Lib.hasPrefix ((bs s).drop p) (bs lit)) H) :
 CallT Pg fQbx [.string s, .int .i64 (p : Nat), .string lit] (.one (.c .bool)) H k := by
 refine cQbz _ _ _ ?_
 unfold vQbz
 rw [jek] at hk
 simp only [jaw, List.length_drop] at hk
 refine Jn.mk (fun j H' => H = H' ∧ j = decide (lit.size ≤ s.size - p ∧ ((bs s).drop p).take lit.size = bs lit)) (fun kk hkk => ?_) (by rintro j _ ⟨rfl, rfl⟩; exact hk)
 refine Lt.mk (u := ((p + lit.size : Nat) : Int)) (by rw [jac] <;> omega) (jaj (fun h => ?_) fun h => hkk _ _ ⟨rfl, ?_⟩)
 ·refine Lt.mk (u := ((p + lit.size : Nat) : Int)) (by rw [jac] <;> omega) (jd2 rfl rfl (by omega) (by omega) (hkk _ _ ⟨rfl, ?_⟩))
  rw [ja3, jiX, show p + lit.size - p = lit.size by omega]
  exact decide_eq_decide.2 ⟨fun e => ⟨by omega, e⟩, fun e => e.2⟩
 ·exact (decide_eq_false (fun e => by omega)).symm
def remI (p : Nat) : Rem → Int
 | .no => p
 | .to n => (p + n : Nat)
 | .endless => -1
theorem jmz (hs : s.size ≤ 8000) (hp : p ≤ s.size) {k : Int → jaa → Prop} (hk : k (remI p (jfa ((bs s).drop p))) H) :
 CallT Pg fQbk [.string s, .int .i64 (p : Nat)] (.one (.c (.int .i64))) H k := by
 refine cQbt _ _ ?_
 unfold vQbt
 refine jfw hs hp (by decide) (Br.mk (fun h1 => ?_) fun h1 => jfw hs hp (by decide) (jkI (Br.mk (fun h2 => ?_) fun h2 => ?_)))
 ·have hrm : jfa ((bs s).drop p) = .to (ja0 (fun c => c != 10) ((bs s).drop p)) := by unfold jfa; exact if_pos h1
  rw [hrm] at hk
  have hle := jbK (fun c => c != 10) ((bs s).drop p)
  rw [List.length_drop, jaw] at hle
  refine LoopT.mk (fun n H' => H = H' ∧ ∃ m : Nat, n = ((p + m : Nat) : Int) ∧ m ≤ ja0 (fun c => c != 10) ((bs s).drop p)) (fun n _ => s.size - n.toNat) ⟨rfl, 0, rfl, Nat.zero_le _⟩ ?_
  rintro next _ _ ⟨rfl, m, rfl, hm⟩ hnext
  refine Jn.mk (fun j H' => H = H' ∧ j = decide (m < ja0 (fun c => c != 10) ((bs s).drop p))) (fun kk hkk => ?_) ?_
  ·rcases jcd hm with ⟨c, t, g1, g2, g3⟩ | ⟨g1, g2⟩
   ·rw [List.drop_drop] at g1
    have := Rdr.ps g1
    refine ja1 (by omega) (jaU g1 rfl (hkk _ _ ⟨rfl, ?_⟩))
    rw [decide_eq_true g3]
    rw [show (((c.toNat : Int)) != 10) = (c != 10) by unfold bne; rw [show (((c.toNat : Int)) == 10) = (c == UInt8.ofNat 10) from jbp c 10 (by decide)]; rfl]
    exact g2
   ·rcases g2 with g2 | ⟨c, t, g2, g3⟩
    ·rw [List.drop_drop] at g2
     have := congrArg List.length g2
     simp only [List.length_drop, List.length_nil, jaw] at this
     exact jbS (by omega) (hkk _ _ ⟨rfl, (decide_eq_false (by omega)).symm⟩)
    ·rw [List.drop_drop] at g2
     have := Rdr.ps g2
     refine ja1 (by omega) (jaU g2 rfl (hkk _ _ ⟨rfl, ?_⟩))
     rw [decide_eq_false (by omega)]
     rw [show (((c.toNat : Int)) != 10) = (c != 10) by unfold bne; rw [show (((c.toNat : Int)) == 10) = (c == UInt8.ofNat 10) from jbp c 10 (by decide)]; rfl]
     exact g3
  ·rintro j _ ⟨rfl, rfl⟩
   refine jaj (fun hlt => Lt.mk (u := ((p + (m + 1) : Nat) : Int)) (by rw [jac] <;> omega) (hnext _ _ ⟨rfl, m + 1, rfl, hlt⟩ (by omega))) fun hge => ?_
   have : m = ja0 (fun c => c != 10) ((bs s).drop p) := by omega
   rw [← this] at hk; exact hk
 ·obtain ⟨u, hu⟩ := hp2 (r := (bs s).drop p) h2
  have hlen := congrArg List.length hu
  simp only [List.length_drop, List.length_cons, jaw] at hlen
  have hrm : jfa ((bs s).drop p) = if 0 ≤ Lib.index (((bs s).drop p).drop 2) [42, 47] then .to ((Lib.index (((bs s).drop p).drop 2) [42, 47]).toNat + 4) else .endless := by
   unfold jfa; rw [if_neg (fun e => by rw [show Lib.hasPrefix ((bs s).drop p) [47, 47] = false from h1] at e; cases e)]; exact if_pos h2
  have hl2 : (((bs s).drop p).drop 2).length = s.size - p - 2 := by simp only [List.length_drop, jaw]
  refine Lt.mk (u := ((p + 2 : Nat) : Int)) (by rw [jac] <;> omega) ?_
  refine LoopT.mk (fun n H' => H = H' ∧ ∃ m : Nat, n = ((p + 2 + m : Nat) : Int) ∧ p + 2 + m ≤ s.size ∧ ∀ j, j < m → Lib.occAt (((bs s).drop p).drop 2) [42, 47] j = false) (fun n _ => s.size - n.toNat) ⟨rfl, 0, rfl, by omega, fun j hj => by omega⟩ ?_
  rintro next _ _ ⟨rfl, m, rfl, hm, hno⟩ hnext
  refine jaj (fun hlt => jfw hs (by omega) (by decide) ?_) fun hge => ?_
  ·have hoc : Lib.hasPrefix ((bs s).drop (p + 2 + m)) (bs ⟨#[42, 47]⟩) = Lib.occAt (((bs s).drop p).drop 2) [42, 47] m := by
    unfold Lib.occAt; rw [List.drop_drop, List.drop_drop, Nat.add_assoc]; rfl
   rw [hoc]
   refine Br.mk (fun hy => ?_) fun hy => ?_
   ·have hix := Lib.index_first (by omega) hy hno
    rw [hix, if_pos (by omega)] at hrm
    rw [hrm] at hk
    refine Lt.mk (u := ((p + 2 + m + 2 : Nat) : Int)) (by rw [jac] <;> omega) ?_
    have e : remI p (.to ((m : Int).toNat + 4)) = ((p + 2 + m + 2 : Nat) : Int) := by unfold remI; dsimp only; omega
    rw [e] at hk; exact hk
   ·refine Lt.mk (u := ((p + 2 + (m + 1) : Nat) : Int)) (by rw [jac] <;> omega) (hnext _ _ ⟨rfl, m + 1, rfl, by omega, fun j hj => ?_⟩ (by omega))
    rcases Nat.lt_or_ge j m with e | e
    ·exact hno j e
    ·have : j = m := by omega
     subst this; exact hy
  ·rcases Lib.index_spec (((bs s).drop p).drop 2) [42, 47] with ⟨g1, _⟩ | ⟨i, g1, g2, g3, _⟩
   ·rw [g1] at hrm
    rw [hrm] at hk
    exact hk
   ·rcases Lib.occAt_room g3 with e | e
    ·simp only [List.length_cons, List.length_nil] at e
     rw [hno i (by omega)] at g3; cases g3
    ·cases e
 ·have hrm : jfa ((bs s).drop p) = .no := by
   unfold jfa
   rw [if_neg (fun e => by rw [show Lib.hasPrefix ((bs s).drop p) [47, 47] = false from h1] at e; cases e), if_neg (fun e => by rw [show Lib.hasPrefix ((bs s).drop p) [47, 42] = false from h2] at e; cases e)]
  rw [hrm] at hk
  exact hk
theorem s_rword (hs : s.size ≤ 8000) (hp : p ≤ s.size) {k : Int → jaa → Prop} (hk : k ((p + ja0 jaP ((bs s).drop p) : Nat) : Int) H) :
 CallT Pg fQbo [.string s, .int .i64 (p : Nat)] (.one (.c (.int .i64))) H k := by
 refine cQbx _ _ ?_
 unfold vQbx
 have hle := jbK jaP ((bs s).drop p)
 rw [List.length_drop, jaw] at hle
 refine LoopT.mk (fun n H' => H = H' ∧ ∃ m : Nat, n = ((p + m : Nat) : Int) ∧ m ≤ ja0 jaP ((bs s).drop p)) (fun n _ => s.size - n.toNat) ⟨rfl, 0, rfl, Nat.zero_le _⟩ ?_
 rintro next _ _ ⟨rfl, m, rfl, hm⟩ hnext
 have step : ∀ (c : UInt8) (t : Bs), (bs s).drop (p + m) = c :: t → (jaP c = true → m < ja0 jaP ((bs s).drop p)) → (jaP c = false → m = ja0 jaP ((bs s).drop p)) →
  jdP s ((p + m : Nat) : Int) fun b1 =>
   CallT Pg fQbl [.int .u8 b1] (.one (.c .bool)) H fun (r1 : Bool) H2 =>
   jdP s ((p + m : Nat) : Int) fun b2 =>
   CallT Pg fQbm [.int .u8 b2] (.one (.c .bool)) H2 fun (r2 : Bool) H3 =>
   Jn (σ := Bool) (fun kk1 =>
    Br (!r1) (
     Br (!r2) (
      jdP s ((p + m : Nat) : Int) fun b3 =>
      kk1 (b3 != 95) H3) (
      kk1 false H3)) (
     kk1 false H3)) fun j1 H4 =>
   Br j1 (
    k ((p + m : Nat) : Int) H4) (
    Lt (IntKind.wrap .i64 (((p + m : Nat) : Int) + 1)) fun t1 =>
    next t1 H4) := by
  intro c t hd h1 h2
  have hps := Rdr.ps hd
  refine jaU hd rfl (jgb (jaU hd rfl (jjA (Jn.mk (fun j H' => H = H' ∧ j = !jaP c) (fun kk hkk => ?_) ?_))))
  ·cases hl : jaA c
   ·cases hdg : jav c
    ·show jdP s ((p + m : Nat) : Int) fun b3 => kk (b3 != 95) H
     refine jaU hd rfl (hkk _ _ ⟨rfl, ?_⟩)
     unfold jaP
     rw [hl, hdg]
     unfold bne
     rw [show (((c.toNat : Int)) == 95) = (c == UInt8.ofNat 95) from jbp c 95 (by decide)]
     rfl
    ·exact hkk _ _ ⟨rfl, by simp [jaP, hl, hdg]⟩
   ·exact hkk _ _ ⟨rfl, by simp [jaP, hl]⟩
  ·rintro j _ ⟨rfl, rfl⟩
   cases hw : jaP c
   ·have := h2 hw
    rw [← this] at hk
    exact hk
   ·have := h1 hw
    show Lt (IntKind.wrap .i64 (((p + m : Nat) : Int) + 1)) fun t1 => next t1 H
    exact Lt.mk (u := ((p + (m + 1) : Nat) : Int)) (by rw [jac] <;> omega) (hnext _ _ ⟨rfl, m + 1, rfl, this⟩ (by omega))
 rcases jcd hm with ⟨c, t, g1, g2, g3⟩ | ⟨g1, g2⟩
 ·rw [List.drop_drop] at g1
  have := Rdr.ps g1
  exact ja1 (by omega) (step c t g1 (fun _ => g3) (fun e => by rw [g2] at e; cases e))
 ·rcases g2 with g2 | ⟨c, t, g2, g3⟩
  ·rw [List.drop_drop] at g2
   have := congrArg List.length g2
   simp only [List.length_drop, List.length_nil, jaw] at this
   refine jbS (by omega) ?_
   rw [← g1] at hk
   exact hk
  ·rw [List.drop_drop] at g2
   have := Rdr.ps g2
   exact ja1 (by omega) (step c t g2 (fun e => by rw [g3] at e; cases e) (fun _ => g1))
theorem jhR : ∀ (l : Bs) (a : Nat) (c : UInt8), jdl a (l ++ [c]) = jdl a l * 10 + (c.toNat - 48)
 | [], _, _ => rfl
 | _ :: t, _, c => jhR t _ c
theorem jgs {r : Bs} {m : Nat} {c : UInt8} {t : Bs} (h : r.drop m = c :: t) : r.take (m + 1) = r.take m ++ [c] := by
 have h1 : r[m]? = some c := by
  have := congrArg (fun l => l[0]?) h
  simpa using this
 rw [List.take_add_one, h1]; rfl
theorem jld (hs : s.size ≤ 8000) {c0 : UInt8} {t0 : Bs} (hd0 : (bs s).drop p = c0 :: t0) (hc0 : jav c0 = true) {k : Int × Bool → jaa → Prop}
 (hk : k (((p + ja0 jav ((bs s).drop p) : Nat) : Int), decide (¬ (jdl 0 (((bs s).drop p).take (ja0 jav ((bs s).drop p))) > 9223372036854775807 ∨ (ja0 jav ((bs s).drop p) > 1 ∧ c0 = 48)))) H) :
 CallT Pg fQbp [.string s, .int .i64 (p : Nat)] (.tup [(.c (.int .i64)), (.c .bool)]) H k := by
 refine cQby _ _ ?_
 unfold vQby
 have hps := Rdr.ps hd0
 have hle := jbK jav ((bs s).drop p)
 rw [List.length_drop, jaw] at hle
 have hpos : 1 ≤ ja0 jav ((bs s).drop p) := by rw [hd0]; exact jex hc0
 refine LoopT.mk (fun (st : Int × Int × Bool) H' => H = H' ∧ ∃ m : Nat, st.1 = ((p + m : Nat) : Int) ∧ m ≤ ja0 jav ((bs s).drop p) ∧ st.2.2 = decide (jdl 0 (((bs s).drop p).take m) > 9223372036854775807) ∧ (st.2.2 = false → st.2.1 = (jdl 0 (((bs s).drop p).take m) : Nat)))
  (fun st _ => s.size - st.1.toNat) ⟨rfl, 0, rfl, Nat.zero_le _, rfl, fun _ => rfl⟩ ?_
 rintro next ⟨x, n, great⟩ _ ⟨rfl, m, hx, hm, hgr, hn⟩ hnext
 dsimp only at hx hgr hn ⊢
 subst hx
 refine Jn.mk (fun j H' => H = H' ∧ j = decide (m < ja0 jav ((bs s).drop p))) (fun kk hkk => ?_) ?_
 ·have dig : ∀ (c : UInt8) (t : Bs), (bs s).drop (p + m) = c :: t → jav c = decide (m < ja0 jav ((bs s).drop p)) → jdP s ((p + m : Nat) : Int) fun b1 =>
   Br (decide (b1 ≥ 48)) (
    jdP s ((p + m : Nat) : Int) fun b2 =>
    kk (decide (b2 ≤ 57)) H) (
    kk false H) := by
   intro c t hd h
   refine jaU hd rfl (jaj (fun h1 => jaU hd rfl (hkk _ _ ⟨rfl, ?_⟩)) fun h1 => hkk _ _ ⟨rfl, ?_⟩)
   ·rw [← h, jby]; exact decide_eq_decide.2 (by omega)
   ·rw [← h, jby]; exact (decide_eq_false (by omega)).symm
  rcases jcd hm with ⟨c, t, g1, g2, g3⟩ | ⟨g1, g2⟩
  ·rw [List.drop_drop] at g1
   have := Rdr.ps g1
   exact ja1 (by omega) (dig c t g1 (by rw [g2, decide_eq_true g3]))
  ·rcases g2 with g2 | ⟨c, t, g2, g3⟩
   ·rw [List.drop_drop] at g2
    have := congrArg List.length g2
    simp only [List.length_drop, List.length_nil, jaw] at this
    exact jbS (by omega) (hkk _ _ ⟨rfl, (decide_eq_false (by omega)).symm⟩)
   ·rw [List.drop_drop] at g2
    have := Rdr.ps g2
    exact ja1 (by omega) (dig c t g2 (by rw [g3, decide_eq_false (by omega)]))
 ·rintro j _ ⟨rfl, rfl⟩
  refine jaj (fun hlt => ?_) fun hge => ?_
  ·rcases jcd hm with ⟨c, t, g1, g2, g3⟩ | ⟨g1, g2⟩
   ·have htk := jgs g1
    rw [List.drop_drop] at g1
    have := Rdr.ps g1
    rw [jby, decide_eq_true_eq] at g2
    have hdec : jdl 0 (((bs s).drop p).take (m + 1)) = jdl 0 (((bs s).drop p).take m) * 10 + (c.toNat - 48) := by rw [htk, jhR]
    refine jaU g1 rfl (Lt.mk (u := ((c.toNat - 48 : Nat) : Int)) (by rw [wrap_u8]; omega) ?_)
    rw [jb0 (x := ((c.toNat - 48 : Nat) : Int)) (by omega) (by omega)]
    refine Jn.mk (fun g H' => H = H' ∧ g = decide (jdl 0 (((bs s).drop p).take (m + 1)) > 9223372036854775807)) (fun kk hkk => ?_) ?_
    ·refine Br.mk (fun hg => hkk _ _ ⟨rfl, ?_⟩) fun hg => ?_
     ·rw [hg] at hgr
      have := of_decide_eq_true hgr.symm
      exact (decide_eq_true (by omega)).symm
     ·have hn2 := hn hg
      rw [hg] at hgr
      have := of_decide_eq_false hgr.symm
      refine Lt.mk (u := 9223372036854775807 - ((c.toNat - 48 : Nat) : Int)) (jb0 (by omega) (by omega)) ⟨by decide, ?_⟩
      rw [Int.tdiv_eq_ediv_of_nonneg (by omega), jb0 (by omega) (by omega)]
      refine hkk _ _ ⟨rfl, ?_⟩
      subst hn2
      exact decide_eq_decide.2 (by omega)
    ·rintro g _ ⟨rfl, rfl⟩
     refine Jn.mk (fun n' H' => H = H' ∧ (decide (jdl 0 (((bs s).drop p).take (m + 1)) > 9223372036854775807) = false → n' = (jdl 0 (((bs s).drop p).take (m + 1)) : Nat))) (fun kk hkk => ?_) ?_
     ·refine Br.mk (fun hg => ?_) fun hg => hkk _ _ ⟨rfl, fun e => by rw [e] at hg; cases hg⟩
      have hg2 : ¬ jdl 0 (((bs s).drop p).take (m + 1)) > 9223372036854775807 := by simpa using hg
      have hgr2 : great = false := by rw [hgr]; exact decide_eq_false (by omega)
      have hn2 := hn hgr2
      subst hn2
      refine Lt.mk rfl (Lt.mk rfl (hkk _ _ ⟨rfl, fun _ => ?_⟩))
      rw [jb0 (x := 10 * _) (by omega) (by omega), jb0 (by omega) (by omega)]
      omega
     ·rintro n' _ ⟨rfl, hn'⟩
      exact Lt.mk (u := ((p + (m + 1) : Nat) : Int)) (by rw [jac] <;> omega) (hnext _ _ ⟨rfl, m + 1, rfl, hlt, rfl, hn'⟩ (by dsimp only; omega))
   ·omega
  ·have hmr : m = ja0 jav ((bs s).drop p) := by omega
   rw [← hmr] at hk hpos
   refine Jn.mk (fun (st : Int × Bool) H' => H = H' ∧ st = (((p + m : Nat) : Int), decide (¬ (jdl 0 (((bs s).drop p).take m) > 9223372036854775807 ∨ (m > 1 ∧ c0 = 48))))) (fun kk hkk => ?_) (by rintro st _ ⟨rfl, rfl⟩; exact hk)
   refine Br.mk (fun hg => ?_) fun hg => hkk _ _ ⟨rfl, ?_⟩
   ·have hg2 : great = false := by simpa using hg
    rw [hg2] at hgr
    have hsm := of_decide_eq_false hgr.symm
    refine Lt.mk (u := ((p + 1 : Nat) : Int)) (by rw [jac] <;> omega) (Br.mk (fun he => hkk _ _ ⟨rfl, ?_⟩) fun he => jaU hd0 rfl (hkk _ _ ⟨rfl, ?_⟩))
    ·have : m = 1 := by have := eq_of_beq he; omega
     rw [decide_eq_true]
     rintro (e | ⟨e, _⟩) <;> omega
    ·have h1 : m ≠ 1 := by have := ne_of_beq_false he; omega
     unfold bne
     rw [show (((c0.toNat : Int)) == 48) = (c0 == UInt8.ofNat 48) from jbp c0 48 (by decide)]
     congr 1
     by_cases e : c0 = 48
     ·subst e
      rw [decide_eq_false (fun h => h (.inr ⟨by omega, rfl⟩))]; rfl
     ·rw [decide_eq_true (by rintro (h | ⟨_, h⟩); omega; exact e h)]
      rw [show (c0 == UInt8.ofNat 48) = false from beq_eq_false_iff_ne.2 e]; rfl
   ·have hg2 : great = true := by simpa using hg
    rw [hg2] at hgr
    have hbig := of_decide_eq_true hgr.symm
    rw [decide_eq_false (fun h => h (.inl hbig))]
end
section
open Hc Hc.Lex
variable {lo : Nat} {H : jaa} {s : ByteArray} {p : Nat}
def sgs : List Bs := twos ++ ones.map fun c => [c]
theorem sgs_len : sgs.length = 24 := by decide
theorem jkD {r l : Bs} (h : Lib.hasPrefix r l = true) : r.take l.length = l := by
 rw [jek, decide_eq_true_eq] at h; exact h.2
theorem jlG {r : Bs} {m : Nat} (hm : m < 24) (hno : ∀ j, j < m → Lib.hasPrefix r sgs[j]! = false) (h : Lib.hasPrefix r sgs[m]! = true) : r.take (jbB r) = sgs[m]! := by
 have ht := jkD h
 rcases Nat.lt_or_ge m 6 with h6 | h6
 ·have hm2 : sgs[m]! ∈ twos := by
   have : ∀ m, m < 6 → sgs[m]! ∈ twos := by decide
   exact this m h6
  have hl : (sgs[m]!).length = 2 := by
   have : ∀ x ∈ twos, x.length = 2 := by decide
   exact this _ hm2
  have : jbB r = 2 := by
   unfold jbB
   rw [if_pos (List.any_eq_true.2 ⟨_, hm2, h⟩)]
  rw [this, ← hl]; exact ht
 ·have hone : ∃ c, sgs[m]! = [c] ∧ c ∈ ones := by
   have : ∀ m, m < 24 → 6 ≤ m → sgs[m]! = [(sgs[m]!).headD 0] ∧ (sgs[m]!).headD 0 ∈ ones := by decide
   exact ⟨_, this m hm h6⟩
  obtain ⟨c, hc, hc2⟩ := hone
  have h2 : twos.any (fun x => Lib.hasPrefix r x) = false := by
   rw [List.any_eq_false]
   intro x hx
   have : ∀ x ∈ twos, ∃ j, j < 6 ∧ sgs[j]! = x := by decide
   obtain ⟨j, hj, rfl⟩ := this x hx
   rw [hno j (by omega)]; simp
  rw [hc] at h ht ⊢
  cases r with
  | nil => simp [Lib.hasPrefix, List.isPrefixOf] at h
  | cons d t =>
    have : d = c := by simpa using ht
    subst this
    unfold jbB
    rw [h2]
    simp [hc2]
theorem jmx {r : Bs} (hno : ∀ j, j < 24 → Lib.hasPrefix r sgs[j]! = false) : jbB r = 0 := by
 have h2 : twos.any (fun x => Lib.hasPrefix r x) = false := by
  rw [List.any_eq_false]
  intro x hx
  have : ∀ x ∈ twos, ∃ j, j < 6 ∧ sgs[j]! = x := by decide
  obtain ⟨j, hj, rfl⟩ := this x hx
  rw [hno j (by omega)]; simp
 unfold jbB
 rw [h2]
 cases r with
 | nil => rfl
 | cons c t =>
   have hn : c ∉ ones := fun hc => by
    have : ∀ c ∈ ones, ∃ j, j < 24 ∧ sgs[j]! = [c] := by decide
    obtain ⟨j, hj, e⟩ := this c hc
    have := hno j hj
    rw [e] at this
    simp [Lib.hasPrefix, List.isPrefixOf] at this
   simp [hn]
theorem s_rsign (hs : s.size ≤ 8000) (hp : p ≤ s.size) {k : ByteArray → jaa → Prop} (hk : ∀ H', Ext H H' → k ⟨⟨((bs s).drop p).take (jbB ((bs s).drop p))⟩⟩ H') :
 CallT Pg fQbn [.string s, .int .i64 (p : Nat)] (.one (.c .str)) H k := by
 refine cQbw _ _ ?_
 unfold vQbw
 refine jaq (vs := sgs.map fun l => .string ⟨⟨l⟩⟩) fun b1 H1 _ hE1 _ hr1 => ?_
 refine LoopT.mk (fun i H' => H1 = H' ∧ ∃ m : Nat, i = m ∧ m ≤ 24 ∧ ∀ j, j < m → Lib.hasPrefix ((bs s).drop p) sgs[j]! = false) (fun i _ => 24 - i.toNat) ⟨rfl, 0, rfl, by omega, fun j hj => by omega⟩ ?_
 rintro next _ _ ⟨rfl, m, rfl, hm, hno⟩ hnext
 refine jaj (fun hlt => ?_) fun hge => ?_
 ·have hlt6 : m < sgs.length := by rw [sgs_len]; omega
  have hc : jar H1 ⟨b1, m, none⟩ = some (.string ⟨⟨sgs[m]!⟩⟩) := by
   rw [hr1.cell, List.getElem?_map, List.getElem?_eq_getElem hlt6, getElem!_pos sgs m hlt6]; rfl
  have hsz : ((⟨⟨sgs[m]!⟩⟩ : ByteArray)).size ≤ 8000 := by
   show (sgs[m]!).length ≤ 8000
   have : ∀ m, m < 24 → (sgs[m]!).length ≤ 8000 := by decide
   exact this m (by omega)
  refine jgc (by omega) (by omega) ?_
  rw [Int.toNat_natCast, Nat.mul_one]
  refine jap hc (jfw hs hp hsz (Br.mk (fun hy => ?_) fun hy => ?_))
  ·refine jgc (by omega) (by omega) ?_
   rw [Int.toNat_natCast, Nat.mul_one]
   refine jap hc ?_
   have := hk H1 hE1
   rwa [jlG (by omega) hno hy] at this
  ·refine Lt.mk (u := ((m + 1 : Nat) : Int)) (by rw [jac] <;> omega) (hnext _ _ ⟨rfl, m + 1, rfl, by omega, fun j hj => ?_⟩ (by omega))
   rcases Nat.lt_or_ge j m with e | e
   ·exact hno j e
   ·have : j = m := by omega
    subst this; exact hy
 ·have hm24 : m = 24 := by omega
  subst hm24
  have := hk H1 hE1
  rwa [jmx hno, List.take_zero] at this
structure RCore (lo : Nat) (H0 H : jaa) (s : ByteArray) (q : Nat) (ts : List Tk) (l : Sl) : Prop where
 vec : VecN H jbP 3 l (jcb ts)
 ll : ∀ c, l.a = some (adr c) → lo ≤ c
 lex : jdr 0 (bs s) = pre ts (jdr q ((bs s).drop q))
 len : ts.length ≤ q
 le : q ≤ s.size
 nb : Nb lo H0 H
theorem RCore.ext {H0 H' : jaa} {q : Nat} {ts : List Tk} {l : Sl} (h : RCore lo H0 H s q ts l) (hE : Ext H H') : RCore lo H0 H' s q ts l :=
 ⟨h.vec.upd hE fun _ _ h => h, h.ll, h.lex, h.len, h.le, h.nb.tr (Nb.ex hE)⟩
theorem jkS {ts : List Tk} {l : Sl} (hv : VecN H jbP 3 l (jcb ts)) (hll : ∀ c, l.a = some (adr c) → lo ≤ c) (hlo : lo ≤ H.size) (ht : ts.length ≤ 9000) {kind at' : Nat} {y : ByteArray} {x : Sl → jaa → Prop}
 (hk : ∀ l' H', VecN H' jbP 3 l' (jcb (ts ++ [⟨kind, bs y, at'⟩])) → (∀ c, l'.a = some (adr c) → lo ≤ c) → Nb lo H H' → x l' H') :
 Nw #[.int .i64 (kind : Nat), .string y, .int .i64 (at' : Nat)] jbP H fun b2 H11 =>
  App jbP 3 32 #[.int .i64 0, .string ByteArray.empty, .int .i64 0] l ⟨some (adr b2), 1, 1⟩ H11 fun l1 H12 => x l1 H12 := by
 refine jaq fun b1 H1 hb1 hE1 hz1 hr1 => ?_
 have hv1 := hv.upd hE1 fun _ _ h => h
 have hl := hv1.len
 rw [jeo] at hl
 refine jjV (n := 3) rfl (by omega) hv1 (ws := [.int .i64 (kind : Nat), .string y, .int .i64 (at' : Nat)]) hr1.rd_all rfl (by simp [Value.oneCell']) (by omega) (by simp only; omega) fun l1 H2 hv2 hl2 hU2 ha2 => ?_
 refine hk l1 H2 ?_ (fun c hc => ?_) ((Nb.ex hE1).tr (hU2.mono fun c _ e => hll c e.1))
 ·rw [show jcb (ts ++ [⟨kind, bs y, at'⟩]) = jcb ts ++ jgZ ⟨kind, bs y, at'⟩ by simp [jcb]]
  exact hv2
 ·rcases ha2 with ⟨e, _⟩ | e
  ·rw [e] at hc; exact hll c hc
  ·rw [e] at hc; cases hc; omega
def jhQ (lo : Nat) (H : jaa) (s : ByteArray) (r : Sl × Int × Int) : Prop :=
 match jfR s with
 | .ok ts => r.2 = (0, 0) ∧ VecN H jbP 3 r.1 (jcb ts) ∧ ∀ c, r.1.a = some (adr c) → lo ≤ c
 | .error (a, e) => r.1 = ⟨none, 0, 0⟩ ∧ r.2.1 = (a : Nat) ∧ r.2.2 = (e : Nat) ∧ 1 ≤ e
theorem s_rLex {k : Sl × Int × Int → jaa → Prop} (hk : ∀ r H', Ext H H' → jhQ H.size H' s r → k r H') : CallT Pg fQbh [.string s] (.tup [(.c .sl), (.c (.int .i64)), (.c (.int .i64))]) H k := by
 refine cQbs _ ?_
 unfold vQbs
 have ofNb : ∀ {H'}, Nb H.size H H' → Ext H H' := fun h => h.mono fun b hb h => by omega
 refine jaj (fun hbig => hk _ _ (.refl _ _) ?_) fun hsmall => ?_
 ·unfold jhQ jfR
  rw [if_pos (by omega)]
  exact ⟨rfl, rfl, rfl, by omega⟩
 have hs : s.size ≤ 8000 := by omega
 have kerr : ∀ {H' : jaa} {e : Nat} {ts : List Tk} {q : Nat}, Nb H.size H H' → jdr 0 (bs s) = pre ts (jdr q ((bs s).drop q)) → jdr q ((bs s).drop q) = .error e → k (⟨none, 0, 0⟩, (e : Nat), 90) H' := by
  intro H' e ts q hN h1 h2
  refine hk _ _ (ofNb hN) ?_
  unfold jhQ jfR
  rw [if_neg (by omega), h1, h2]
  exact ⟨rfl, rfl, rfl, by omega⟩
 refine LoopT.ghost (fun m (st : Sl × Int) H1 => ∃ q ts, m = s.size - q ∧ st.2 = (q : Nat) ∧ RCore H.size H H1 s q ts st.1) (s.size - 0) ⟨0, [], rfl, rfl, ⟨rfl, .inl ⟨rfl, rfl, rfl⟩, Nat.le_refl _⟩, fun c e => (by cases e), by rw [List.drop_zero, jiQ], Nat.le_refl _, Nat.zero_le _, .refl _ _⟩ ?_
 rintro next _ ⟨l, x⟩ H1 ⟨q, ts, rfl, hx, hC⟩ hnext
 dsimp only at hx hC ⊢
 subst hx
 have hq := hC.le
 have hlen := hC.len
 have z := hC.nb.size
 refine jaj (fun hlt => jhB ?_) fun hge => ?_
 ·rcases jbN (bs s) q with ⟨e, _⟩ | ⟨c, t, hd, _⟩
  ·rw [jaw] at e; omega
  have hps := Rdr.ps hd
  dsimp only
  -- over n bytes
  have go : ∀ n, Lex.evL ((bs s).drop q) = .skip n → 1 ≤ n → q + n ≤ s.size → ∀ x : Int, x = ((q + n : Nat) : Int) → next (l, x) H1 := by
   intro n hev hn hle x hx
   subst hx
   exact hnext _ _ _ (by omega) ⟨q + n, ts, rfl, rfl, hC.vec, hC.ll, by rw [hC.lex, jih hd (by rw [← hd]; exact hev) hn], by omega, hle, hC.nb⟩
  refine jaU hd rfl (Jn.mk (fun j H' => H1 = H' ∧ j = jbE c) (fun kk hkk => ?_) ?_)
  ·have e1 := jbp c 32 (by decide)
   have e2 := jbp c 9 (by decide)
   have e3 := jbp c 10 (by decide)
   have e4 := jbp c 13 (by decide)
   refine Br.mk (fun h => hkk _ _ ⟨rfl, ?_⟩) fun h1 => Br.mk (fun h => hkk _ _ ⟨rfl, ?_⟩) fun h2 => Br.mk (fun h => hkk _ _ ⟨rfl, ?_⟩) fun h3 => hkk _ _ ⟨rfl, ?_⟩
   ·have h' := e1.symm.trans h
    unfold jbE; rw [show (c == 32) = true from h']; rfl
   ·have h' := e2.symm.trans h
    unfold jbE; rw [show (c == 9) = true from h']; simp
   ·have h' := e3.symm.trans h
    unfold jbE; rw [show (c == 10) = true from h']; simp
   ·have h1' := e1.symm.trans h1
    have h2' := e2.symm.trans h2
    have h3' := e3.symm.trans h3
    unfold jbE; rw [show (c == 32) = false from h1', show (c == 9) = false from h2', show (c == 10) = false from h3']; exact e4
  ·rintro j _ ⟨rfl, rfl⟩
   refine Br.mk (fun hb => ?_) fun hb => jmz hs hq ?_
   ·have hev : Lex.evL ((bs s).drop q) = .skip 1 := by rw [hd]; unfold Lex.evL; dsimp only; rw [hb]; rfl
    exact Lt.mk (u := ((q + 1 : Nat) : Int)) (by rw [jac] <;> omega) (go 1 hev (by omega) (by omega) _ rfl)
   ·have hev : Lex.evL ((bs s).drop q) = match jfa ((bs s).drop q) with | .to n => .skip n | .endless => .err 0 | .no => jeg ((bs s).drop q) := by
     rw [hd]; unfold Lex.evL; dsimp only; rw [hb]; rfl
    cases hrm : jfa ((bs s).drop q) with
    | endless =>
      rw [hrm] at hev
      refine ja1 (show (-1 : Int) < 0 by decide) (kerr hC.nb hC.lex ?_)
      rw [jfA hd (by rw [← hd]; exact hev)]; rfl
    | «to» n =>
      rw [hrm] at hev
      have hle := jgS hrm
      rw [List.length_drop, jaw] at hle
      refine jbS (by unfold remI; dsimp only; omega) (ja1 (by unfold remI; dsimp only; omega) ?_)
      exact go n hev (by omega) (by omega) _ rfl
    | no =>
      rw [hrm] at hev
      refine jbS (by unfold remI; dsimp only; omega) (jbS (by unfold remI; dsimp only; omega) ?_)
      have err0 : ∀ n, jeg ((bs s).drop q) = .err n → ∀ H', Ext H1 H' → k (⟨none, 0, 0⟩, ((q + n : Nat) : Int), 90) H' := by
       intro n he H' hE
       refine kerr (hC.nb.tr (Nb.ex hE)) hC.lex ?_
       rw [jfA hd (by rw [← hd, hev]; exact he)]
      have tok : ∀ kk n, jeg ((bs s).drop q) = .tok kk n → ∀ H', Ext H1 H' → ∀ x : Int, x = ((q + n : Nat) : Int) → ∀ y : ByteArray, bs y = ((bs s).drop q).take n →
       Nw #[.int .i64 (kk : Nat), .string y, .int .i64 (q : Nat)] jbP H' fun b2 H11 =>
        App jbP 3 32 #[.int .i64 0, .string ByteArray.empty, .int .i64 0] l ⟨some (adr b2), 1, 1⟩ H11 fun l1 H12 => next (l1, x) H12 := by
       intro kk n he H' hE x hx y hy
       subst hx
       have hle := jg0 he
       rw [List.length_drop, jaw] at hle
       have hC' := hC.ext hE
       have z' := hE.size
       refine jkS hC'.vec hC'.ll (by omega) (by omega) fun l' H2 hv hl hN => ?_
       refine hnext _ _ _ (by omega) ⟨q + n, _, rfl, rfl, hv, hl, ?_, ?_, by omega, hC'.nb.tr hN⟩
       ·rw [hC.lex, jj2 hd (by rw [← hd, hev]; exact he) hle.1, ji9, hy]
       ·simp; omega
      refine jgb (jjA (s_rsign hs hq fun H7 hE7 => ?_))
      refine jhB (jhB ?_)
      dsimp only
      cases hl : jaA c with
      | true =>
        have he : jeg ((bs s).drop q) = if ja0 jaP ((bs s).drop q) > 16 then .err 0 else .tok 1 (ja0 jaP ((bs s).drop q)) := by
         rw [hd]; unfold jeg; dsimp only; rw [hl]; rfl
        have hle := jbK jaP ((bs s).drop q)
        rw [List.length_drop, jaw] at hle
        rw [Br_true]
        refine s_rword hs hq ?_
        refine (Lt.mk (u := ((ja0 jaP ((bs s).drop q) : Nat) : Int)) (by rw [jac] <;> omega) (jaj (fun h => ?_) fun h => ?_))
        ·exact err0 0 (by rw [he, if_pos (by omega)]) _ hE7
        ·refine jd2 rfl rfl (by omega) (by omega) ?_
         exact tok 1 _ (by rw [he, if_neg (by omega)]) _ hE7 _ rfl _ (by rw [jiX]; congr 1; omega)
      | false =>
        rw [Br_false]
        refine jhB ?_
        dsimp only
        cases hdg : jav c with
        | true =>
          have he : jeg ((bs s).drop q) = (if jdl 0 (((bs s).drop q).take (ja0 jav ((bs s).drop q))) > 9223372036854775807 ∨ (ja0 jav ((bs s).drop q) > 1 ∧ c = 48) then .err 0
           else if jbT (((bs s).drop q).drop (ja0 jav ((bs s).drop q))) then .err (ja0 jav ((bs s).drop q)) else .tok 2 (ja0 jav ((bs s).drop q))) := by
           rw [hd]; unfold jeg; dsimp only; rw [hl, hdg]; rfl
          have hle := jbK jav ((bs s).drop q)
          rw [List.length_drop, jaw] at hle
          rw [Br_true]
          refine jld hs hd hdg ?_
          dsimp only
          refine jkI (jaj (fun hok => ?_) fun hbad => ?_)
          ·rw [if_neg hok] at he
           refine Jn.mk (fun _ H' => H7 = H' ∧ jbT ((bs s).drop (q + ja0 jav ((bs s).drop q))) = false) (fun kk hkk => ?_) ?_
           ·have bad : jbT ((bs s).drop (q + ja0 jav ((bs s).drop q))) = true → k (⟨none, 0, 0⟩, ((q + ja0 jav ((bs s).drop q) : Nat) : Int), 90) H7 := fun h => by
             rw [← List.drop_drop] at h
             exact err0 _ (by rw [he, if_pos h]) _ hE7
            refine jaj (fun hlt2 => ?_) fun hge2 => hkk _ _ ⟨rfl, by rw [List.drop_eq_nil_of_le (by rw [jaw]; omega)]; rfl⟩
            rcases jbN (bs s) (q + ja0 jav ((bs s).drop q)) with ⟨e, _⟩ | ⟨d, u, hdu, _⟩
            ·rw [jaw] at e; omega
            ·refine jaU hdu rfl (jgb (Jn.mk (fun j H' => H7 = H' ∧ j = jbT ((bs s).drop (q + ja0 jav ((bs s).drop q)))) (fun kk2 hkk2 => ?_) ?_))
             ·refine Br.mk (fun hl2 => hkk2 _ _ ⟨rfl, by rw [hdu]; simp [jbT, hl2]⟩) fun hl2 => jaU hdu rfl (hkk2 _ _ ⟨rfl, ?_⟩)
              rw [hdu]; unfold jbT; dsimp only; rw [hl2]; exact jbp d 95 (by decide)
             ·rintro j _ ⟨rfl, rfl⟩
              exact Br.mk bad fun h => hkk _ _ ⟨rfl, h⟩
           ·rintro _ _ ⟨rfl, hnb⟩
            refine jd2 rfl rfl (by omega) (by omega) ?_
            refine tok 2 _ ?_ _ hE7 _ rfl _ (by rw [jiX]; congr 1; omega)
            rw [he, List.drop_drop, hnb]; rfl
          ·exact err0 0 (by rw [he, if_pos (Classical.byContradiction hbad)]) _ hE7
        | false =>
          have he : jeg ((bs s).drop q) = if jbB ((bs s).drop q) = 0 then .err 0 else .tok 3 (jbB ((bs s).drop q)) := by
           rw [hd]; unfold jeg; dsimp only; rw [hl, hdg]; rfl
          have hle := jhj ((bs s).drop q)
          have hle2 := hle
          rw [List.length_drop, jaw] at hle
          rw [Br_false]
          rw [ja3]
          refine jkI (jaj (fun h => ?_) fun h => ?_)
          ·have h0 : jbB ((bs s).drop q) = 0 := by
            have := congrArg List.length h
            rw [jiX, List.length_take, Nat.min_eq_left hle2] at this
            exact this
           exact err0 0 (by rw [he, if_pos h0]) _ hE7
          ·have h0 : jbB ((bs s).drop q) ≠ 0 := fun e => h (by rw [jiX, e]; rfl)
           have hsz : ((⟨⟨((bs s).drop q).take (jbB ((bs s).drop q))⟩⟩ : ByteArray)).size = jbB ((bs s).drop q) := by
            show (((bs s).drop q).take (jbB ((bs s).drop q))).length = _
            rw [List.length_take, Nat.min_eq_left hle2]
           rw [hsz]
           refine Lt.mk (u := ((q + jbB ((bs s).drop q) : Nat) : Int)) (by rw [jac] <;> omega) ?_
           exact tok 3 _ (by rw [he, if_neg h0]) _ hE7 _ rfl _ rfl
 ·have hqe : q = s.size := by omega
  subst hqe
  have hnil : (bs s).drop s.size = [] := List.drop_eq_nil_of_le (by rw [jaw]; omega)
  refine jkS (kind := 0) (at' := s.size) (y := ByteArray.empty) hC.vec hC.ll (by omega) (by omega) fun l' H2 hv hl hN => ?_
  refine hk _ _ (ofNb (hC.nb.tr hN)) ?_
  unfold jhQ jfR
  rw [if_neg (by omega), hC.lex, hnil, jhm]
  exact ⟨rfl, hv, hl⟩
end
end Go.Proofs.YtfpmgpblhhcpgaaGreatDoor
namespace Go.Proofs.YtfpmgpblhhcpgaaGreatDoor.Hc
set_option maxRecDepth 100000
theorem RN.lt {α : Type} {f : α → List Value} {n : Nat} (hf : ∀ e, (f e).length = n) (hn : 0 < n) {H : jaa} {s : Sl} {xs : List α} (h : RN f n H s xs) (hx : xs ≠ []) {a : Addr} (ha : s.a = some a) : a.block < H.size := by
 have hr := h.rd
 unfold rdL at hr
 rw [ha] at hr
 cases xs with
 | nil => exact absurd rfl hx
 | cons x xs =>
   have hl := hf x
   cases hfx : f x with
   | nil => rw [hfx] at hl; simp at hl; omega
   | cons v vs =>
     rw [List.flatMap_cons, hfx] at hr
     have := jdy hr.1
     rwa [jcm] at this
def entsF : Nat → List Nat → List MapEntry
 | _, [] => []
 | n, d :: ds => { key := .int .i64 (d : Nat), val := .bool true, born := n } :: entsF (n + 1) ds
def MapI (H : jaa) (v : Value) (ds : List Nat) : Prop := (v = .map none ∧ ds = []) ∨ ∃ r, v = .map (some r) ∧ H[r]? = some (.map ⟨entsF 0 ds⟩ ds.length)
theorem MapI.upd {M : Nat → Prop} {H H' : jaa} (hu : Upd M H H') {v : Value} {ds : List Nat} (h : MapI H v ds) (hn : ∀ r, v = .map (some r) → ¬ M r) : MapI H' v ds := by
 rcases h with h | ⟨r, h1, h2⟩
 ·exact .inl h
 ·exact .inr ⟨r, h1, hu.keep h2 (hn r h1)⟩
end Go.Proofs.YtfpmgpblhhcpgaaGreatDoor.Hc
