/-
 SyntaxParses, walked.
-/
import Derived.Test.YtfpmgpblhhcpgaaGreatDoorSpB
import Derived.Test.YtfpmgpblhhcpgaaGreatDoorCard
set_option linter.unusedVariables false
set_option linter.unusedSimpArgs false
namespace Go.Proofs.YtfpmgpblhhcpgaaGreatDoor
set_option maxRecDepth 100000
section
open Hc Hc.Lex Hc.Syn
variable {H : jaa}
def jii (s : ByteArray) : Nd := match jbn s with
 | some (.ok (n, _)) => n
 | _ => .nil
def jlo (s : ByteArray) : Int × Int := match jbn s with
 | some (.error e) => e
 | _ => (0, 0)
theorem jnX (s : ByteArray) : nzR (jii s) ∧ wt (jii s) ≤ 2 ^ 18 := by
 unfold jii
 cases hp : jbn s with
 | none => exact ⟨.inl rfl, by simp [wt]⟩
 | some r =>
   cases r with
   | error e => exact ⟨.inl rfl, by simp [wt]⟩
   | ok x =>
     obtain ⟨n, s'⟩ := x
     unfold jbn at hp
     cases hl : jgF s with
     | error x => rw [hl] at hp; cases hp
     | ok ts =>
       rw [hl] at hp
       obtain ⟨h1, h2⟩ := jmY hp (jjb hl).len
       exact ⟨.inr h1, by show wt n ≤ _; omega⟩
def NzE (s : ByteArray) : Prop := ∀ p e, jbn s = some (.error (p, e)) → e ≠ 0
theorem jjE {lo : Nat} {s : ByteArray} {d : Option Addr} {v : Value} (h : ParOut lo H s d v) : ∃ (q : Option Nat) (fp gs : List Nat), d = q.map adr ∧ TR H (jii s) q fp ∧ fp.Nodup ∧ (∀ x ∈ fp, lo ≤ x) ∧ (∀ x ∈ gs, lo ≤ x ∧ x < H.size ∧ x ∉ fp) ∧
 ∀ {H' : jaa} {M : Nat → Prop}, NzE s → Upd M H H' → (∀ x ∈ gs, ¬ M x) → ∀ {k : Int × Int × Bool → jaa → Prop}, k ((jlo s).1, (jlo s).2, true) H' → CallT Pg jnr [v] (.tup [(.c (.int .i64)), (.c (.int .i64)), (.c .bool)]) H' k := by
 cases hp : jbn s with
 | none => unfold ParOut at h; rw [hp] at h; exact h.elim
 | some r =>
 cases r with
 | error x =>
   obtain ⟨p, e⟩ := x
   obtain ⟨rfl, g, rfl, hlo, hr⟩ := h.err hp
   have e1 : jii s = .nil := by unfold jii; rw [hp]
   have e2 : jlo s = (p, e) := by unfold jlo; rw [hp]
   rw [e1, e2]
   refine ⟨none, [], [g], rfl, ⟨rfl, rfl⟩, List.nodup_nil, (fun x hx => by cases hx), fun x hx => ?_, fun {H' M} hz hU hn {k} hk => ?_⟩
   ·rw [List.mem_singleton.1 hx]; exact ⟨hlo, hr.lt, by simp⟩
   ·refine jhz (hU.row hr (hn g (by simp))) ?_
    have hb : (e != 0) = true := by simpa using hz p e hp
    rw [hb]; exact hk
 | ok x =>
   obtain ⟨n, s'⟩ := x
   obtain ⟨rfl, q, rfl, _, hq⟩ := h.ok hp
   obtain ⟨fp, ht, hnd, hlo⟩ := hq.ex
   have e1 : jii s = n := by unfold jii; rw [hp]
   have e2 : jlo s = (0, 0) := by unfold jlo; rw [hp]
   rw [e1, e2]
   exact ⟨some q, fp, [], rfl, ht, hnd, hlo, (fun x hx => by cases hx), fun {H' M} _ hU _ {k} hk => jjk hk⟩
theorem jmb {lo : Nat} {s : ByteArray} {d : Option Addr × Int × Int} (h : jcT lo H s d) : NzE s ∧ d.2 = jlo s ∧ ∃ (q : Option Nat) (fp : List Nat), d.1 = q.map adr ∧ TRD H (jii s) q fp ∧ (∀ x ∈ fp, lo ≤ x) := by
 unfold jcT at h
 cases hp : jbn s with
 | none => rw [hp] at h; exact h.elim
 | some r =>
 rw [hp] at h
 cases r with
 | error x =>
   obtain ⟨p, e⟩ := x
   obtain ⟨h, hz⟩ : d = (none, p, e) ∧ e ≠ 0 := h
   subst h
   have e1 : jii s = .nil := by unfold jii; rw [hp]
   have e2 : jlo s = (p, e) := by unfold jlo; rw [hp]
   rw [e1, e2]
   exact ⟨fun p' e' h' => by rw [hp] at h'; cases h'; exact hz, rfl, none, [], rfl, ⟨rfl, rfl⟩, fun x hx => by cases hx⟩
 | ok x =>
   obtain ⟨n, s'⟩ := x
   obtain ⟨h1, q, h2, _, hq⟩ := h
   obtain ⟨fp, ht, _, hlo⟩ := hq.ex
   have e1 : jii s = n := by unfold jii; rw [hp]
   have e2 : jlo s = (0, 0) := by unfold jlo; rw [hp]
   rw [e1, e2]
   exact ⟨fun p' e' h' => (by rw [hp] at h'; cases h'), h1, some q, fp, h2, ht, hlo⟩
theorem jmP (hg : GL H) {s more : ByteArray} : CallT Pg fQd1 [.string s, .string more] (.one (.c .bool)) H fun b H' => b = true ∧ Ext H H' := by
 refine cQdq _ _ ?_
 unfold vQdq
 refine s_shown hg fun H1 hE1 => (Br_false _ _).2 ?_
 have g1 := hg.ext hE1
 refine jg5 g1.ge g1.tab fun d2 v2 H2 hE2 hO2 => ?_
 obtain ⟨q2, fp2, gs2, rfl, t2, nd2, lo2, gl2, fl2⟩ := jjE hO2
 have g2 := g1.ext hE2
 refine jj1 fun d3 H3 hE3 hO3 => ?_
 obtain ⟨z3, e3, q3, fp3, e3', t3, lo3⟩ := jmb hO3
 have g3 := g2.ext hE3
 refine fl2 z3 (hE3.mono fun _ _ h => h) (fun _ _ h => h) ?_
 refine jg5 g3.ge g3.tab fun d5 v5 H5 hE5 hO5 => ?_
 obtain ⟨q5, fp5, gs5, rfl, t5, nd5, lo5, gl5, fl5⟩ := jjE hO5
 have g5 := g3.ext hE5
 refine jj1 fun d6 H6 hE6 hO6 => ?_
 obtain ⟨z6, e6, q6, fp6, e6', t6, lo6⟩ := jmb hO6
 have g6 := g5.ext hE6
 refine jg5 g6.ge g6.tab fun d7 v7 H7 hE7 hO7 => ?_
 obtain ⟨q7, fp7, gs7, rfl, t7, nd7, lo7, gl7, fl7⟩ := jjE hO7
 have x6 : Ext H6 H7 := hE7
 have x5 := hE6.trans x6 fun _ _ h => h
 have x3 := hE5.trans x5 fun _ _ h => h
 have x2 := hE3.trans x3 fun _ _ h => h
 have x1 := hE2.trans x2 fun _ _ h => h
 have x0 := hE1.trans x1 fun _ _ h => h
 have s1 := hE1.size
 have s2 := hE2.size
 have s3 := hE3.size
 have s5 := hE5.size
 have s6 := hE6.size
 have s7 := hE7.size
 obtain ⟨rok, rcn⟩ := jnX s
 obtain ⟨mok, mcn⟩ := jnX more
 have no : ∀ {fp : List Nat}, ∀ x ∈ fp, ¬ (fun _ : Nat => False) x := fun _ _ h => h
 have u2 : TR H7 (jii s) q2 fp2 := t2.upd x2 no
 have u3 : TRD H7 (jii s) q3 fp3 := t3.upd x3 no
 have u5 : TR H7 (jii more) q5 fp5 := t5.upd x5 no
 have u6 : TRD H7 (jii more) q6 fp6 := t6.upd x6 no
 rw [e3', e6']
 refine s_one _ (Nat.le_refl _) (by omega) rok u2 u3 (s_one _ (Nat.le_refl _) (by omega) mok u5 u6 ?_)
 refine fl5 z6 x5 (fun _ _ h => h) (fl7 z3 (.refl (fun _ => False) _) (fun _ _ h => h) ?_)
 obtain ⟨d3a, d3b, d3c⟩ := d3
 obtain ⟨d6a, d6b, d6c⟩ := d6
 dsimp only at e3 e6 ⊢
 rw [← e3, ← e6]
 simp only [Jn, Bool.not_true, Br_false, bne_self_eq_false]
 refine jlb u2 nd2 rok rcn fun H13 hU13 => jlb (u5.upd hU13 fun x hx h => ?_) nd5 mok mcn fun H14 hU14 => ?_
 ·have := t2.lt x h; have := lo5 x hx; omega
 have hU : Upd (fun x => x ∈ fp2 ∨ x ∈ fp5) H7 H14 := (hU13.mono fun x _ h => .inl h).trans hU14 fun x _ h => .inr h
 have no7 : ∀ x ∈ fp7, ¬ (x ∈ fp2 ∨ x ∈ fp5) := fun x hx h => by
  have := lo7 x hx
  rcases h with h | h
  ·have := t2.lt x h; omega
  ·have := t5.lt x h; omega
 have no3 : ∀ x ∈ fp3, ¬ (x ∈ fp2 ∨ x ∈ fp5) := fun x hx h => by
  have := lo3 x hx; have := t3.lt x hx
  rcases h with h | h
  ·have := t2.lt x h; omega
  ·have := lo5 x h; omega
 refine s_one _ (Nat.le_refl _) (by omega) rok (t7.upd hU no7) (u3.upd hU no3) ?_
 refine fl2 (M := fun x => x ∈ fp2 ∨ x ∈ fp5) z3 ((x2.mono fun _ _ h => h.elim).trans hU fun _ _ h => h) (fun x hx h => ?_) ?_
 ·obtain ⟨k1, k2, k3⟩ := gl2 x hx
  rcases h with h | h
  ·exact k3 h
  ·have := lo5 x h; omega
 rw [← e3]
 simp only [Br_true, beq_self_eq_true]
 refine ⟨trivial, x0.trans hU fun x hx h => ?_⟩
 rcases h with h | h
 ·have := lo2 x h; omega
 ·have := lo5 x h; omega
end
section
open Hc
theorem jhd {W : World} (hg : GL W.heap) (v0 v1 : Value) (h0 : RdV Tryz.prog W.heap 9 v0) (h1 : RdV Tryz.prog W.heap 9 v1) :
 CallT Pg fQd1 [v0, v1] (.one (.c .bool)) W.heap fun b H' => b = true ∧ Ext W.heap H' := by
 obtain ⟨s, rfl, _⟩ := jiu Tryz.underlying9 h0
 obtain ⟨t, rfl, _⟩ := jiu Tryz.underlying9 h1
 exact jmP hg
end
end Go.Proofs.YtfpmgpblhhcpgaaGreatDoor
