/-
 Trees in memory: what a pointer to a node reads as, and the blocks that are its own.
-/
import Derived.Test.YtfpmgpblhhcpgaaGreatDoorLexA
import Derived.Test.YtfpmgpblhhcpgaaGreatDoorHcRN
import Derived.Lib.Space
set_option linter.unusedVariables false
set_option linter.unusedSimpArgs false
namespace Go.Proofs.YtfpmgpblhhcpgaaGreatDoor.Hc.Syn
set_option maxRecDepth 100000
section
open Go Hc
abbrev Txt := List UInt8
inductive Nd where
 | nil
 | mk (op : Int) (text : Txt) (num : Int) (l : List Nd) (at' : Int)
instance : Inhabited Nd := ⟨.nil⟩
abbrev jbG (t : Txt) : Value := .string ⟨⟨t⟩⟩
abbrev ndV (op : Int) (text : Txt) (num : Int) (L : Sl) (at' : Int) : List Value := [.int .i64 op, jbG text, .int .i64 num, slV L, .int .i64 at']
abbrev jcy (q : Option Nat) : Value := .pointer (q.map adr)
def jbl (L : Sl) : List Nat := match L.a with
 | some a => [a.block]
 | none => []
variable {TN TP : TypeId} {H H' : jaa}
mutual
def TrR (TN TP : TypeId) (H : jaa) : Nd → Option Nat → List Nat → Prop
 | .nil, q, fp => q = none ∧ fp = []
 | .mk op tx nm l at', q, fp => ∃ b L qs fl, q = some b ∧ Row H b TN (ndV op tx nm L at') ∧ Vec H TP L (qs.map jcy) ∧ TrL TN TP H l qs fl ∧ fp = b :: (jbl L ++ fl)
def TrL (TN TP : TypeId) (H : jaa) : List Nd → List (Option Nat) → List Nat → Prop
 | [], qs, fp => qs = [] ∧ fp = []
 | n :: ns, qs, fp => ∃ q qs' f1 f2, qs = q :: qs' ∧ fp = f1 ++ f2 ∧ TrR TN TP H n q f1 ∧ TrL TN TP H ns qs' f2
end
theorem jdp {T : TypeId} {s : Sl} {vs : List Value} (h : Vec H T s vs) : ∀ x ∈ jbl s, x < H.size ∧ s.a = some (adr x) := fun x hx => by
 rcases h.own with ⟨h1, _⟩ | ⟨b, sp, h1, h2, _⟩
 ·unfold jbl at hx; rw [h1] at hx; cases hx
 ·unfold jbl at hx; rw [h1] at hx
  rw [List.mem_singleton.1 hx]
  exact ⟨h2.lt, h1⟩
mutual
theorem TrR.lt : ∀ {n : Nd} {q : Option Nat} {fp : List Nat}, TrR TN TP H n q fp → ∀ x ∈ fp, x < H.size
 | .nil, _, _, ⟨_, rfl⟩, x, hx => by cases hx
 | .mk .., _, _, ⟨b, L, qs, fl, _, hr, hv, hl, rfl⟩, x, hx => by
   rcases List.mem_cons.1 hx with rfl | hx
   ·exact hr.lt
   ·rcases List.mem_append.1 hx with hx | hx
    ·exact (jdp hv x hx).1
    ·exact hl.lt x hx
theorem TrL.lt : ∀ {ns : List Nd} {qs : List (Option Nat)} {fp : List Nat}, TrL TN TP H ns qs fp → ∀ x ∈ fp, x < H.size
 | [], _, _, ⟨_, rfl⟩, x, hx => by cases hx
 | n :: ns, _, _, ⟨q, qs', f1, f2, _, rfl, h1, h2⟩, x, hx => by
   rcases List.mem_append.1 hx with hx | hx
   ·exact h1.lt x hx
   ·exact h2.lt x hx
end
mutual
theorem TrR.upd {M : Nat → Prop} (hU : Upd M H H') : ∀ {n : Nd} {q : Option Nat} {fp : List Nat}, TrR TN TP H n q fp → (∀ x ∈ fp, ¬ M x) → TrR TN TP H' n q fp
 | .nil, _, _, h, _ => h
 | .mk .., _, _, ⟨b, L, qs, fl, h0, hr, hv, hl, rfl⟩, hM =>
   ⟨b, L, qs, fl, h0, hU.row hr (hM b (by simp)), hv.upd hU fun c hc => hM c (by unfold jbl; rw [hc]; simp), hl.upd hU fun x hx => hM x (by simp [hx]), rfl⟩
theorem TrL.upd {M : Nat → Prop} (hU : Upd M H H') : ∀ {ns : List Nd} {qs : List (Option Nat)} {fp : List Nat}, TrL TN TP H ns qs fp → (∀ x ∈ fp, ¬ M x) → TrL TN TP H' ns qs fp
 | [], _, _, h, _ => h
 | n :: ns, _, _, ⟨q, qs', f1, f2, h0, rfl, h1, h2⟩, hM => ⟨q, qs', f1, f2, h0, rfl, h1.upd hU fun x hx => hM x (by simp [hx]), h2.upd hU fun x hx => hM x (by simp [hx])⟩
end
theorem TrL.len : ∀ {ns : List Nd} {qs : List (Option Nat)} {fp : List Nat}, TrL TN TP H ns qs fp → qs.length = ns.length
 | [], _, _, ⟨rfl, _⟩ => rfl
 | n :: ns, _, _, ⟨q, qs', f1, f2, rfl, _, _, h2⟩ => by simp [h2.len]
theorem TrL.snoc {n : Nd} {q : Option Nat} {f : List Nat} (hn : TrR TN TP H n q f) : ∀ {ns : List Nd} {qs : List (Option Nat)} {fp : List Nat}, TrL TN TP H ns qs fp → TrL TN TP H (ns ++ [n]) (qs ++ [q]) (fp ++ f)
 | [], _, _, ⟨rfl, rfl⟩ => ⟨q, [], f, [], rfl, by simp, hn, rfl, rfl⟩
 | m :: ns, _, _, ⟨q', qs', f1, f2, rfl, rfl, h1, h2⟩ => ⟨q', qs' ++ [q], f1, f2 ++ f, rfl, by simp, h1, h2.snoc hn⟩
structure Own (TN TP : TypeId) (lo : Nat) (H : jaa) (n : Nd) (q : Option Nat) : Prop where
 ex : ∃ fp, TrR TN TP H n q fp ∧ fp.Nodup ∧ ∀ x ∈ fp, lo ≤ x
structure OwnT (TN TP : TypeId) (lo : Nat) (H : jaa) (ns : List Nd) (qs : List (Option Nat)) : Prop where
 ex : ∃ fp, TrL TN TP H ns qs fp ∧ fp.Nodup ∧ ∀ x ∈ fp, lo ≤ x
structure OwnL (TN TP : TypeId) (lo : Nat) (H : jaa) (L : Sl) (ns : List Nd) : Prop where
 ex : ∃ qs fp, Vec H TP L (qs.map jcy) ∧ TrL TN TP H ns qs fp ∧ (jbl L ++ fp).Nodup ∧ ∀ x ∈ jbl L ++ fp, lo ≤ x
variable {lo : Nat}
theorem Own.upd {M : Nat → Prop} (hU : Upd M H H') {n : Nd} {q : Option Nat} (h : Own TN TP lo H n q) (hM : ∀ x, lo ≤ x → x < H.size → ¬ M x) : Own TN TP lo H' n q := by
 obtain ⟨fp, h1, h2, h3⟩ := h.ex
 exact ⟨fp, h1.upd hU fun x hx => hM x (h3 x hx) (h1.lt x hx), h2, h3⟩
theorem OwnT.upd {M : Nat → Prop} (hU : Upd M H H') {ns : List Nd} {qs : List (Option Nat)} (h : OwnT TN TP lo H ns qs) (hM : ∀ x, lo ≤ x → x < H.size → ¬ M x) : OwnT TN TP lo H' ns qs := by
 obtain ⟨fp, h1, h2, h3⟩ := h.ex
 exact ⟨fp, h1.upd hU fun x hx => hM x (h3 x hx) (h1.lt x hx), h2, h3⟩
theorem OwnL.upd {M : Nat → Prop} (hU : Upd M H H') {L : Sl} {ns : List Nd} (h : OwnL TN TP lo H L ns) (hM : ∀ x, lo ≤ x → x < H.size → ¬ M x) : OwnL TN TP lo H' L ns := by
 obtain ⟨qs, fp, h0, h1, h2, h3⟩ := h.ex
 exact ⟨qs, fp, h0.upd hU fun c hc => hM c (h3 c (by unfold jbl; rw [hc]; simp)) (h0.lt hc), h1.upd hU fun x hx => hM x (h3 x (by simp [hx])) (h1.lt x hx), h2, h3⟩
theorem Own.mono {n : Nd} {q : Option Nat} {lo' : Nat} (h : Own TN TP lo H n q) (hl : lo' ≤ lo) : Own TN TP lo' H n q := by
 obtain ⟨fp, h1, h2, h3⟩ := h.ex
 exact ⟨fp, h1, h2, fun x hx => Nat.le_trans hl (h3 x hx)⟩
theorem OwnL.mono {L : Sl} {ns : List Nd} {lo' : Nat} (h : OwnL TN TP lo H L ns) (hl : lo' ≤ lo) : OwnL TN TP lo' H L ns := by
 obtain ⟨qs, fp, h0, h1, h2, h3⟩ := h.ex
 exact ⟨qs, fp, h0, h1, h2, fun x hx => Nat.le_trans hl (h3 x hx)⟩
theorem OwnT.nil (lo : Nat) (H : jaa) : OwnT TN TP lo H [] [] := ⟨[], ⟨rfl, rfl⟩, List.nodup_nil, fun x hx => by cases hx⟩
theorem OwnL.nil (lo : Nat) (H : jaa) : OwnL TN TP lo H ⟨none, 0, 0⟩ [] := ⟨[], [], Vec.nil _ _, ⟨rfl, rfl⟩, List.nodup_nil, fun x hx => by cases hx⟩
theorem OwnT.snoc {ns : List Nd} {qs : List (Option Nat)} (h : OwnT TN TP lo H ns qs) {M : Nat → Prop} (hU : Upd M H H') (hM : ∀ x, lo ≤ x → x < H.size → ¬ M x) (hl : lo ≤ H.size) {n : Nd} {q : Option Nat} (hn : Own TN TP H.size H' n q) : OwnT TN TP lo H' (ns ++ [n]) (qs ++ [q]) := by
 have hlt : ∀ {fp}, TrL TN TP H ns qs fp → ∀ x ∈ fp, x < H.size := fun h => h.lt
 obtain ⟨fp, h1, h2, h3⟩ := h.ex
 obtain ⟨f, g1, g2, g3⟩ := hn.ex
 refine ⟨fp ++ f, (h1.upd hU fun x hx => hM x (h3 x hx) (h1.lt x hx)).snoc g1, List.nodup_append.2 ⟨h2, g2, fun x hx y hy e => ?_⟩, fun x hx => ?_⟩
 ·have := h1.lt x hx; have := g3 y hy; omega
 ·rcases List.mem_append.1 hx with hx | hx
  ·exact h3 x hx
  ·have := g3 x hx; omega
theorem OwnT.one {n : Nd} {q : Option Nat} (h : Own TN TP lo H n q) : OwnT TN TP lo H [n] [q] := by
 obtain ⟨f, g1, g2, g3⟩ := h.ex
 exact ⟨f, ⟨q, [], f, [], rfl, by simp, g1, rfl, rfl⟩, g2, g3⟩
theorem OwnT.lit {ns : List Nd} {qs : List (Option Nat)} (h : OwnT TN TP lo H ns qs) (hl : lo ≤ H.size) {m : Nat} (hm : qs.length = m) {k : Nat → jaa → Prop} (hk : ∀ b H', b = H.size → Ext H H' → OwnL TN TP lo H' ⟨some (adr b), m, m⟩ ns → k b H') :
 Nw ⟨qs.map jcy⟩ TP H k := by
 refine jaq (vs := qs.map jcy) fun b H1 hb hE _ hr => hk b H1 hb hE ?_
 obtain ⟨fp, h1, h2, h3⟩ := h.ex
 refine ⟨qs, fp, ⟨by simp [hm], .inr ⟨b, [], rfl, by simpa using hr, by simp [hm]⟩, Nat.le_refl _⟩, h1.upd hE fun _ _ h => h, ?_, fun x hx => ?_⟩
 ·show (b :: fp).Nodup
  exact List.nodup_cons.2 ⟨fun hx => by have := h1.lt b hx; omega, h2⟩
 ·rcases List.mem_append.1 hx with hx | hx
  ·have : x = b := by simpa [jbl, adr] using hx
   omega
  ·exact h3 x hx
theorem jk5 {L : Sl} {ns : List Nd} {qs : List (Option Nat)} {fp : List Nat} (h0 : Vec H TP L (qs.map jcy)) (h1 : TrL TN TP H ns qs fp) (h2 : (jbl L ++ fp).Nodup) (h3 : ∀ x ∈ jbl L ++ fp, lo ≤ x) {M : Nat → Prop} (hU : Upd M H H') (hM : ∀ x, lo ≤ x → x < H.size → ¬ M x) (hl : lo ≤ H.size) {n : Nd} {q : Option Nat} (hn : Own TN TP H.size H' n q) (hlen : ns.length ≤ 2 ^ 40)
 {b2 : Nat} (hr : Row H' b2 TP [jcy q]) {k : Sl → jaa → Prop} (hk : ∀ L' H2 q' fp', Upd (fun x => L.a = some (adr x)) H' H2 → Vec H2 TP L' (q'.map jcy) → TrL TN TP H2 (ns ++ [n]) q' fp' → (jbl L' ++ fp').Nodup → (∀ x ∈ jbl L' ++ fp', lo ≤ x) → (∀ x ∈ jbl L' ++ fp', x ∈ jbl L ++ fp ∨ H.size ≤ x) → k L' H2) :
 App TP 1 8 #[.pointer none] L ⟨some (adr b2), 1, 1⟩ H' k := by
 obtain ⟨f, g1, g2, g3⟩ := hn.ex
 have hs := hU.size
 have h0' := h0.upd hU fun c hc => hM c (h3 c (by unfold jbl; rw [hc]; simp)) (h0.lt hc)
 have hql := h1.len
 refine jfz (vs := qs.map jcy) (ws := [jcy q]) h0' hr.rd_all rfl (fun w hw => by rw [List.mem_singleton.1 hw]; rfl) (by decide) (by simp only [List.length_map, List.length_singleton]; omega) fun L' H2 hv hU2 ha hz => ?_
 have hU12 : Upd (fun x => L.a = some (adr x)) H' H2 := hU2.mono fun _ _ e => e.1
 have hblk : ∀ x ∈ jbl L', x ∈ jbl L ∨ x = H'.size := fun x hx => by
  have hx' := (jdp hv x hx).2
  rcases ha with ⟨e, _⟩ | e
  ·rw [e] at hx'
   exact .inl (by unfold jbl; rw [hx']; simp)
  ·rw [e] at hx'
   have : H'.size = x := by simpa [adr] using hx'
   exact .inr this.symm
 refine hk L' H2 (qs ++ [q]) (fp ++ f) hU12 (by rw [List.map_append]; exact hv) (TrL.snoc (g1.upd hU12 fun x hx e => ?_) ((h1.upd hU fun x hx => hM x (h3 x (by simp [hx])) (h1.lt x hx)).upd hU12 fun x hx e => ?_)) ?_ ?_ ?_
 ·have := h0.lt e; have := g3 x hx; omega
 ·have : x ∈ jbl L := by unfold jbl; rw [e]; simp
  exact (List.nodup_append.1 h2).2.2 x this x hx rfl
 ·have key : ∀ x ∈ jbl L', x ∉ fp ++ f := fun x hx hm => by
   rcases hblk x hx with hin | e
   ·rcases List.mem_append.1 hm with hm | hm
    ·exact (List.nodup_append.1 h2).2.2 x hin x hm rfl
    ·have := (jdp h0 x hin).1; have := g3 x hm; omega
   ·rcases List.mem_append.1 hm with hm | hm
    ·have := h1.lt x hm; omega
    ·have := g1.lt x hm; omega
  refine List.nodup_append.2 ⟨?_, List.nodup_append.2 ⟨(List.nodup_append.1 h2).2.1, g2, fun x hx y hy e => by have := h1.lt x hx; have := g3 y hy; omega⟩, fun x hx y hy e => key x hx (e ▸ hy)⟩
  unfold jbl; split <;> simp
 ·intro x hx
  rcases List.mem_append.1 hx with hx | hx
  ·rcases hblk x hx with hin | e
   ·exact h3 x (List.mem_append_left _ hin)
   ·omega
  ·rcases List.mem_append.1 hx with hx | hx
   ·exact h3 x (List.mem_append_right _ hx)
   ·have := g3 x hx; omega
 ·intro x hx
  rcases List.mem_append.1 hx with hx | hx
  ·rcases hblk x hx with hin | e
   ·exact .inl (List.mem_append_left _ hin)
   ·exact .inr (by omega)
  ·rcases List.mem_append.1 hx with hx | hx
   ·exact .inl (List.mem_append_right _ hx)
   ·exact .inr (g3 x hx)
theorem OwnL.app {L : Sl} {ns : List Nd} (h : OwnL TN TP lo H L ns) {M : Nat → Prop} (hU : Upd M H H') (hM : ∀ x, lo ≤ x → x < H.size → ¬ M x) (hl : lo ≤ H.size) {n : Nd} {q : Option Nat} (hn : Own TN TP H.size H' n q) (hlen : ns.length ≤ 2 ^ 40)
 {b2 : Nat} (hr : Row H' b2 TP [jcy q]) {k : Sl → jaa → Prop} (hk : ∀ L' H2, Upd (fun x => lo ≤ x ∧ x < H.size) H' H2 → OwnL TN TP lo H2 L' (ns ++ [n]) → k L' H2) :
 App TP 1 8 #[.pointer none] L ⟨some (adr b2), 1, 1⟩ H' k := by
 obtain ⟨qs, fp, h0, h1, h2, h3⟩ := h.ex
 exact jk5 h0 h1 h2 h3 hU hM hl hn hlen hr fun L' H2 q' fp' g0 g1 g2 g3 g4 _ => hk L' H2 (g0.mono fun x _ e => ⟨h3 x (List.mem_append_left _ (by unfold jbl; rw [e]; simp)), h0.lt e⟩) ⟨q', fp', g1, g2, g3, g4⟩
theorem Own.node {L : Sl} {ns : List Nd} (h : OwnL TN TP lo H L ns) {b : Nat} (hE : Ext H H') (hb : b = H.size) (hl : lo ≤ H.size) {op num at' : Int} {tx : Txt} (hr : Row H' b TN (ndV op tx num L at')) : Own TN TP lo H' (.mk op tx num ns at') (some b) := by
 obtain ⟨qs, fp, h0, h1, h2, h3⟩ := h.ex
 refine ⟨b :: (jbl L ++ fp), ⟨b, L, qs, fp, rfl, hr, h0.upd hE fun _ _ h => h, h1.upd hE fun _ _ h => h, rfl⟩, List.nodup_cons.2 ⟨fun hx => ?_, h2⟩, fun x hx => ?_⟩
 ·rcases List.mem_append.1 hx with hx | hx
  ·have := (jdp h0 b hx).1; omega
  ·have := h1.lt b hx; omega
 ·rcases List.mem_cons.1 hx with rfl | hx
  ·omega
  ·exact h3 x hx
theorem Own.row {b : Nat} {op num at' : Int} {tx : Txt} {ns : List Nd} (h : Own TN TP lo H (.mk op tx num ns at') (some b)) : lo ≤ b ∧ ∃ L, Row H b TN (ndV op tx num L at') ∧ OwnL TN TP lo H L ns := by
 obtain ⟨fp, ⟨b', L, qs, fl, hb, hr, hv, hl, rfl⟩, h2, h3⟩ := h.ex
 cases hb
 exact ⟨h3 b (by simp), L, hr, ⟨qs, fl, hv, hl, (List.nodup_cons.1 h2).2, fun x hx => h3 x (List.mem_cons_of_mem _ hx)⟩⟩
theorem Own.poke {b : Nat} {op num at' op2 num2 at2 : Int} {tx tx2 : Txt} {ns : List Nd} (h : Own TN TP lo H (.mk op tx num ns at') (some b)) {i : Nat} {v : Value} (hv : ∀ L, (ndV op tx num L at').set i v = ndV op2 tx2 num2 L at2) (hi : i < 5) {k : jaa → Prop}
 (hk : ∀ H', Upd (· = b) H H' → Own TN TP lo H' (.mk op2 tx2 num2 ns at2) (some b) → k H') : St ⟨b, i, none⟩ v H k := by
 obtain ⟨fp, ⟨b', L, qs, fl, hb, hr, hvc, hl, rfl⟩, h2, h3⟩ := h.ex
 cases hb
 refine jay hr (by simpa using hi) fun H1 hU _ hr1 => hk H1 hU ?_
 rw [hv] at hr1
 have hno := (List.nodup_cons.1 h2).1
 exact ⟨_, ⟨b, L, qs, fl, rfl, hr1, hvc.upd hU fun c hc e => hno (by subst e; exact List.mem_append_left _ (by unfold jbl; rw [hc]; simp)), hl.upd hU fun x hx e => hno (by subst e; exact List.mem_append_right _ hx), rfl⟩, h2, h3⟩
theorem Own.give {b : Nat} {op num at' : Int} {tx : Txt} {ns : List Nd} (h : Own TN TP lo H (.mk op tx num [] at') (some b)) {M : Nat → Prop} (hU : Upd M H H') (hM : ∀ x, lo ≤ x → x < H.size → ¬ M x) {L : Sl} (hL : OwnL TN TP H.size H' L ns) (hlo : lo ≤ H.size) {k : jaa → Prop}
 (hk : ∀ H2, Upd (· = b) H' H2 → Own TN TP lo H2 (.mk op tx num ns at') (some b) → k H2) : St ⟨b, 3, none⟩ (.slice L.a L.len L.cap) H' k := by
 obtain ⟨fp, ⟨b', L0, qs0, fl0, hb, hr, hvc, hl, rfl⟩, h2, h3⟩ := h.ex
 cases hb
 refine jay (hU.row hr (hM b (h3 b (by simp)) hr.lt)) (by simp) fun H1 hU1 _ hr1 => hk H1 hU1 ?_
 obtain ⟨qs, fp, g0, g1, g2, g3⟩ := hL.ex
 have hlt := hr.lt
 refine ⟨b :: (jbl L ++ fp), ⟨b, L, qs, fp, rfl, hr1, g0.upd hU1 fun c hc e => ?_, g1.upd hU1 fun x hx e => ?_, rfl⟩, List.nodup_cons.2 ⟨fun hx => ?_, g2⟩, fun x hx => ?_⟩
 ·have := g3 c (by unfold jbl; rw [hc]; simp); omega
 ·have := g3 x (by simp [hx]); omega
 ·have := g3 b hx; omega
 ·rcases List.mem_cons.1 hx with rfl | hx
  ·exact h3 _ (by simp)
  ·have := g3 x hx; omega
theorem Own.app {b : Nat} {op num at' : Int} {tx : Txt} {ns : List Nd} (h : Own TN TP lo H (.mk op tx num ns at') (some b)) (hlo : lo ≤ H.size) (hlen : ns.length ≤ 2 ^ 40) : ∃ L, (∀ {M : Nat → Prop} {H' : jaa}, Upd M H H' → (∀ x, lo ≤ x → x < H.size → ¬ M x) → jar H' ⟨b, 3, none⟩ = some (.slice L.a L.len L.cap)) ∧
 ∀ {M : Nat → Prop} {H' : jaa}, Upd M H H' → (∀ x, lo ≤ x → x < H.size → ¬ M x) → ∀ {n : Nd} {q : Option Nat}, Own TN TP H.size H' n q → ∀ {b2 : Nat}, Row H' b2 TP [jcy q] → ∀ {k : Sl → jaa → Prop},
  (∀ L' H2, Upd (fun x => lo ≤ x ∧ x < H.size) H' H2 → (∀ {K : jaa → Prop}, (∀ H3, Upd (fun x => lo ≤ x ∧ x < H.size) H' H3 → Own TN TP lo H3 (.mk op tx num (ns ++ [n]) at') (some b) → K H3) → St ⟨b, 3, none⟩ (.slice L'.a L'.len L'.cap) H2 K) → k L' H2) →
  App TP 1 8 #[.pointer none] L ⟨some (adr b2), 1, 1⟩ H' k := by
 obtain ⟨fp, ⟨b', L, qs, fl, hb, hr, hvc, hl, rfl⟩, h2, h3⟩ := h.ex
 cases hb
 have hno := (List.nodup_cons.1 h2).1
 have hlb := h3 b (by simp)
 refine ⟨L, fun hU hM => ((hU.row hr (hM b hlb hr.lt)).cell 3).trans rfl, fun {M H'} hU hM {_ q} hn {b2} hr2 {k} hk => ?_⟩
 have h3' : ∀ x ∈ jbl L ++ fl, lo ≤ x := fun x hx => h3 x (List.mem_cons_of_mem _ hx)
 have hin : ∀ x, L.a = some (adr x) → lo ≤ x ∧ x < H.size := fun x hx => ⟨h3' x (List.mem_append_left _ (by unfold jbl; rw [hx]; simp)), hvc.lt hx⟩
 have hLb : L.a ≠ some (adr b) := fun e => hno (List.mem_append_left _ (by unfold jbl; rw [e]; simp))
 refine jk5 hvc hl (List.nodup_cons.1 h2).2 h3' hU hM hlo hn hlen hr2 fun L' H2 qs2 fp2 hU2 g0 g1 g2 g3 g4 => hk L' H2 (hU2.mono fun x _ hx => hin x hx) fun {K} hK => ?_
 have hrb : Row H2 b TN (ndV op tx num L at') := hU2.row (hU.row hr (hM b hlb hr.lt)) hLb
 refine jay hrb (by simp) fun H3 hU3 _ hr3 => hK H3 ((hU2.mono fun x _ hx => hin x hx).trans hU3 fun x _ e => by subst e; exact ⟨hlb, hr.lt⟩) ?_
 have hnb : b ∉ jbl L' ++ fp2 := fun hx => by
  rcases g4 b hx with e | e
  ·exact hno e
  ·have := hr.lt; omega
 refine ⟨b :: (jbl L' ++ fp2), ⟨b, L', qs2, fp2, rfl, hr3, g0.upd hU3 fun c hc e => hnb (by subst e; exact List.mem_append_left _ (by unfold jbl; rw [hc]; simp)), g1.upd hU3 fun x hx e => hnb (by subst e; exact List.mem_append_right _ hx), rfl⟩, List.nodup_cons.2 ⟨hnb, g2⟩, fun x hx => ?_⟩
 rcases List.mem_cons.1 hx with rfl | hx
 ·exact hlb
 ·exact g3 x hx
theorem OwnT.mv {ns : List Nd} {qs : List (Option Nat)} (h : OwnT TN TP lo H ns qs) {b : Nat} (hU : Upd (· = b) H H') (hb : b < lo) : OwnT TN TP lo H' ns qs := h.upd hU fun x hx _ => by omega
theorem OwnL.mv {L : Sl} {ns : List Nd} (h : OwnL TN TP lo H L ns) {b : Nat} (hU : Upd (· = b) H H') (hb : b < lo) : OwnL TN TP lo H' L ns := h.upd hU fun x hx _ => by omega
theorem Own.mv {n : Nd} {q : Option Nat} (h : Own TN TP lo H n q) {b : Nat} (hU : Upd (· = b) H H') (hb : b < lo) : Own TN TP lo H' n q := h.upd hU fun x hx _ => by omega
theorem OwnT.more {ns : List Nd} {qs : List (Option Nat)} (h : OwnT TN TP lo H ns qs) {b : Nat} (hU : Upd (· = b) H H') (hb : b < lo) (hl : lo ≤ H.size) {n : Nd} {q : Option Nat} (hn : Own TN TP H.size H' n q) : OwnT TN TP lo H' (ns ++ [n]) (qs ++ [q]) :=
 h.snoc hU (fun x hx _ => by omega) hl hn
end
section
open Go Hc Hc.Lex
structure PS where
 toks : List Tk
 deep : Int
 stmts : Int
abbrev R (α : Type) := Option (Except (Int × Int) (α × PS))
def R.bind {α β : Type} (r : R α) (f : α → PS → R β) : R β :=
 match r with
 | none => none
 | some (.error e) => some (.error e)
 | some (.ok (a, s)) => f a s
def PS.hd (s : PS) : Tk := s.toks.headD ⟨0, [], 0⟩
def PS.take (s : PS) : PS := { s with toks := s.toks.tail }
def PS.up (s : PS) : PS := { s with deep := s.deep - 1 }
def jbo {α : Type} (a : α) (s : PS) : R α := some (.ok (a, s))
def jeJ {α : Type} (e : Int) (s : PS) : R α := some (.error ((s.hd.at' : Nat), e))
def wordsL : List Txt := [[97, 98, 115], [97, 100, 100], [100, 105, 101], [101, 108, 115, 101], [101, 109, 105, 116], [102, 117, 110, 99], [104, 97, 115], [105, 102], [105, 110, 112, 117, 116], [108, 101, 116], [109, 97, 120], [109, 101], [109, 105, 110], [114, 97, 110, 100], [114, 101, 97, 100, 115], [114, 101, 109, 111, 118, 101], [114, 101, 112, 101, 97, 116], [114, 101, 116, 117, 114, 110], [115, 112, 97, 119, 110], [115, 116, 111, 112], [115, 121, 115, 116, 101, 109], [116, 105, 99, 107], [119, 104, 105, 108, 101], [119, 105, 116, 104], [119, 105, 116, 104, 111, 117, 116], [119, 114, 105, 116, 101, 115]]
def jdU : Txt → Bool
 | [] => false
 | c :: t => jaA c && t.all jaP
def jaC (t : Txt) : Bool := decide (t.length ≤ 16) && !wordsL.contains t && jdU t
def jau (w : Txt) (s : PS) : Bool := s.hd.text == w && (s.hd.kind == 1 || s.hd.kind == 3)
def jbf (s : PS) : Bool := s.hd.kind == 1 && jaC s.hd.text
def jbY (w : Txt) (s : PS) : R Tk := if jau w s then jbo s.hd s.take else jeJ 100 s
def jcS (s : PS) : R Tk := if jbf s then jbo s.hd s.take else jeJ 100 s
def jfm (w : Txt) (s : PS) : R Tk := if jau w s then (if s.deep = 20 then jeJ 101 s else jbo s.hd { s.take with deep := s.deep + 1 }) else jeJ 100 s
def upP (w : Txt) (s : PS) : R Unit := (jbY w s).bind fun _ s => jbo () s.up
def jb8 (n most : Int) (s : PS) : R Unit := if n = most then jeJ 102 s else jbo () s
def jat (t : Txt) : Int :=
 if t = [124, 124] then 1 else if t = [38, 38] then 2 else if t = [61, 61] ∨ t = [33, 61] then 3 else if t = [60] ∨ t = [60, 61] ∨ t = [62] ∨ t = [62, 61] then 4
 else if t = [43] ∨ t = [45] then 5 else if t = [42] ∨ t = [47] ∨ t = [37] then 6 else 0
def builtinL : List Txt := [[114, 97, 110, 100], [105, 110, 112, 117, 116], [109, 105, 110], [109, 97, 120], [97, 98, 115]]
abbrev node (op : Int) (t : Tk) (l : List Nd) : Nd := .mk op [] 0 l (t.at' : Nat)
abbrev ja4 (op : Int) (t : Tk) (l : List Nd) : Nd := .mk op t.text 0 l (t.at' : Nat)
mutual
def exP : Nat → Nat → PS → R Nd
 | 0, _, _ => none
 | f + 1, lv, s =>
   if lv = 0 then (exP f 1 s).bind fun n s => if jau [63] s then
    (jfm [63] s).bind fun t s => (exP f 0 s).bind fun y s => (jbY [58] s).bind fun _ s => (exP f 0 s).bind fun z s => jbo (node 35 t [n, y, z]) s.up
    else jbo n s
   else if lv = 7 then (if jau [45] s then unP f [45] s else if jau [33] s then unP f [33] s else jey f s)
   else (exP f (lv + 1) s).bind fun n s => jiV f lv n s
def unP : Nat → Txt → PS → R Nd
 | 0, _, _ => none
 | f + 1, w, s => (jfm w s).bind fun t s => (exP f 7 s).bind fun n s => jbo (ja4 34 t [n]) s.up
def jiV : Nat → Nat → Nd → PS → R Nd
 | 0, _, _, _ => none
 | f + 1, lv, n, s => if s.hd.kind = 3 ∧ jat s.hd.text = lv then (exP f (lv + 1) s.take).bind fun m s' => jiV f lv (ja4 33 s.hd [n, m]) s' else jbo n s
def jey : Nat → PS → R Nd
 | 0, _ => none
 | f + 1, s =>
   if s.hd.kind = 2 then jbo (.mk 30 [] (jdl 0 s.hd.text : Nat) [] (s.hd.at' : Nat)) s.take
   else if jau [40] s then (jfm [40] s).bind fun _ s => (exP f 0 s).bind fun n s => (upP [41] s).bind fun _ s => jbo n s
   else if s.hd.kind = 1 ∧ builtinL.contains s.hd.text then (je0 f s.take).bind fun l s' => jbo (ja4 36 s.hd l) s'
   else if jau [104, 97, 115] s then (jbY [40] s.take).bind fun _ s1 => (jcS s1).bind fun t s2 => (jbY [41] s2).bind fun _ s3 => jbo (.mk 37 t.text 0 [] (s.hd.at' : Nat)) s3
   else if jau [116, 105, 99, 107] s || jau [109, 101] s then jbo (ja4 38 s.hd []) s.take
   else (jcS s).bind fun t s => if jau [40] s then (je0 f s).bind fun l s => jbo (ja4 36 t l) s
    else if jau [46] s then (jcS s.take).bind fun u s => jbo (ja4 32 t [ja4 31 u []]) s
    else jbo (ja4 31 t []) s
def je0 : Nat → PS → R (List Nd)
 | 0, _ => none
 | f + 1, s => (jfm [40] s).bind fun _ s => (if jau [41] s then jbo [] s else (exP f 0 s).bind fun n s => jen f [n] s).bind fun l s => (upP [41] s).bind fun _ s => jbo l s
def jen : Nat → List Nd → PS → R (List Nd)
 | 0, _, _ => none
 | f + 1, l, s => if jau [44] s then (exP f 0 s.take).bind fun n s => jen f (l ++ [n]) s else jbo l s
end
def jfk (F : Nat) : Nat → List Nd → PS → R (List Nd)
 | 0, _, _ => none
 | f + 1, l, s => if jau [125] s then jbo l s else
   (jcS s).bind fun t s => (jbY [58] s).bind fun _ s => (exP F 0 s).bind fun n s =>
    (if jau [125] s then jbo () s else (jbY [44] s).bind fun _ s => if jbf s then jbo () s else jeJ 100 s).bind fun _ s => jfk F f (l ++ [ja4 24 t [n]]) s
def jgq (F : Nat) (s : PS) : R Nd := (jcS s).bind fun t s => (jfm [123] s).bind fun _ s => (jfk F F [] s).bind fun l s => (upP [125] s).bind fun _ s => jbo (ja4 23 t l) s
def jhw (n : Nd) (s : PS) : R Nd := (jbY [59] s).bind fun _ s => jbo n s
def jna (F : Nat) (s : PS) : R Nd := (jcS s.take).bind fun t s1 => (jbY [61] s1).bind fun _ s2 => (exP F 0 s2).bind fun n s3 => jhw (.mk 10 t.text 0 [n] (s.hd.at' : Nat)) s3
def jm7 (F : Nat) (s : PS) : R Nd :=
 if jau [46] s.take then (jcS s.take.take).bind fun u s1 => (jbY [61] s1).bind fun _ s2 => (exP F 0 s2).bind fun n s3 => jhw (ja4 12 s.hd [ja4 31 u [], n]) s3
 else (jbY [61] s.take).bind fun _ s2 => (exP F 0 s2).bind fun n s3 => jhw (ja4 11 s.hd [n]) s3
def jh6 (F : Nat) (s : PS) : R Nd := (exP F 0 s.take).bind fun a s1 => (jbY [44] s1).bind fun _ s2 => (exP F 0 s2).bind fun b s3 => jhw (node 16 s.hd [a, b]) s3
def jdO (F : Nat) : Nat → List Nd → PS → R (List Nd)
 | 0, _, _ => none
 | f + 1, l, s => if jau [44] s then (jgq F s.take).bind fun n s => jdO F f (l ++ [n]) s else jbo l s
def jfd (F : Nat) (s : PS) : R Nd := if jau [59] s.take then jbo (node 17 s.hd []) s.take.take else (jgq F s.take).bind fun n s1 => (jdO F F [n] s1).bind fun l s2 => jhw (node 17 s.hd l) s2
def jnv (F : Nat) (s : PS) : R Nd := (jgq F s.take).bind fun n s1 => jhw (node 18 s.hd [n]) s1
def jdc (s : PS) : R Nd := (jcS s.take).bind fun t s1 => jhw (.mk 19 t.text 0 [] (s.hd.at' : Nat)) s1
def je6 (s : PS) : R Nd := jhw (node (if jau [100, 105, 101] s then 20 else 21) s.hd []) s.take
def jcW (F : Nat) (s : PS) : R Nd := (exP F 0 s.take).bind fun n s1 => jhw (node 22 s.hd [n]) s1
def jaD (w : Txt) : Nat :=
 if w = [108, 101, 116] then 161 else if w = [105, 102] then 162 else if w = [119, 104, 105, 108, 101] ∨ w = [114, 101, 112, 101, 97, 116] then 163 else if w = [101, 109, 105, 116] then 164
 else if w = [115, 112, 97, 119, 110] then 165 else if w = [97, 100, 100] then 166 else if w = [114, 101, 109, 111, 118, 101] then 167 else if w = [100, 105, 101] ∨ w = [115, 116, 111, 112] then 168
 else if w = [114, 101, 116, 117, 114, 110] then 169 else 0
def PS.more (s : PS) : PS := { s with stmts := s.stmts + 1 }
mutual
def ja2 (F : Nat) : Nat → PS → R Nd
 | 0, _ => none
 | f + 1, s => (jfm [123] s).bind fun t s => (jcF F f [] s).bind fun l s => (upP [125] s).bind fun _ s => jbo (node 5 t l) s
def jcF (F : Nat) : Nat → List Nd → PS → R (List Nd)
 | 0, _, _ => none
 | f + 1, l, s => if jau [125] s then jbo l s else (jeq F f s).bind fun n s => jcF F f (l ++ [n]) s
def jeq (F : Nat) : Nat → PS → R Nd
 | 0, _ => none
 | f + 1, s =>
   if s.hd.kind ≠ 1 ∨ (jaD s.hd.text = 0 ∧ jbf s = false) then jeJ 100 s else (jb8 s.stmts 200 s).bind fun _ s =>
    match jaD s.hd.text with
    | 161 => jna F s.more
    | 162 => jbg F f s.more
    | 163 => jb7 F f s.more
    | 164 => jh6 F s.more
    | 165 => jfd F s.more
    | 166 => jnv F s.more
    | 167 => jdc s.more
    | 168 => je6 s.more
    | 169 => jcW F s.more
    | _ => jm7 F s.more
def jbg (F : Nat) : Nat → PS → R Nd
 | 0, _ => none
 | f + 1, s => (exP F 0 s.take).bind fun c s1 => (ja2 F f s1).bind fun b s2 => if jau [101, 108, 115, 101] s2 then
    (if jau [105, 102] s2.take then (jb8 s2.stmts 200 s2.take).bind fun _ s3 => (jbg F f s3.more).bind fun e s4 => jbo (node 13 s.hd [c, b, e]) s4
     else (ja2 F f s2.take).bind fun e s4 => jbo (node 13 s.hd [c, b, e]) s4)
   else jbo (node 13 s.hd [c, b]) s2
def jb7 (F : Nat) : Nat → PS → R Nd
 | 0, _ => none
 | f + 1, s => (exP F 0 s.take).bind fun c s1 => (ja2 F f s1).bind fun b s2 => jbo (node (if jau [119, 104, 105, 108, 101] s then 14 else 15) s.hd [c, b]) s2
end
def jdo (most : Int) : Nat → List Nd → PS → R (List Nd)
 | 0, _, _ => none
 | f + 1, l, s => if jbf s then (jb8 (l.length : Nat) most s).bind fun _ s => if jau [44] s.take then jdo most f (l ++ [ja4 31 s.hd []]) s.take.take else jbo (l ++ [ja4 31 s.hd []]) s.take else jeJ 100 s
def clauseW : List Txt := [[119, 105, 116, 104], [119, 105, 116, 104, 111, 117, 116], [114, 101, 97, 100, 115], [119, 114, 105, 116, 101, 115]]
def jbM (F : Nat) : List Txt → List Nd → PS → R (List Nd)
 | [], l, s => jbo l s
 | w :: ws, l, s => if jau w s then (jdo (-1) F [] s.take).bind fun c s1 => jbM F ws (l ++ [.mk 3 w 0 c (s.hd.at' : Nat)]) s1 else jbM F ws (l ++ [.mk 3 w 0 [] (-1)]) s
def Nd.fix (a : Int) : Nd → Nd
 | .mk op t n l at' => if at' < 0 then .mk op t n l a else .mk op t n l at'
 | n => n
def Nd.place : Nd → Int
 | .mk _ _ _ _ a => a
 | .nil => 0
def jec (F : Nat) (s : PS) : R Nd := (jcS s.take).bind fun t s1 => (jbM F clauseW [] s1).bind fun l s2 => (ja2 F F s2).bind fun b s3 => jbo (.mk 2 t.text 0 (l.map (Nd.fix b.place) ++ [b]) (s.hd.at' : Nat)) s3
def jbW (F : Nat) (s : PS) : R Nd := (jcS s.take).bind fun t s1 => (jbY [40] s1).bind fun u s2 => (if jau [41] s2 then jbo [] s2 else jdo 4 F [] s2).bind fun c s3 => (jbY [41] s3).bind fun _ s4 => (ja2 F F s4).bind fun b s5 => jbo (.mk 4 t.text 0 [.mk 3 [102, 117, 110, 99] 0 c (u.at' : Nat), b] (s.hd.at' : Nat)) s5
def jbz (F : Nat) : Nat → Int → Int → List Nd → PS → R (List Nd)
 | 0, _, _, _, _ => none
 | f + 1, a, b, l, s => if s.hd.kind = 0 then jbo l s else if jau [115, 121, 115, 116, 101, 109] s then (jb8 a 16 s).bind fun _ s => (jec F s).bind fun n s => jbz F f (a + 1) b (l ++ [n]) s
   else if jau [102, 117, 110, 99] s then (jb8 b 16 s).bind fun _ s => (jbW F s).bind fun n s => jbz F f a (b + 1) (l ++ [n]) s else jeJ 100 s
def jew (F : Nat) (s : PS) : R Nd := (jbz F F 0 0 [] s).bind fun l s => jbo (.mk 1 [] 0 l 0) s
def jmP : Nat := 200000
def jhH (ts : List Tk) : R Nd := jew jmP ⟨ts, 0, 0⟩
end
end Go.Proofs.YtfpmgpblhhcpgaaGreatDoor.Hc.Syn
namespace Go.Proofs.YtfpmgpblhhcpgaaGreatDoor
set_option maxRecDepth 100000
section
open Hc Hc.Lex Hc.Syn
variable {H : jaa}
theorem GE.up {H' : jaa} (h : GE H.size H) (hE : Ext H H') : GE H'.size H' := by have := h.ext hE; exact ⟨Nat.le_trans h.lt hE.size, this.mx, this.er⟩
theorem jgE {s : ByteArray} (h : s.size ≤ 8000) : jfR s = match jdr 0 (bs s) with
 | .ok l => .ok l
 | .error e => .error (e, 90) := by unfold jfR; rw [if_neg (by omega)] <;> rfl
theorem LexOut.ok {lo : Nat} {s : ByteArray} {r : Sl} {v : Value} {ts : List Tk} (h : LexOut lo H s r v) (e : jfR s = .ok ts) : v = .nilIface ∧ VecN H jbP 3 r (jcb ts) ∧ ∀ c, r.a = some (adr c) → lo ≤ c := by
 unfold LexOut at h; rw [e] at h; exact h
theorem LexOut.err {lo : Nat} {s : ByteArray} {r : Sl} {v : Value} {a c : Nat} (h : LexOut lo H s r v) (e : jfR s = .error (a, c)) : r = ⟨none, 0, 0⟩ ∧ ∃ f, v = .iface jkO (.pointer (some (adr f))) ∧ lo ≤ f ∧ Row H f jkH [.int .i64 (a : Nat), .int .i64 (c : Nat)] := by
 unfold LexOut at h; rw [e] at h; exact h
theorem jhe : ∀ (f p : Nat) (r : Bs) (ts : List Tk), jf2 f p r = .ok ts → ts.length ≤ r.length + 1
 | 0, _, [], ts, h => by simp only [jf2, Except.ok.injEq] at h; subst h; simp
 | 0, _, _ :: _, ts, h => by simp [jf2] at h
 | f + 1, p, [], ts, h => by simp only [jf2, Except.ok.injEq] at h; subst h; simp
 | f + 1, p, c :: t, ts, h => by
   unfold jf2 at h
   split at h
   ·have := jhe f _ _ _ h
    simp only [List.length_drop, List.length_cons] at this ⊢
    omega
   ·rename_i k n _
    cases hr : jf2 f (p + n) (t.drop (n - 1)) with
    | error e => rw [hr] at h; cases h
    | ok l =>
      have := jhe f _ _ _ hr
      rw [hr] at h
      simp only [pre, Except.ok.injEq] at h
      subst h
      simp only [List.length_drop, List.length_cons, List.length_append, List.length_nil] at this ⊢
      omega
   ·cases h
theorem jmE {s : ByteArray} {ts : List Tk} (h : jfR s = .ok ts) : ts.length ≤ 8001 := by
 unfold jfR at h
 split at h
 ·cases h
 ·rename_i hs
  split at h
  ·rename_i l hl
   cases h
   have := jhe _ _ _ _ hl
   rw [jaw] at this
   omega
  ·cases h
def TabH (H : jaa) : Prop := ∃ t fr, H[0]? = some (.cells (Lib.asciiSpaceTab.map fun z => Value.int .u8 z).toArray t fr)
theorem TabH.ext {H' : jaa} (h : TabH H) (hE : Ext H H') : TabH H' := by
 obtain ⟨t, fr, h⟩ := h
 exact ⟨t, fr, (hE.get 0 (jcj h) fun h => h).trans h⟩
theorem TabH.nb {H' : jaa} {M : Nat → Prop} (h : TabH H) (hU : Upd M H H') (hM : ¬ M 0) : TabH H' := by
 obtain ⟨t, fr, h⟩ := h
 exact ⟨t, fr, (hU.get 0 (jcj h) hM).trans h⟩
theorem gAscii : Tryz.prog.globalNamed "strings.asciiSpace" = some 0 := by kernel_rfl
abbrev sV (l : Bs) : Value := .string ⟨⟨l⟩⟩
theorem jmi {k : Sl → jaa → Prop} (hk : ∀ r H', Vec H' jcC r (wordsL.map sV) → Ext H H' → r.a = some (adr H.size) → H.size < H'.size → k r H') : CallT Pg fQb5 [] (.one (.c .sl)) H k := by
 refine cQb0 ?_
 unfold vQb0
 refine jaq (vs := wordsL.map sV) fun b H1 hb hE hz hr => ?_
 subst hb
 exact hk _ _ ⟨rfl, .inr ⟨H.size, [], rfl, by simpa using hr, by simp [wordsL]⟩, Nat.le_refl _⟩ hE rfl (by omega)
def wordsS : ByteArray := ⟨#[97, 98, 115, 32, 97, 100, 100, 32, 100, 105, 101, 32, 101, 108, 115, 101, 32, 101, 109, 105, 116, 32, 102, 117, 110, 99, 32, 104, 97, 115, 32, 105, 102, 32, 105, 110, 112, 117, 116, 32, 108, 101, 116, 32, 109, 97, 120, 32, 109, 101, 32, 109, 105, 110, 32, 114, 97, 110, 100, 32, 114, 101, 97, 100, 115, 32, 114, 101, 109, 111, 118, 101, 32, 114, 101, 112, 101, 97, 116, 32, 114, 101, 116, 117, 114, 110, 32, 115, 112, 97, 119, 110, 32, 115, 116, 111, 112, 32, 115, 121, 115, 116, 101, 109, 32, 116, 105, 99, 107, 32, 119, 104, 105, 108, 101, 32, 119, 105, 116, 104, 32, 119, 105, 116, 104, 111, 117, 116, 32, 119, 114, 105, 116, 101, 115]⟩
theorem jhM : Lib.fields wordsS.data.toList = wordsL := by rfl
theorem jjf : ∀ (j : Nat) b, wordsS.data.toList[j]? = some b → b.toNat < 128 := by
 have h : ∀ b ∈ wordsS.data.toList, b.toNat < 128 := by decide
 intro j b hb
 exact h b (List.mem_of_getElem? hb)
theorem s_Words (ht : TabH H) {k : Sl → jaa → Prop} (hk : ∀ r H', Vec H' jcC r (wordsL.map sV) → Ext H H' → r.a = some (adr H.size) → H.size < H'.size → k r H') : CallT Pg fQav [] (.one (.c .sl)) H k := by
 refine cQbr ?_
 unfold vQbr
 obtain ⟨t, fr, ht⟩ := ht
 refine ja6 jlm (fun w hw => Tryz.strings_Fields wordsS w (by decide) jjf ?_) fun w e w' hw ⟨h1, h2⟩ => ?_
 ·unfold Lib.TabIs World.var?
  rw [gAscii, Option.bind_some, hw, ht]
 ·rw [jhM] at h1 h2
  subst h2
  refine ⟨⟨rfl, rfl, rfl⟩, ⟨some (adr w.heap.size), 26, 26⟩, h1, ?_⟩
  have hE : Ext w.heap (w.alloc (.cells (wordsL.map fun l => Value.string ⟨l.toArray⟩).toArray 9)).heap := Upd.push _ _ _
  subst hw
  refine hk _ _ ⟨rfl, .inr ⟨w.heap.size, [], rfl, ?_, by simp [wordsL]⟩, Nat.le_refl _⟩ hE rfl (by show w.heap.size < (w.heap.push _).size; simp)
  rw [List.append_nil]
  exact jaJ _ _
end
end Go.Proofs.YtfpmgpblhhcpgaaGreatDoor
namespace Go.Proofs.YtfpmgpblhhcpgaaGreatDoor.Hc
set_option maxRecDepth 100000
structure VecO (H : jaa) (T : TypeId) (n : Nat) (s : Sl) (vs : List Value) : Prop where
 len : vs.length = s.len * n
 own : (s.a = none ∧ s.cap = 0 ∧ vs = []) ∨ ∃ (b : Nat) (pre sp : List Value), s.a = some ⟨b, pre.length, none⟩ ∧ Row H b T (pre ++ vs ++ sp) ∧ s.cap * n ≤ vs.length + sp.length
 lc : s.len ≤ s.cap
theorem VecO.upd {M : Nat → Prop} {H H' : jaa} (hu : Upd M H H') {T : TypeId} {n : Nat} {s : Sl} {vs : List Value} (h : VecO H T n s vs) (hn : ∀ a, s.a = some a → ¬ M a.block) : VecO H' T n s vs := by
 refine ⟨h.len, ?_, h.lc⟩
 rcases h.own with h1 | ⟨b, pre, sp, h1, h2, h3⟩
 ·exact .inl h1
 ·exact .inr ⟨b, pre, sp, h1, hu.row h2 (hn _ h1), h3⟩
theorem VecO.ext {H H' : jaa} (hu : Ext H H') {T : TypeId} {n : Nat} {s : Sl} {vs : List Value} (h : VecO H T n s vs) : VecO H' T n s vs := h.upd hu fun _ _ h => h
theorem VecO.ne {H : jaa} {T T' : TypeId} {n : Nat} {s : Sl} {vs ws : List Value} (h : VecO H T n s vs) {a : Addr} (ha : s.a = some a) {b : Nat} (h' : Row H b T' ws) (ht : T ≠ T') : a.block ≠ b := by
 rcases h.own with ⟨g1, _⟩ | ⟨c, pre, sp, g1, g2, _⟩
 ·rw [g1] at ha; cases ha
 ·rw [g1] at ha; cases ha; exact g2.ne h' ht
theorem VecO.cell {H : jaa} {T : TypeId} {n : Nat} {s : Sl} {vs : List Value} (h : VecO H T n s vs) {j : Nat} (hj : j < vs.length) : ∃ a, s.a = some a ∧ jar H (a.add j) = vs[j]? := by
 rcases h.own with ⟨_, _, g⟩ | ⟨b, pre, sp, g1, g2, _⟩
 ·subst g; simp at hj
 ·refine ⟨_, g1, ?_⟩
  rw [mk_add, g2.cell, List.append_assoc, List.getElem?_append_right (by omega), show pre.length + j - pre.length = j by omega, List.getElem?_append_left hj]
theorem SlA_pop {H : jaa} {T : TypeId} {n : Nat} {s : Sl} {v ws : List Value} {k : Sl → Prop} (h : VecO H T n s (v ++ ws)) (hv : v.length = n) (hn : 0 < n) (hk : ∀ s', VecO H T n s' ws → (∀ a, s'.a = some a → ∃ a0, s.a = some a0 ∧ a0.block = a.block) → s'.len + 1 = s.len → k s') :
 SlA n s 1 (s.len : Nat) (s.cap : Nat) k := by
 have hl := h.len
 have hlc := h.lc
 have hpos : 0 < s.len := by
  rcases Nat.eq_zero_or_pos s.len with e | e
  ·rw [e, List.length_append, hv] at hl; simp at hl; omega
  ·exact e
 refine ⟨by omega, by omega, by omega, by omega, ?_⟩
 rw [show (Int.toNat 1) = 1 from rfl, Int.toNat_natCast, Int.toNat_natCast]
 obtain ⟨m, hm⟩ : ∃ m, s.len = m + 1 := ⟨s.len - 1, by omega⟩
 have hws : ws.length = m * n := by
  rw [List.length_append, hv, hm, Nat.add_mul] at hl; omega
 refine hk _ ⟨?_, ?_, ?_⟩ (fun a ha => ?_) (by dsimp only; omega)
 ·dsimp only; rw [hm, show m + 1 - 1 = m by omega]; exact hws
 ·rcases h.own with ⟨_, _, g⟩ | ⟨b, pre, sp, g1, g2, g3⟩
  ·have := congrArg List.length g
   rw [List.length_append, hv] at this; simp at this; omega
  ·right
   by_cases e : s.cap = 1
   ·have hm0 : m = 0 := by omega
    have hw0 : ws = [] := List.eq_nil_of_length_eq_zero (by rw [hws, hm0]; simp)
    subst hw0
    refine ⟨b, pre, v ++ sp, ?_, ?_, ?_⟩
    ·dsimp only; rw [if_pos e]; exact g1
    ·simpa using g2
    ·dsimp only; rw [e]; simp
   ·refine ⟨b, pre ++ v, sp, ?_, ?_, ?_⟩
    ·dsimp only
     rw [if_neg e, g1]
     simp [hv]
    ·simpa using g2
    ·dsimp only
     have : (s.cap - 1) * n = s.cap * n - n := by rw [Nat.sub_mul, Nat.one_mul]
     rw [this]
     rw [List.length_append, hv] at g3
     omega
 ·dsimp only; omega
 ·dsimp only at ha
  split at ha
  ·exact ⟨a, ha, rfl⟩
  ·cases hs : s.a with
   | none => rw [hs] at ha; cases ha
   | some a0 =>
     rw [hs] at ha
     simp only [Option.map_some, Option.some.injEq] at ha
     subst ha
     exact ⟨a0, rfl, (jcm _ _).symm⟩
end Go.Proofs.YtfpmgpblhhcpgaaGreatDoor.Hc
namespace Go.Proofs.YtfpmgpblhhcpgaaGreatDoor
set_option maxRecDepth 100000
section
open Hc Hc.Lex Hc.Syn
variable {H : jaa}
theorem jfK : Cb Pg fQau := ⟨_, Tryz.func125, by kernel_rfl, by kernel_rfl⟩
theorem je1 {r : Sl} {l : List Txt} (hv : Vec H jcC r (l.map fun t => (Value.string ⟨⟨t⟩⟩))) (hl : l.length ≤ 1000) {t : Txt} {k : Bool → jaa → Prop} (hk : k (l.contains t) H) : CallT Pg fQau [.slice r.a r.len r.cap, .string ⟨⟨t⟩⟩] (.one (.c .bool)) H k := by
 have hlen : r.len = l.length := by rw [hv.len, List.length_map]
 rcases l with _ | ⟨x, l⟩
 ·rw [hlen]
  refine ja6 jfK (fun w _ => Tryz.slices_Contains_string_empty r.a r.cap ⟨⟨t⟩⟩ w) fun w e w' hw ⟨h1, h2⟩ => ?_
  subst h2
  exact ⟨.refl _, false, h1, by rw [hw]; exact hk⟩
 ·obtain ⟨b, hb, _⟩ := hv.cell (i := 0) (by simp)
  have ecell : ∀ j, j < ((x :: l).map fun t => (⟨⟨t⟩⟩ : ByteArray)).length → ∀ w : World, w.heap = H → w.cell? ⟨b, 0 + j, none⟩ = some (.string (((x :: l).map fun t => (⟨⟨t⟩⟩ : ByteArray)).getD j ByteArray.empty)) := fun j hj w hw => by
   subst hw
   rw [List.length_map] at hj
   obtain ⟨b', hb', hc⟩ := hv.cell (i := j) (by rw [List.length_map]; exact hj)
   rw [hb] at hb'; cases hb'
   rw [cell?_eq, Nat.zero_add, hc]
   rw [List.getElem?_map, List.getD_eq_getElem?_getD, List.getElem?_map, List.getElem?_eq_getElem hj]
   rfl
  rw [hb, hlen]
  refine ja6 jfK (fun w hw => Tryz.slices_Contains_string b 0 (x :: l).length r.cap ((x :: l).map fun t => (⟨⟨t⟩⟩ : ByteArray)) ⟨⟨t⟩⟩ w (by simp) (by omega) fun j hj => ecell j hj w hw) fun w e w' hw ⟨h1, h2⟩ => ?_
  subst h2
  refine ⟨.refl _, _, h1, ?_⟩
  have : Lib.containsS (((x :: l).map fun t => (⟨⟨t⟩⟩ : ByteArray)).take (x :: l).length) ⟨⟨t⟩⟩ = (x :: l).contains t := by
   rw [Bool.eq_iff_iff, Lib.containsS_iff, List.take_of_length_le (by simp), List.mem_map, List.contains_iff_mem]
   constructor
   ·rintro ⟨y, hy, e⟩
    have : y = t := by injection e with e; injection e
    exact this ▸ hy
   ·exact fun h => ⟨t, h, rfl⟩
  rw [this, hw]; exact hk
theorem jig {t : Txt} {k : Bool → jaa → Prop} (hk : ∀ H', Ext H H' → k (builtinL.contains t) H') : CallT Pg fQax [.string ⟨⟨t⟩⟩] (.one (.c .bool)) H k := by
 refine cQbb _ ?_
 unfold vQbb
 refine jaq (vs := builtinL.map fun t => (Value.string ⟨⟨t⟩⟩)) fun b H1 hb hE hz hr => ?_
 exact je1 (l := builtinL) (r := ⟨some (adr b), 5, 5⟩) ⟨rfl, .inr ⟨b, [], rfl, by simpa using hr, by simp [builtinL]⟩, Nat.le_refl _⟩ (by decide) (hk _ hE)
theorem jk6 (c : UInt8) : (decide ((bits .or .u8 (c.toNat : Int) 32) ≥ 97) && decide ((bits .or .u8 (c.toNat : Int) 32) ≤ 122)) = jaA c := by
 have h : ∀ n : Fin 256, (decide ((bits .or .u8 ((UInt8.ofNat n.val).toNat : Int) 32) ≥ 97) && decide ((bits .or .u8 ((UInt8.ofNat n.val).toNat : Int) 32) ≤ 122)) = jaA (UInt8.ofNat n.val) := by decide +kernel
 have := h ⟨c.toNat, c.toNat_lt⟩
 simpa using this
theorem jhU : ∀ {t : Txt}, t ≠ [] → (jdU t = true ↔ ∀ x, x < t.length → (if x = 0 then jaA t[x]! else jaP t[x]!) = true)
 | [], h => absurd rfl h
 | c :: t, _ => by
   show (jaA c && t.all jaP) = true ↔ _
   rw [Bool.and_eq_true, List.all_eq_true]
   constructor
   ·rintro ⟨h1, h2⟩ x hx
    cases x with
    | zero => exact h1
    | succ x =>
      rw [if_neg (by omega)]
      have hx' : x < t.length := by simpa using hx
      have : (c :: t)[x + 1]! = t[x] := by simp [hx']
      rw [this]; exact h2 _ (List.getElem_mem _)
   ·intro h
    refine ⟨h 0 (by simp), fun x hx => ?_⟩
    obtain ⟨i, hi, rfl⟩ := List.getElem_of_mem hx
    have := h (i + 1) (by simpa using hi)
    rw [if_neg (by omega)] at this
    simpa [hi] using this
theorem jhs (ht : TabH H) {t : Txt} (hs : t.length ≤ 2 ^ 40) {k : Bool → jaa → Prop} (hk : ∀ H', Ext H H' → k (jaC t) H') : CallT Pg fQan [.string ⟨⟨t⟩⟩] (.one (.c .bool)) H k := by
 refine cQbc _ ?_
 unfold vQbc
 refine Jn.mk (fun j H' => Ext H H' ∧ j = (t.isEmpty || decide (t.length > 16) || wordsL.contains t)) (fun kk hkk => ?_) ?_
 ·rw [ja3]
  refine jaj (fun e => hkk _ _ ⟨.refl _ _, ?_⟩) fun e => jaj (fun e2 => hkk _ _ ⟨.refl _ _, ?_⟩) fun e2 => s_Words ht fun r H2 hv hE _ _ => je1 (l := wordsL) hv (by decide) (hkk _ _ ⟨hE, ?_⟩)
  ·have e : t = [] := e
   subst e; rfl
  ·have e2 : (t.length : Int) > 16 := e2
   rw [decide_eq_true (show t.length > 16 by omega)]; simp
  ·have e2 : ¬ (t.length : Int) > 16 := e2
   have e : ¬ t = [] := e
   rw [decide_eq_false (show ¬ t.length > 16 by omega)]
   cases t with
   | nil => exact absurd rfl e
   | cons c t => rfl
 rintro _ H1 ⟨hE1, rfl⟩
 refine Br.mk (fun e => ?_) fun e => ?_
 ·have : jaC t = false := by
   unfold jaC
   simp only [Bool.or_eq_true, decide_eq_true_eq] at e
   rcases e with (e | e) | e
   ·cases t with
    | nil => simp [jdU]
    | cons c t => cases e
   ·rw [decide_eq_false (by omega)]; rfl
   ·rw [e]; simp
  rw [← this]; exact hk _ hE1
 ·simp only [Bool.or_eq_false_iff, decide_eq_false_iff_not] at e
  obtain ⟨⟨e1, e2⟩, e3⟩ := e
  have hin : jaC t = jdU t := by
   unfold jaC
   rw [decide_eq_true (show t.length ≤ 16 by omega), e3]; rfl
  refine S2B_rb fun l H4 hrb hE4 _ => ?_
  have hrb : RB H4 l t := hrb
  have hE := hE1.trans hE4 fun _ _ h => h
  have hlen := hrb.len
  refine LoopT.ghost (fun m (i : Int) H' => H' = H4 ∧ ∃ j : Nat, i = j ∧ j + m = t.length ∧ ∀ x, x < j → (if x = 0 then jaA t[x]! else jaP t[x]!) = true) t.length ⟨rfl, 0, rfl, by omega, fun x hx => by omega⟩ ?_
  rintro next m i H5 ⟨eH, j, rfl, hm, hall⟩ hnext
  subst eH
  have hne : t ≠ [] := by intro h; subst h; exact absurd e1 (by decide)
  refine jaj (fun hj => ?_) fun hj => ?_
  rotate_left
  ·have : jaC t = true := by
    rw [hin, jhU hne]
    exact fun x hx => hall x (by omega)
   rw [← this]; exact hk _ hE
  have hjl : j < t.length := by omega
  refine IxA_rb hrb rfl hjl fun a hc _ => jaf hc ?_
  have ej : t[j]! = t[j] := by simp [hjl]
  generalize t[j] = c at *
  have hlo := jk6 c
  refine Jn.mk (fun y H' => H5 = H' ∧ y = jaA c) (fun kk hkk => Lt.mk rfl (jaj (fun h => Lt.mk rfl (hkk _ _ ⟨rfl, ?_⟩)) fun h => hkk _ _ ⟨rfl, ?_⟩)) ?_
  ·rw [decide_eq_true h, Bool.true_and] at hlo; exact hlo
  ·rw [decide_eq_false h, Bool.false_and] at hlo; exact hlo
  rintro _ _ ⟨rfl, rfl⟩
  refine Jn.mk (fun y H' => H5 = H' ∧ y = !(if j = 0 then jaA c else jaP c)) (fun kk hkk => ?_) ?_
  ·have hc5 : c = 95 ↔ (c.toNat : Int) = 95 := ⟨fun h => by rw [h]; rfl, fun h => UInt8.toNat_inj.1 (by show c.toNat = 95; omega)⟩
   cases hL : jaA c with
   | true => exact (Br_false _ _).2 (hkk _ _ ⟨rfl, by unfold jaP; rw [hL]; simp⟩)
   | false =>
     refine (Br_true _ _).2 (Br.mk (fun e0 => hkk _ _ ⟨rfl, ?_⟩) fun e0 => Br.mk (fun e5 => ?_) fun e5 => hkk _ _ ⟨rfl, ?_⟩)
     ·have e0 : (j : Int) = 0 := by simpa using e0
      rw [if_pos (by omega), hL]; rfl
     ·have e0 : ¬ (j : Int) = 0 := by simpa using e0
      have e5 : ¬ (c.toNat : Int) = 95 := by simpa using e5
      have n5 : (c == 95) = false := beq_eq_false_iff_ne.2 fun h => e5 (hc5.1 h)
      refine jaj (fun h => hkk _ _ ⟨rfl, ?_⟩) fun h => hkk _ _ ⟨rfl, ?_⟩
      ·rw [if_neg (by omega)]; unfold jaP
       rw [hL, n5, jby, decide_eq_false (by omega)]; rfl
      ·rw [if_neg (by omega)]; unfold jaP
       rw [hL, n5, jby, Bool.false_or, Bool.or_false, ← decide_not]
       exact decide_eq_decide.2 (by omega)
     ·have e0 : ¬ (j : Int) = 0 := by simpa using e0
      have e5 : (c.toNat : Int) = 95 := by simpa using e5
      rw [if_neg (by omega)]; unfold jaP
      rw [hc5.2 e5]; rfl
  rintro _ _ ⟨rfl, rfl⟩
  refine Br.mk (fun hb => ?_) fun hb => ?_
  ·have : jaC t = false := by
    rw [hin, Bool.eq_false_iff]
    intro hs
    have := (jhU hne).1 hs j hjl
    rw [ej] at this
    rw [this] at hb; cases hb
   rw [← this]; exact hk _ hE
  ·have hb : (if j = 0 then jaA c else jaP c) = true := by simpa using hb
   refine Lt.mk (u := (j : Int) + 1) (by rw [jac] <;> omega) (hnext (m - 1) _ _ (by omega) ⟨rfl, j + 1, by omega, by omega, fun x hx => ?_⟩)
   rcases Nat.lt_or_ge x j with h | h
   ·exact hall x h
   ·have : x = j := by omega
    subst this
    rw [ej]; exact hb
theorem beqI {a b : Int} (h : (a == b) = true) : a = b := by simpa using h
theorem bneI {a b : Int} (h : (a == b) = false) : a ≠ b := by simpa using h
theorem jfM {H H1 H2 : jaa} {b : Nat} (hE : Ext H H1) (hb : H.size ≤ b) (hU : Upd (· = b) H1 H2) : Ext H H2 := hE.trans hU fun c hc e => by omega
theorem jkg {t : Txt} (ht : t ≠ []) (hs : t.length ≤ 8000) (hd : t.all jav = true) (hm : jdl 0 t ≤ 9223372036854775807) {k : Int × Value → jaa → Prop} (hk : ∀ v H', Ext H H' → k ((jdl 0 t : Nat), v) H') : CallT Pg fQao [.string ⟨⟨t⟩⟩, .int .i64 10, .int .i64 64] (.tup [(.c (.int .i64)), (.c .raw)]) H k :=
 jeE (s := ⟨⟨t⟩⟩) (v := (jdl 0 t : Nat)) hs (by show Lib.parseIntB 64 t = _; rw [jfe (fun c hc => List.all_eq_true.1 hd c hc) ht, if_pos hm]) fun H' hE => hk _ H' hE
end
section
open Hc Hc.Lex Hc.Syn
variable {H : jaa}
abbrev TQan : TypeId := 59
abbrev TokR : RTy := .one (.agg [(.int .i64), .str, (.int .i64)])
abbrev tokA (t : Tk) : Value := .agg #[.int .i64 (t.kind : Nat), .string ⟨⟨t.text⟩⟩, .int .i64 (t.at' : Nat)]
abbrev jhK (t : Tk) : Int × ByteArray × Int := ((t.kind : Nat), ⟨⟨t.text⟩⟩, (t.at' : Nat))
theorem jbk {a : Addr} {t : Tk} (h : jaR H a 0 (jgZ t)) {k : Int × ByteArray × Int → Prop} (hk : k (jhK t)) : LdC [(.int .i64), .str, (.int .i64)] a H k := ⟨jhK t, h, hk⟩
structure TkOk (t : Tk) : Prop where
 at' : t.at' ≤ 8000
 len : t.text.length ≤ 8000
 num : t.kind = 2 → t.text ≠ [] ∧ t.text.all jav = true ∧ jdl 0 t.text ≤ 9223372036854775807
 word : t.kind = 1 → t.text.length ≤ 16 ∧ jdU t.text = true
 kind : t.kind ≤ 3
structure TsOk (ts : List Tk) : Prop where
 ok : ∀ t ∈ ts, TkOk t
 ends : ∃ i l, ts = i ++ [l] ∧ l.kind = 0 ∧ ∀ t ∈ i, t.kind ≠ 0
 len : ts.length ≤ 9000
structure PR (H : jaa) (b tb : Nat) (s : PS) : Prop where
 row : ∃ sl, Row H b TQan [slV sl, .int .i64 s.deep, .int .i64 s.stmts] ∧ VecO H jbP 3 sl (jcb s.toks) ∧ ∀ a, sl.a = some a → a.block = tb
 tab : TabH H
 b0 : b ≠ 0
 ts : TsOk s.toks
 dp : 0 ≤ s.deep ∧ s.deep ≤ 20
 st : 0 ≤ s.stmts ∧ s.stmts ≤ 200
theorem PR.lt {b tb : Nat} {s : PS} (h : PR H b tb s) : b < H.size := by obtain ⟨_, q, _⟩ := h.row; exact q.lt
theorem PR.upd {H' : jaa} {b tb : Nat} {s : PS} (h : PR H b tb s) {M : Nat → Prop} (hU : Upd M H H') (h0 : ¬ M 0) (h1 : ¬ M b) (h2 : ¬ M tb) : PR H' b tb s := by
 obtain ⟨sl, g1, g2, g3⟩ := h.row
 exact ⟨⟨sl, hU.row g1 h1, g2.upd hU fun a ha => by rw [g3 a ha]; exact h2, g3⟩, h.tab.nb hU h0, h.b0, h.ts, h.dp, h.st⟩
theorem PR.ext {H' : jaa} {b tb : Nat} {s : PS} (h : PR H b tb s) (hE : Ext H H') : PR H' b tb s := h.upd hE (fun h => h) (fun h => h) fun h => h
theorem TsOk.hd {ts : List Tk} (h : TsOk ts) : ∃ t r, ts = t :: r ∧ TkOk t ∧ (t.kind ≠ 0 → TsOk r) := by
 obtain ⟨i, l, e, h1, h2⟩ := h.ends
 have hl := h.len
 cases i with
 | nil => exact ⟨l, [], by simpa using e, h.ok l (by rw [e]; simp), fun g => absurd h1 g⟩
 | cons t i => exact ⟨t, i ++ [l], by simpa using e, h.ok t (by rw [e]; simp), fun _ => ⟨fun x hx => h.ok x (by rw [e]; simp only [List.cons_append, List.mem_cons]; exact .inr hx), ⟨i, l, rfl, h1, fun x hx => h2 x (by simp [hx])⟩, by rw [e] at hl; simp at hl ⊢; omega⟩⟩
theorem PR.hd {b tb : Nat} {s : PS} (h : PR H b tb s) : s.toks = s.hd :: s.take.toks ∧ TkOk s.hd ∧ (s.hd.kind ≠ 0 → TsOk s.take.toks) := by
 obtain ⟨t, r, e, h1, h2⟩ := h.ts.hd
 have e1 : s.hd = t := by unfold PS.hd; rw [e]; rfl
 have e2 : s.take.toks = r := by show s.toks.tail = r; rw [e]; rfl
 rw [e1, e2]; exact ⟨e, h1, h2⟩
theorem PR.rd {b tb : Nat} {s : PS} (h : PR H b tb s) : ∃ sl, jar H ⟨b, 0, none⟩ = some (slV sl) ∧ ∀ {k : Addr → Prop}, (∀ a, jaR H a 0 (jgZ s.hd) → k a) → IxA 3 sl 0 k := by
 obtain ⟨sl, h1, h2, _⟩ := h.row
 obtain ⟨e, _⟩ := h.hd
 refine ⟨sl, (h1.cell 0).trans rfl, fun {k} hk => ?_⟩
 rw [e] at h2
 have hv : jcb (s.hd :: s.take.toks) = jgZ s.hd ++ jcb s.take.toks := rfl
 rw [hv] at h2
 have hl := h2.len
 obtain ⟨a, ha, _⟩ := h2.cell (j := 0) (by simp)
 refine IxA.mk ha (Int.le_refl _) (by rw [List.length_append, jfC] at hl; omega) ?_
 refine hk _ (hcells_iff.2 fun j hj => ?_)
 obtain ⟨a', ha', hc⟩ := h2.cell (j := j) (by rw [List.length_append]; omega)
 rw [ha] at ha'; cases ha'
 rw [show (0 : Int).toNat * 3 = 0 from rfl, Addr.add_zero', Nat.zero_add, hc, List.getElem?_append_left hj]
theorem jdQ {a : Addr} {t : Tk} (h : jaR H a 0 (jgZ t)) : jar H a = some (.int .i64 (t.kind : Nat)) ∧ jar H (a.add 1) = some (.string ⟨⟨t.text⟩⟩) ∧ jar H (a.add 2) = some (.int .i64 (t.at' : Nat)) := by
 have := hcells_iff.1 h
 exact ⟨by have := this 0 (by simp); rw [Nat.add_zero, Addr.add_zero'] at this; exact this.trans rfl, by have := this 1 (by simp); simpa using this, by have := this 2 (by simp); simpa using this⟩
theorem jcz {v : Int × ByteArray × Int} {t : Tk} (hv : v = jhK t) {K : Nat → jaa → Prop} (hK : ∀ b H', b = H.size → Ext H H' → Row H' b jbP (jgZ t) → K b H') :
 Nw #[.int .i64 0, .string ByteArray.empty, .int .i64 0] jbP H fun b1 H1 => St ⟨b1, 0, none⟩ (.int .i64 v.1) H1 fun H2 => St ⟨b1, 1, none⟩ (.string v.2.1) H2 fun H3 => St ⟨b1, 2, none⟩ (.int .i64 v.2.2) H3 fun H4 => K b1 H4 := by
 subst hv
 refine jaq (vs := [.int .i64 0, .string ByteArray.empty, .int .i64 0]) fun b1 H1 hb1 hE1 _ hr1 => ?_
 refine jay hr1 (by simp) fun H2 hU2 _ hr2 => jay hr2 (by simp) fun H3 hU3 _ hr3 => jay hr3 (by simp) fun H4 hU4 _ hr4 => ?_
 exact hK b1 H4 hb1 (jfM hE1 (by omega) ((hU2.trans hU3 fun _ _ e => e).trans hU4 fun _ _ e => e)) hr4
theorem jbm {b tb : Nat} {s : PS} (h : PR H b tb s) {w : Txt} {k : Bool → jaa → Prop} (hk : ∀ H', Ext H H' → k (jau w s) H') : CallT Pg jfB [.pointer (some (adr b)), .string ⟨⟨w⟩⟩] (.one (.c .bool)) H k := by
 refine cQab _ _ ?_
 unfold vQab
 simp only [adr_add, NilCk_some]
 obtain ⟨sl, h1, h2⟩ := h.rd
 refine jam h1 (h2 fun a ha => jbk ha (jcz rfl fun b1 H4 _ hE4 hr4 => ?_))
 refine Jn.mk (fun j H' => H4 = H' ∧ j = jau w s) (fun kk hkk => ?_) (by rintro j _ ⟨rfl, rfl⟩; exact hk _ hE4)
 refine jap ((hr4.cell 1).trans rfl) ?_
 have ek : ∀ n : Nat, ((s.hd.kind : Nat) : Int) = n ↔ s.hd.kind = n := fun n => by omega
 rw [ja3]
 refine jaj (fun e => jaf ((hr4.cell 0).trans rfl) (Br.mk (fun e1 => hkk _ _ ⟨rfl, ?_⟩) fun e1 => jaf ((hr4.cell 0).trans rfl) (hkk _ _ ⟨rfl, ?_⟩))) fun e => hkk _ _ ⟨rfl, ?_⟩
 ·have e : s.hd.text = w := e
  have := (ek 1).1 (beqI e1)
  unfold jau; rw [e, this]; simp
 ·have e : s.hd.text = w := e
  have e1 := bneI e1
  unfold jau
  rw [e, beq_self_eq_true, Bool.true_and]
  have h1 : (s.hd.kind == 1) = false := beq_eq_false_iff_ne.2 fun g => e1 ((ek 1).2 g)
  rw [h1, Bool.false_or, Bool.eq_iff_iff, beq_iff_eq, beq_iff_eq]
  exact ek 3
 ·have e : ¬ s.hd.text = w := e
  unfold jau
  rw [beq_eq_false_iff_ne.2 e]; rfl
theorem PR.tlt {b tb : Nat} {s : PS} (h : PR H b tb s) : tb < H.size ∧ b ≠ tb := by
 obtain ⟨sl, h1, h2, h3⟩ := h.row
 obtain ⟨e, _⟩ := h.hd
 rw [e] at h2
 obtain ⟨a, ha, hc⟩ := h2.cell (j := 0) (by simp [jcb])
 have e1 := h3 a ha
 refine ⟨?_, fun e2 => h2.ne ha h1 (by decide) (e1.trans e2.symm)⟩
 rcases h2.own with ⟨y1, _⟩ | ⟨c, pre, sp, y1, y2, _⟩
 ·rw [y1] at ha; cases ha
 ·rw [y1] at ha; cases ha; rw [← e1]; exact y2.lt
theorem PR.young {H' : jaa} {b tb b1 : Nat} {s : PS} (h : PR H b tb s) (hU : Upd (· = b1) H H') (h1 : b < b1) (h2 : tb < b1) : PR H' b tb s := h.upd hU (by omega) (by omega) (by omega)
theorem PR.poke {b tb : Nat} {s : PS} (h : PR H b tb s) {i : Nat} {v : Value} {s' : PS} (ht : s'.toks = s.toks) (hv : ∀ sl : Sl, [slV sl, .int .i64 s.deep, .int .i64 s.stmts].set i v = [slV sl, .int .i64 s'.deep, .int .i64 s'.stmts]) (hi : i < 3) (hd : 0 ≤ s'.deep ∧ s'.deep ≤ 20) (hs : 0 ≤ s'.stmts ∧ s'.stmts ≤ 200)
 {k : jaa → Prop} (hk : ∀ H', Upd (· = b) H H' → PR H' b tb s' → k H') : St ⟨b, i, none⟩ v H k := by
 obtain ⟨sl, h1, h2, h3⟩ := h.row
 have hbt := h.tlt.2
 refine jay h1 (by simpa using hi) fun H1 hU _ hr => hk H1 hU ?_
 rw [hv] at hr
 refine ⟨⟨sl, hr, ?_, h3⟩, h.tab.nb hU fun e => h.b0 e.symm, h.b0, by rw [ht]; exact h.ts, hd, hs⟩
 rw [ht]
 exact h2.upd hU fun a ha e => hbt (by rw [← h3 a ha]; exact e.symm)
theorem jbh {b tb : Nat} {s : PS} (h : PR H b tb s) (h0 : s.hd.kind ≠ 0) {k : Int × ByteArray × Int → jaa → Prop} (hk : ∀ H', Upd (· = b) H H' → PR H' b tb s.take → k (jhK s.hd) H') : CallT Pg jfo [.pointer (some (adr b))] TokR H k := by
 refine cQac _ ?_
 unfold vQac
 simp only [adr_add, NilCk_some]
 refine jaq (vs := [.int .i64 0, .string ByteArray.empty, .int .i64 0]) fun b1 H1 hb1 hE1 _ hr1 => ?_
 have h1 := h.ext hE1
 obtain ⟨sl, g1, g2⟩ := h1.rd
 refine jam g1 (g2 fun a ha => jbk ha (jcz rfl fun b2 H5 hb2 hE5 hr5 => ?_))
 have h5 := h1.ext hE5
 have r1 := hE5.row hr1 fun h => h
 obtain ⟨e, _, hok⟩ := h5.hd
 have htl := h.tlt
 obtain ⟨sl5, k1, k2, k3⟩ := h5.row
 rw [e] at k2
 have hs1 := hE1.size
 have hs5 := hE5.size
 have hlb := h.lt
 refine jam ((k1.cell 0).trans rfl) (SlA_pop (v := jgZ s.hd) (ws := jcb s.take.toks) k2 rfl (by decide) fun s' g3 g4 g5 => ?_)
 refine jay k1 (by simp) fun H6 hU6 _ hr6 => ?_
 have k4 : ∀ a, s'.a = some a → a.block = tb := fun a' ha' => by
  obtain ⟨a0, q1, q2⟩ := g4 a' ha'
  exact q2.symm.trans (k3 a0 q1)
 have p6 : PR H6 b tb s.take := ⟨⟨s', hr6, g3.upd hU6 fun a' ha' e' => htl.2 (by rw [← k4 a' ha']; exact e'.symm), k4⟩, h5.tab.nb hU6 fun e => h.b0 e.symm, h.b0, hok h0, h.dp, h.st⟩
 have q2 := hU6.row hr5 (by omega)
 have q1 := hU6.row r1 (by omega)
 refine jbk q2.rd_all ?_
 refine jay q1 (by simp) fun H7 hU7 _ hr7 => jay hr7 (by simp) fun H8 hU8 _ hr8 => jay hr8 (by simp) fun H9 hU9 _ hr9 => ?_
 have hr9 : Row H9 b1 jbP (jgZ s.hd) := hr9
 have hU79 := (hU7.trans hU8 fun _ _ e => e).trans hU9 fun _ _ e => e
 exact jbk hr9.rd_all (hk H9 ((((hE1.trans hE5 fun _ _ h => h).mono fun _ _ h => h.elim).trans hU6 fun _ _ e => e).trans hU79 fun c hc e => by omega) (p6.young hU79 (by omega) (by omega)))
structure EP (b : Nat) (H : jaa) {α : Type} (res : R α) (kp : Value → jaa → Prop) : Prop where
 ne : res ≠ none
 er : ∀ g H' p e, res = some (.error (p, e)) → Upd (· = b) H H' → Row H' g jkH [.int .i64 p, .int .i64 e] → H.size ≤ g → kp (.iface jkO (.pointer (some (adr g)))) H'
theorem EP.bad {b : Nat} {α β : Type} {A : R α} {F : α → PS → R β} {kp : Value → jaa → Prop} (h : EP b H (A.bind F) kp) : EP b H A kp :=
 ⟨fun e => h.ne (by rw [e]; rfl), fun g H' p e hA => h.er g H' p e (by rw [hA]; rfl)⟩
theorem EP.next {b : Nat} {α β : Type} {A : R α} {F : α → PS → R β} {kp : Value → jaa → Prop} (h : EP b H (A.bind F) kp) {a : α} {s : PS} (ha : A = some (.ok (a, s))) {H1 : jaa} (hU : Upd (· = b) H H1) : EP b H1 (F a s) kp := by
 rw [ha] at h
 exact ⟨h.ne, fun g H' p e hA hU' hr hg => h.er g H' p e hA (hU.trans hU' fun _ _ e => e) hr (Nat.le_trans hU.size hg)⟩
theorem EP.mv {b : Nat} {α : Type} {A : R α} {kp : Value → jaa → Prop} (h : EP b H A kp) {H1 : jaa} (hU : Upd (· = b) H H1) : EP b H1 A kp :=
 ⟨h.ne, fun g H' p e hA hU' hr hg => h.er g H' p e hA (hU.trans hU' fun _ _ e => e) hr (Nat.le_trans hU.size hg)⟩
theorem EP.to {b : Nat} {α : Type} {A A' : R α} {kp : Value → jaa → Prop} (h : EP b H A kp) (e : A = A') : EP b H A' kp := e ▸ h
abbrev ExU {b : Nat} {H1 : jaa} (h : Ext H H1) : Upd (· = b) H H1 := h.mono fun _ _ h => h.elim
def Wk {α : Type} (f : FuncId) (args : List Value) (r : RTy) (b tb : Nat) (H : jaa) (res : R α) (Rel : α → r.den → jaa → Prop) : Prop :=
 ∀ (kp : Value → jaa → Prop) (k : r.den → jaa → Prop), EP b H res kp → (∀ d H' a s', res = some (.ok (a, s')) → Upd (· = b) H H' → PR H' b tb s' → Rel a d H' → k d H') → CallE Pg f args r H kp k
theorem Wk.step {α β : Type} {f : FuncId} {args : List Value} {r : RTy} {b tb : Nat} {A : R α} {Rel : α → r.den → jaa → Prop} (w : Wk f args r b tb H A Rel) {F : α → PS → R β} {kp : Value → jaa → Prop} (he : EP b H (A.bind F) kp) {k : r.den → jaa → Prop}
 (hk : ∀ d H' a s', A = some (.ok (a, s')) → Upd (· = b) H H' → PR H' b tb s' → Rel a d H' → EP b H' (F a s') kp → k d H') : CallE Pg f args r H kp k :=
 w kp k he.bad fun d H' a s' ha hU hR hrel => hk d H' a s' ha hU hR hrel (he.next ha hU)
theorem jcE {b tb : Nat} {s : PS} (h : PR H b tb s) {e : Int} {α : Type} {kp : Value → jaa → Prop} (he : EP b H (jeJ (α := α) e s) kp) {k : Unit → jaa → Prop} : CallE Pg jk4 [.pointer (some (adr b)), .int .i64 e] (.tup []) H kp k := by
 refine cQaa _ _ ?_
 unfold vQaa
 simp only [NilCk_some]
 obtain ⟨sl, h1, h2⟩ := h.rd
 refine jam h1 (h2 fun a ha => jaf (jdQ ha).2.2 ?_)
 exact jaq (vs := [.int .i64 (s.hd.at' : Nat), .int .i64 e]) fun b1 H1 hb1 hE1 _ hr1 => he.er _ _ _ _ rfl (ExU hE1) hr1 (by omega)
theorem jbn {w : Txt} {s : PS} (h : jau w s = true) : s.hd.kind ≠ 0 := by
 unfold jau at h
 simp only [Bool.and_eq_true, Bool.or_eq_true, beq_iff_eq] at h
 omega
theorem jgF {s : PS} (h : jbf s = true) : s.hd.kind ≠ 0 := by
 unfold jbf at h
 simp only [Bool.and_eq_true, beq_iff_eq] at h
 omega
theorem jjh {b1 : Nat} {v : Int × ByteArray × Int} {t : Tk} (hv : v = jhK t) (hr : Row H b1 jbP [.int .i64 0, .string ByteArray.empty, .int .i64 0]) {k : Int × ByteArray × Int → jaa → Prop} (hk : ∀ H', Upd (· = b1) H H' → k (jhK t) H') :
 St ⟨b1, 0, none⟩ (.int .i64 v.1) H fun H6 => St ⟨b1, 1, none⟩ (.string v.2.1) H6 fun H7 => St ⟨b1, 2, none⟩ (.int .i64 v.2.2) H7 fun H8 => LdC [(.int .i64), .str, (.int .i64)] (adr b1) H8 fun c1 => k (c1.1, c1.2.1, c1.2.2) H8 := by
 subst hv
 refine jay hr (by simp) fun H2 hU2 _ hr2 => jay hr2 (by simp) fun H3 hU3 _ hr3 => jay hr3 (by simp) fun H4 hU4 _ hr4 => ?_
 have hr4 : Row H4 b1 jbP (jgZ t) := hr4
 exact jbk hr4.rd_all (hk H4 ((hU2.trans hU3 fun _ _ e => e).trans hU4 fun _ _ e => e))
theorem jce {b tb : Nat} {s : PS} (h : PR H b tb s) (w : Txt) : Wk jje [.pointer (some (adr b)), .string ⟨⟨w⟩⟩] TokR b tb H (jbY w s) fun t d _ => d = jhK t := by
 intro kp k he hk
 refine cQad _ _ ?_
 unfold vQad
 simp only [adr_add]
 refine jaq (vs := [.int .i64 0, .string ByteArray.empty, .int .i64 0]) fun b1 H1 hb1 hE1 _ hr1 => jbm (h.ext hE1) fun H2 hE2 => ?_
 have hE12 := hE1.trans hE2 fun _ _ h => h
 have htl := h.tlt
 have hlb := h.lt
 unfold jbY at he hk
 refine Jn.mk (fun _ H' => H2 = H' ∧ jau w s = true) (fun kk hkk => ?_) ?_
 ·cases hn : jau w s with
  | false => rw [hn] at he; exact jcE (h.ext hE12) (he.mv (ExU hE12))
  | true => exact hkk _ _ ⟨rfl, hn⟩
 rintro _ _ ⟨rfl, hn⟩
 rw [hn] at hk
 refine jbh (h.ext hE12) (jbn hn) fun H3 hU3 h3 => jjh rfl (hU3.row (hE2.row hr1 fun h => h) (by omega)) fun H4 hU4 => ?_
 exact hk _ H4 s.hd s.take rfl (((ExU hE12).trans hU3 fun _ _ e => e).trans hU4 fun c hc e => by omega) (h3.young hU4 (by omega) (by omega)) rfl
theorem jjo {b tb : Nat} {s : PS} (h : PR H b tb s) (w : Txt) {k : Bool → jaa → Prop} (hk : ∀ H', Upd (· = b) H H' → PR H' b tb (if jau w s then s.take else s) → k (jau w s) H') : CallT Pg jmY [.pointer (some (adr b)), .string ⟨⟨w⟩⟩] (.one (.c .bool)) H k := by
 refine cQae _ _ ?_
 unfold vQae
 refine jbm h fun H1 hE1 => Br.mk (fun hn => ?_) fun hn => ?_
 ·rw [hn] at hk
  exact jbh (h.ext hE1) (jbn hn) fun H2 hU2 h2 => hk H2 ((ExU hE1).trans hU2 fun _ _ e => e) h2
 ·rw [hn] at hk
  exact hk H1 (ExU hE1) (h.ext hE1)
theorem jg6 {b tb : Nat} {s : PS} (h : PR H b tb s) {k : Bool → jaa → Prop} (hk : ∀ H', Ext H H' → k (jbf s) H') : CallT Pg fQap [.pointer (some (adr b))] (.one (.c .bool)) H k := by
 refine cQaf _ ?_
 unfold vQaf
 simp only [NilCk_some]
 obtain ⟨sl, h1, h2⟩ := h.rd
 have hok := h.hd.2.1
 refine Jn.mk (fun j H' => Ext H H' ∧ j = jbf s) (fun kk hkk => ?_) (by rintro j H' ⟨hE, rfl⟩; exact hk _ hE)
 refine jam h1 (h2 fun a ha => jaf (jdQ ha).1 (Br.mk (fun e1 => jam h1 (h2 fun a ha => jap (jdQ ha).2.1 (jhs h.tab (by have := hok.len; omega) fun H2 hE2 => hkk _ _ ⟨hE2, ?_⟩))) fun e1 => hkk _ _ ⟨.refl _ _, ?_⟩))
 ·have e1 := beqI e1
  unfold jbf
  rw [show (s.hd.kind == 1) = true by rw [beq_iff_eq]; omega, Bool.true_and]
 ·have e1 := bneI e1
  unfold jbf
  rw [show (s.hd.kind == 1) = false by rw [beq_eq_false_iff_ne]; omega, Bool.false_and]
theorem jdS {b tb : Nat} {s : PS} (h : PR H b tb s) : Wk jkG [.pointer (some (adr b))] TokR b tb H (jcS s) fun t d _ => d = jhK t := by
 intro kp k he hk
 refine cQag _ ?_
 unfold vQag
 simp only [adr_add]
 refine jaq (vs := [.int .i64 0, .string ByteArray.empty, .int .i64 0]) fun b1 H1 hb1 hE1 _ hr1 => jg6 (h.ext hE1) fun H2 hE2 => ?_
 have hE12 := hE1.trans hE2 fun _ _ h => h
 have htl := h.tlt
 have hlb := h.lt
 unfold jcS at he hk
 refine Jn.mk (fun _ H' => H2 = H' ∧ jbf s = true) (fun kk hkk => ?_) ?_
 ·cases hn : jbf s with
  | false => rw [hn] at he; exact jcE (h.ext hE12) (he.mv (ExU hE12))
  | true => exact hkk _ _ ⟨rfl, hn⟩
 rintro _ _ ⟨rfl, hn⟩
 rw [hn] at hk
 refine jbh (h.ext hE12) (jgF hn) fun H3 hU3 h3 => jjh rfl (hU3.row (hE2.row hr1 fun h => h) (by omega)) fun H4 hU4 => ?_
 exact hk _ H4 s.hd s.take rfl (((ExU hE12).trans hU3 fun _ _ e => e).trans hU4 fun c hc e => by omega) (h3.young hU4 (by omega) (by omega)) rfl
theorem jgB {b tb : Nat} {s : PS} (h : PR H b tb s) (w : Txt) : Wk jmh [.pointer (some (adr b)), .string ⟨⟨w⟩⟩] TokR b tb H (jfm w s) fun t d _ => d = jhK t := by
 intro kp k he hk
 refine cQah _ _ ?_
 unfold vQah
 simp only [adr_add, NilCk_some]
 refine jaq (vs := [.int .i64 0, .string ByteArray.empty, .int .i64 0]) fun b1 H1 hb1 hE1 _ hr1 => jbm (h.ext hE1) fun H2 hE2 => ?_
 have hE12 := hE1.trans hE2 fun _ _ h => h
 have htl := h.tlt
 have hlb := h.lt
 have hdp := h.dp
 have h2 := h.ext hE12
 obtain ⟨sl, q1, _⟩ := h2.row
 unfold jfm at he hk
 refine Jn.mk (fun _ H' => H2 = H' ∧ jau w s = true) (fun kk hkk => ?_) ?_
 ·cases hn : jau w s with
  | false => rw [hn] at he; exact jcE h2 (he.mv (ExU hE12))
  | true => exact hkk _ _ ⟨rfl, hn⟩
 rintro _ _ ⟨rfl, hn⟩
 rw [hn, if_pos rfl] at hk he
 refine jaf ((q1.cell 1).trans rfl) (Jn.mk (fun _ H' => H2 = H' ∧ s.deep ≠ 20) (fun kk hkk => ?_) ?_)
 ·refine Br.mk (fun e => ?_) fun e => hkk _ _ ⟨rfl, bneI e⟩
  rw [if_pos (beqI e)] at he
  exact jcE h2 (he.mv (ExU hE12))
 rintro _ _ ⟨rfl, hd⟩
 rw [if_neg hd] at hk
 refine jaf ((q1.cell 1).trans rfl) (Lt.mk (u := s.deep + 1) (by rw [jac] <;> omega) (h2.poke (s' := { s with deep := s.deep + 1 }) rfl (fun _ => rfl) (by decide) ⟨by dsimp only; omega, by dsimp only; omega⟩ h.st fun H5 hU5 h5 => ?_))
 refine jbh h5 (jbn hn) fun H3 hU3 h3 => jjh rfl (hU3.row (hU5.row (hE2.row hr1 fun h => h) (by omega)) (by omega)) fun H4 hU4 => ?_
 exact hk _ H4 s.hd { s.take with deep := s.deep + 1 } rfl ((((ExU hE12).trans hU5 fun _ _ e => e).trans hU3 fun _ _ e => e).trans hU4 fun c hc e => by omega) (h3.young hU4 (by omega) (by omega)) rfl
theorem jeY {b tb : Nat} {s : PS} (h : PR H b tb s) (hd : 1 ≤ s.deep) {k : jaa → Prop} (hk : ∀ H', Upd (· = b) H H' → PR H' b tb s.up → k H') :
 Ld (.int .i64) ⟨b, 1, none⟩ H fun x1 => Lt (IntKind.wrap .i64 (x1 - 1)) fun t1 => St ⟨b, 1, none⟩ (.int .i64 t1) H k := by
 obtain ⟨sl, q1, _⟩ := h.row
 have hdp := h.dp
 exact jaf ((q1.cell 1).trans rfl) (Lt.mk (u := s.deep - 1) (by rw [jac] <;> omega) (h.poke (s' := s.up) rfl (fun _ => rfl) (by decide) ⟨by dsimp only [PS.up]; omega, by dsimp only [PS.up]; omega⟩ h.st hk))
theorem w_up {b tb : Nat} {s : PS} (h : PR H b tb s) (hd : 1 ≤ s.deep) (w : Txt) : Wk fQat [.pointer (some (adr b)), .string ⟨⟨w⟩⟩] (.tup []) b tb H (upP w s) fun _ _ _ => True := by
 intro kp k he hk
 refine cQai _ _ ?_
 unfold vQai
 simp only [adr_add, NilCk_some]
 refine (jce h w).step he fun d H1 t s1 ha hU1 h1 _ _ => ?_
 unfold upP at hk
 rw [ha] at hk
 have hd1 : s1.deep = s.deep := by
  unfold jbY at ha
  split at ha
  ·cases ha; rfl
  ·cases ha
 exact jeY h1 (by omega) fun H2 hU2 h2 => hk () H2 () s1.up rfl (hU1.trans hU2 fun _ _ e => e) h2 trivial
theorem jfJ {b tb : Nat} {s : PS} (h : PR H b tb s) (n most : Int) : Wk fQac [.pointer (some (adr b)), .int .i64 n, .int .i64 most] (.tup []) b tb H (jb8 n most s) fun _ _ H' => H' = H := by
 intro kp k he hk
 refine cQaj _ _ _ ?_
 unfold vQaj
 unfold jb8 at he hk
 refine Jn.mk (fun _ H' => H = H' ∧ n ≠ most) (fun kk hkk => Br.mk (fun e => ?_) fun e => hkk _ _ ⟨rfl, bneI e⟩) ?_
 ·rw [if_pos (beqI e)] at he
  exact jcE h he
 ·rintro _ _ ⟨rfl, e⟩
  rw [if_neg e] at hk
  exact hk () H () s rfl (.refl _ _) h rfl
abbrev Ow (lo : Nat) (H : jaa) (n : Nd) (q : Nat) : Prop := Syn.Own jdY jbd lo H n (some q)
abbrev OwL (lo : Nat) (H : jaa) (L : Sl) (ns : List Nd) : Prop := OwnL jdY jbd lo H L ns
abbrev OwT (lo : Nat) (H : jaa) (ns : List Nd) (qs : List (Option Nat)) : Prop := OwnT jdY jbd lo H ns qs
theorem jb4 {lo : Nat} {op : Int} {t : Tk} {L : Sl} {ns : List Nd} (hL : OwL lo H L ns) (hl : lo ≤ H.size) {k : Option Addr → jaa → Prop} (hk : ∀ H' q, Ext H H' → H.size ≤ q → Ow lo H' (node op t ns) q → k (some (adr q)) H') :
 CallT Pg jio [.int .i64 op, tokA t, .slice L.a L.len L.cap] (.one (.c .ptr)) H k := by
 refine cQa8 op (jhK t) L ?_
 unfold vQa8
 simp only [adr_add]
 refine jaq (vs := jgZ t) fun b1 H1 hb1 hE1 _ hr1 => jaf ((hr1.cell 2).trans rfl) ?_
 refine jaq (vs := ndV op [] 0 L (t.at' : Nat)) fun b2 H2 hb2 hE2 _ hr2 => hk H2 b2 (hE1.trans hE2 fun _ _ h => h) (by have := hE1.size; omega) ?_
 exact Own.node (hL.upd hE1 fun _ _ _ h => h) hE2 hb2 (by have := hE1.size; omega) hr2
theorem jaY {lo : Nat} {op : Int} {t : Tk} {L : Sl} {ns : List Nd} (hL : OwL lo H L ns) (hl : lo ≤ H.size) {k : Option Addr → jaa → Prop} (hk : ∀ H' q, Ext H H' → H.size ≤ q → Ow lo H' (ja4 op t ns) q → k (some (adr q)) H') :
 CallT Pg jhi [.int .i64 op, tokA t, .slice L.a L.len L.cap] (.one (.c .ptr)) H k := by
 refine cQa9 op (jhK t) L ?_
 unfold vQa9
 simp only [adr_add]
 refine jaq (vs := jgZ t) fun b1 H1 hb1 hE1 _ hr1 => jap ((hr1.cell 1).trans rfl) (jaf ((hr1.cell 2).trans rfl) ?_)
 refine jaq (vs := ndV op t.text 0 L (t.at' : Nat)) fun b2 H2 hb2 hE2 _ hr2 => hk H2 b2 (hE1.trans hE2 fun _ _ h => h) (by have := hE1.size; omega) ?_
 exact Own.node (hL.upd hE1 fun _ _ _ h => h) hE2 hb2 (by have := hE1.size; omega) hr2
theorem jc7 {w : Txt} {k : Int → jaa → Prop} (hk : k (jat w) H) : CallT Pg fQaw [.string ⟨⟨w⟩⟩] (.one (.c (.int .i64))) H k := by
 refine cQba _ ?_
 unfold vQba
 unfold jat at hk
 simp only [Jn, ja3]
 repeat' refine jaj (fun _ => ?_) fun _ => ?_
 all_goals simp_all [Br]
end
end Go.Proofs.YtfpmgpblhhcpgaaGreatDoor
namespace Go.Proofs.YtfpmgpblhhcpgaaGreatDoor.Hc.Syn
set_option maxRecDepth 100000
section
open Go Hc Hc.Lex
theorem jao {α β : Type} {A : R α} {F : α → PS → R β} {b : β} {s' : PS} (h : A.bind F = some (.ok (b, s'))) : ∃ a s, A = some (.ok (a, s)) ∧ F a s = some (.ok (b, s')) := by
 cases A with
 | none => cases h
 | some r => cases r with
   | error e => cases h
   | ok x => exact ⟨x.1, x.2, rfl, h⟩
theorem jaI {α : Type} {a b : α} {s s' : PS} (h : jbo a s = some (.ok (b, s'))) : b = a ∧ s' = s := by
 unfold jbo at h; simp at h; exact ⟨h.1.symm, h.2.symm⟩
theorem jdZ {w : Txt} {s s' : PS} {t : Tk} (h : jbY w s = some (.ok (t, s'))) : jau w s = true ∧ t = s.hd ∧ s' = s.take := by
 unfold jbY at h
 split at h
 ·rename_i e; exact ⟨e, jaI h⟩
 ·cases h
theorem jeV {s s' : PS} {t : Tk} (h : jcS s = some (.ok (t, s'))) : jbf s = true ∧ t = s.hd ∧ s' = s.take := by
 unfold jcS at h
 split at h
 ·rename_i e; exact ⟨e, jaI h⟩
 ·cases h
theorem jbH {w : Txt} {s s' : PS} {t : Tk} (h : jfm w s = some (.ok (t, s'))) : jau w s = true ∧ s.deep ≠ 20 ∧ t = s.hd ∧ s' = { s.take with deep := s.deep + 1 } := by
 unfold jfm at h
 split at h
 ·split at h
  ·cases h
  ·rename_i e1 e2; exact ⟨e1, e2, jaI h⟩
 ·cases h
theorem jkR {w : Txt} {s s' : PS} {u : Unit} (h : upP w s = some (.ok (u, s'))) : jau w s = true ∧ s' = s.take.up := by
 unfold upP at h
 obtain ⟨t, s1, h1, h2⟩ := jao h
 obtain ⟨e1, rfl, rfl⟩ := jdZ h1
 exact ⟨e1, (jaI h2).2⟩
theorem jdx {n m : Int} {s s' : PS} {u : Unit} (h : jb8 n m s = some (.ok (u, s'))) : n ≠ m ∧ s' = s := by
 unfold jb8 at h
 split at h
 ·cases h
 ·rename_i e; exact ⟨e, (jaI h).2⟩
abbrev Lv (s s' : PS) : Prop := s'.deep = s.deep ∧ s'.stmts = s.stmts
theorem Lv.tr {s s1 s2 : PS} (h : Lv s s1) (h2 : Lv s1 s2) : Lv s s2 := ⟨h2.1.trans h.1, h2.2.trans h.2⟩
structure ExLv (f : Nat) : Prop where
 ex : ∀ lv s n s', exP f lv s = some (.ok (n, s')) → Lv s s'
 un : ∀ w s n s', unP f w s = some (.ok (n, s')) → Lv s s'
 bin : ∀ lv m s n s', jiV f lv m s = some (.ok (n, s')) → Lv s s'
 prim : ∀ s n s', jey f s = some (.ok (n, s')) → Lv s s'
 args : ∀ s n s', je0 f s = some (.ok (n, s')) → Lv s s'
 argl : ∀ l s n s', jen f l s = some (.ok (n, s')) → Lv s s'
theorem jl4 : ∀ f, ExLv f
 | 0 => ⟨fun _ _ _ _ h => by simp [exP] at h, fun _ _ _ _ h => by simp [unP] at h, fun _ _ _ _ _ h => by simp [jiV] at h, fun _ _ _ h => by simp [jey] at h, fun _ _ _ h => by simp [je0] at h, fun _ _ _ _ h => by simp [jen] at h⟩
 | f + 1 => by
   have ih := jl4 f
   refine ⟨fun lv s n s' h => ?_, fun w s n s' h => ?_, fun lv m s n s' h => ?_, fun s n s' h => ?_, fun s n s' h => ?_, fun l s n s' h => ?_⟩
   ·unfold exP at h
    split at h
    ·obtain ⟨a, s1, h1, h⟩ := jao h
     have l1 := ih.ex _ _ _ _ h1
     split at h
     ·obtain ⟨t, s2, h2, h⟩ := jao h
      obtain ⟨_, _, rfl, rfl⟩ := jbH h2
      obtain ⟨y, s3, h3, h⟩ := jao h
      have l3 := ih.ex _ _ _ _ h3
      obtain ⟨u, s4, h4, h⟩ := jao h
      obtain ⟨_, rfl, rfl⟩ := jdZ h4
      obtain ⟨z, s5, h5, h⟩ := jao h
      have l5 := ih.ex _ _ _ _ h5
      obtain ⟨_, rfl⟩ := jaI h
      have e : s5.deep = s1.deep + 1 := l5.1.trans l3.1
      exact ⟨by show s5.deep - 1 = _; rw [e, l1.1]; omega, l5.2.trans (l3.2.trans l1.2)⟩
     ·obtain ⟨_, rfl⟩ := jaI h; exact l1
    ·split at h
     ·split at h
      ·exact ih.un _ _ _ _ h
      ·split at h
       ·exact ih.un _ _ _ _ h
       ·exact ih.prim _ _ _ h
     ·obtain ⟨a, s1, h1, h⟩ := jao h
      exact (ih.ex _ _ _ _ h1).tr (ih.bin _ _ _ _ _ h)
   ·unfold unP at h
    obtain ⟨t, s2, h2, h⟩ := jao h
    obtain ⟨_, _, rfl, rfl⟩ := jbH h2
    obtain ⟨y, s3, h3, h⟩ := jao h
    have l3 := ih.ex _ _ _ _ h3
    obtain ⟨_, rfl⟩ := jaI h
    have e : s3.deep = s.deep + 1 := l3.1
    exact ⟨by show s3.deep - 1 = _; rw [e]; omega, l3.2⟩
   ·unfold jiV at h
    split at h
    ·obtain ⟨a, s1, h1, h⟩ := jao h
     have l1 := ih.ex _ _ _ _ h1
     have l1 : Lv s s1 := l1
     exact l1.tr (ih.bin _ _ _ _ _ h)
    ·obtain ⟨_, rfl⟩ := jaI h; exact ⟨rfl, rfl⟩
   ·unfold jey at h
    split at h
    ·obtain ⟨_, rfl⟩ := jaI h; exact ⟨rfl, rfl⟩
    split at h
    ·obtain ⟨t, s2, h2, h⟩ := jao h
     obtain ⟨_, _, rfl, rfl⟩ := jbH h2
     obtain ⟨y, s3, h3, h⟩ := jao h
     have l3 := ih.ex _ _ _ _ h3
     obtain ⟨u, s4, h4, h⟩ := jao h
     obtain ⟨_, rfl⟩ := jkR h4
     obtain ⟨_, rfl⟩ := jaI h
     have e : s3.deep = s.deep + 1 := l3.1
     exact ⟨by show s3.deep - 1 = _; rw [e]; omega, l3.2⟩
    split at h
    ·obtain ⟨l, s1, h1, h⟩ := jao h
     obtain ⟨_, rfl⟩ := jaI h
     exact (ih.args _ _ _ h1 : Lv _ _)
    split at h
    ·obtain ⟨t, s1, h1, h⟩ := jao h
     obtain ⟨_, rfl, rfl⟩ := jdZ h1
     obtain ⟨t, s2, h2, h⟩ := jao h
     obtain ⟨_, rfl, rfl⟩ := jeV h2
     obtain ⟨t, s3, h3, h⟩ := jao h
     obtain ⟨_, rfl, rfl⟩ := jdZ h3
     obtain ⟨_, rfl⟩ := jaI h
     exact ⟨rfl, rfl⟩
    split at h
    ·obtain ⟨_, rfl⟩ := jaI h; exact ⟨rfl, rfl⟩
    ·obtain ⟨t, s1, h1, h⟩ := jao h
     obtain ⟨_, rfl, rfl⟩ := jeV h1
     split at h
     ·obtain ⟨l, s2, h2, h⟩ := jao h
      obtain ⟨_, rfl⟩ := jaI h
      exact (ih.args _ _ _ h2 : Lv _ _)
     split at h
     ·obtain ⟨l, s2, h2, h⟩ := jao h
      obtain ⟨_, rfl, rfl⟩ := jeV h2
      obtain ⟨_, rfl⟩ := jaI h
      exact ⟨rfl, rfl⟩
     ·obtain ⟨_, rfl⟩ := jaI h; exact ⟨rfl, rfl⟩
   ·unfold je0 at h
    obtain ⟨t, s2, h2, h⟩ := jao h
    obtain ⟨_, _, rfl, rfl⟩ := jbH h2
    obtain ⟨l, s3, h3, h⟩ := jao h
    obtain ⟨u, s4, h4, h⟩ := jao h
    obtain ⟨_, rfl⟩ := jkR h4
    obtain ⟨_, rfl⟩ := jaI h
    have l3 : s3.deep = s.deep + 1 ∧ s3.stmts = s.stmts := by
     split at h3
     ·obtain ⟨_, rfl⟩ := jaI h3; exact ⟨rfl, rfl⟩
     ·obtain ⟨y, s5, h5, h6⟩ := jao h3
      exact (ih.ex _ _ _ _ h5).tr (ih.argl _ _ _ _ h6)
    exact ⟨by show s3.deep - 1 = _; rw [l3.1]; omega, l3.2⟩
   ·unfold jen at h
    split at h
    ·obtain ⟨y, s5, h5, h6⟩ := jao h
     have l1 := ih.ex _ _ _ _ h5
     have l1 : Lv s s5 := l1
     exact l1.tr (ih.argl _ _ _ _ h6)
    ·obtain ⟨_, rfl⟩ := jaI h; exact ⟨rfl, rfl⟩
end
end Go.Proofs.YtfpmgpblhhcpgaaGreatDoor.Hc.Syn
