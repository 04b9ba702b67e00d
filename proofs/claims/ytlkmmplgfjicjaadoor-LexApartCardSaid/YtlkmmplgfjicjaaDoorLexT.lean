/-
  LexReads: looks, and the law.
-/
import Derived.Test.YtlkmmplgfjicjaaDoorLexS
import Derived.Test.YtlkmmplgfjicjaaDoorHcLawB
namespace Go.Proofs.YtlkmmplgfjicjaaDoor
set_option linter.unusedVariables false
set_option linter.unusedSimpArgs false
open Go.Proofs.YtlkmmplgfjicjaaDoor.Hc Go.Proofs.YtlkmmplgfjicjaaDoor.Hc.Lex
set_option maxRecDepth 100000
variable {H : Heap}

abbrev markT (m : Int) : List Value := markV m
theorem hv_rn {kept : Sl} {holds : List Hold} (h : HV H kept holds) : RN holdV 2 H kept holds ∧ ∀ a, kept.a = some a → a.spot = none := ⟨VecN.rn (f := holdV) (n := 2) (fun _ => rfl) (by omega) h, h.spot⟩
instance : Inhabited Sl := ⟨⟨none, 0, 0⟩⟩
theorem IxA_hold {kept : Sl} {holds : List Hold} (h : HV H kept holds) {i : Int} {j : Nat} (hj : i = j) (hl : j < holds.length) {k : Addr → Prop} (hk : ∀ a, hcell H a = some (slV holds[j]!.1) → hcell H (a.add 1) = some (.int .i64 holds[j]!.2) → k a) : IxA 2 kept i k :=
  IxA_rn (f := holdV) (n := 2) (fun _ => rfl) (hv_rn h).1 (hv_rn h).2 (by omega) hj hl fun a ha => hk a ha.1 ha.2.1
theorem IxA_mark {h : Hold} (hr : HR H h) {i : Int} {j : Nat} (hj : i = j) (hl : j < h.1.len) {k : Addr → Prop} (hk : ∀ a, hcells H a 0 (markV h.2) → k a) : IxA 3 h.1 i k := by
  have hrn : RN markV 3 H h.1 (List.replicate h.1.len h.2) := VecN.rn (f := markV) (n := 3) (fun _ => rfl) (by omega) hr
  refine IxA_rn (f := markV) (n := 3) (fun _ => rfl) hrn hr.spot (by omega) hj (by simpa using hl) fun a ha => hk a ?_
  rw [getElem!_pos _ j (by simpa using hl), List.getElem_replicate] at ha
  exact ha
theorem s_looks {kept : Sl} {holds : List Hold} (hkv : HV H kept holds) (hn : holds.length ≤ 1000) (hall : ∀ h ∈ holds, HR H h ∧ h.1.len ≤ 9000) {k : Bool → Heap → Prop} (hk : k true H) :
    CallT Pg f_hindcastlaw09_looks [.slice kept.a kept.len kept.cap] (.one (.c .bool)) H k := by
  refine c_hindcastlaw09_looks _ ?_
  unfold v_hindcastlaw09_looks
  have hkl := hv_len hkv
  refine LoopT.mk (fun i H' => H = H' ∧ ∃ n : Nat, i = n ∧ n ≤ holds.length) (fun i _ => holds.length - i.toNat) ⟨rfl, 0, rfl, Nat.zero_le _⟩ ?_
  rintro next _ _ ⟨rfl, n, rfl, hn2⟩ hnext
  refine Br_dec (fun hlt => ?_) fun hge => hk
  have hlt' : n < holds.length := by omega
  obtain ⟨hr, hr2⟩ := hall holds[n]! (by rw [getElem!_pos holds n hlt']; exact List.getElem_mem hlt')
  refine LoopT.mk (fun i H' => H = H' ∧ ∃ j : Nat, i = j ∧ j ≤ holds[n]!.1.len) (fun i _ => holds[n]!.1.len - i.toNat) ⟨rfl, 0, rfl, Nat.zero_le _⟩ ?_
  rintro next2 _ _ ⟨rfl, j, rfl, hj⟩ hnext2
  refine IxA_hold hkv rfl hlt' fun a h1 h2 => Ld_sl (s := holds[n]!.1) h1 (Br_dec (fun hlt2 => ?_) fun hge2 => ?_)
  · have hj2 : j < holds[n]!.1.len := by omega
    refine IxA_hold hkv rfl hlt' fun a h1 h2 => Ld_sl (s := holds[n]!.1) h1 (IxA_mark hr rfl hj2 fun a3 h3 => ?_)
    refine ⟨(holds[n]!.2, ByteArray.empty, (0 : Int)), h3, IxA_hold hkv rfl hlt' fun a4 h4 h5 => Ld_int h5 (Br_not ?_)⟩
    have e : eqL [(.int .i64), .str, (.int .i64)] (holds[n]!.2, ByteArray.empty, (0 : Int)) (holds[n]!.2, ByteArray.empty, (0 : Int)) = true := by
      simp only [eqL, eqT, beq_self_eq_true, Bool.and_self]
    show Br (eqL [(.int .i64), .str, (.int .i64)] (holds[n]!.2, ByteArray.empty, (0 : Int)) (holds[n]!.2, ByteArray.empty, (0 : Int))) _ _
    rw [e, Br_true]
    exact Lt.mk (u := ((j + 1 : Nat) : Int)) (by rw [wrap_i64_id] <;> omega) (hnext2 _ _ ⟨rfl, j + 1, rfl, hj2⟩ (by omega))
  · exact Lt.mk (u := ((n + 1 : Nat) : Int)) (by rw [wrap_i64_id] <;> omega) (hnext _ _ ⟨rfl, n + 1, rfl, hlt'⟩ (by omega))
theorem hr_notin {h : Hold} (hr : HR H h) {b : Nat} (hb : h.1.a = some (adr b)) : ∃ ws, Row H b T_api_Token ws := by
  rcases hr.own with ⟨g1, _⟩ | ⟨c, sp, g1, g2, _⟩
  · rw [g1] at hb; cases hb
  · rw [g1] at hb; cases hb; exact ⟨_, g2⟩
/-- The keeper's own list, and what it holds. -/
structure Kept (lo : Nat) (H : Heap) (kept : Sl) (holds : List Hold) : Prop where
  hv : HV H kept holds
  hr : ∀ h ∈ holds, HR H h ∧ h.1.len ≤ 9000
  lk : ∀ b, kept.a = some (adr b) → lo ≤ b
theorem Kept.upd {lo : Nat} {M : Nat → Prop} {H' : Heap} {kept : Sl} {holds : List Hold} (hu : Upd M H H') (h : Kept lo H kept holds) (h1 : ∀ b ws, Row H b T_hindcastlaw09_hold ws → ¬ M b) (h2 : ∀ b ws, Row H b T_api_Token ws → ¬ M b) : Kept lo H' kept holds :=
  ⟨h.hv.upd hu fun b hb => by
    rcases h.hv.own with ⟨g1, _⟩ | ⟨c, sp, g1, g2, _⟩
    · rw [g1] at hb; cases hb
    · rw [g1] at hb; cases hb; exact h1 _ _ g2,
   fun x hx => ⟨(h.hr x hx).1.upd hu fun b hb => let ⟨ws, hw⟩ := hr_notin (h.hr x hx).1 hb; h2 b ws hw, (h.hr x hx).2⟩, h.lk⟩
theorem Kept.ext {lo : Nat} {H' : Heap} {kept : Sl} {holds : List Hold} (hu : Ext H H') (h : Kept lo H kept holds) : Kept lo H' kept holds := h.upd hu (fun _ _ _ h => h) fun _ _ _ h => h
theorem Kept.keep {lo : Nat} {kept l : Sl} {holds : List Hold} {vs : List Value} (h : Kept lo H kept holds) (hlo : lo ≤ H.size) (hn : holds.length ≤ 900) (hl : VecN H T_api_Token 3 l vs) (hll : l.len ≤ 8001) (hap : ∀ h ∈ holds, ∀ b, h.1.a = some (adr b) → l.a ≠ some (adr b)) {k : Sl → Heap → Prop}
    (hk : ∀ r H' holds', Kept lo H' r holds' → holds'.length ≤ holds.length + 4 → (∀ h ∈ holds', h ∈ holds ∨ ∀ b, h.1.a = some (adr b) → l.a = some (adr b) ∨ H.size ≤ b) → Upd (fun b => l.a = some (adr b) ∨ kept.a = some (adr b)) H H' → k r H') :
    CallT Pg f_hindcastlaw09_keep [.slice kept.a kept.len kept.cap, .slice l.a l.len l.cap] (.one (.c .sl)) H k := by
  refine s_keep h.hv hn hl hll (fun x hx => (h.hr x hx).1) hap fun r H' holds' h1 h2 h3 h4 h5 h6 => hk r H' holds' ⟨h1, fun x hx => ⟨h3 x hx, ?_⟩, fun b hb => ?_⟩ h2 (fun x hx => (h4 x hx).imp id fun h => h.2) h5
  · rcases h4 x hx with e | e
    · exact (h.hr x e).2
    · exact e.1
  rcases h6 with e | e
  · rw [e] at hb; exact h.lk b hb
  · have := e b hb; omega
theorem w_Reads {sl : Sl} {ss : List ByteArray} (hg : GE H.size H) (hss : RL Value.string H sl ss) : CallT Pg f_hindcastlaw09_LexReads [.slice sl.a sl.len sl.cap] (.one (.c .bool)) H fun b H' => b = true ∧ Ext H H' := by
  refine c_hindcastlaw09_LexReads _ ?_
  unfold v_hindcastlaw09_LexReads
  refine s_shown hg fun H1 hE1 => ?_
  have hlen := hss.len
  refine LoopT.mk (fun (st : Sl × Int) H2 => ∃ (n : Nat) (holds : List Hold), st.2 = n ∧ n ≤ 50 ∧ n ≤ ss.length ∧ Ext H H2 ∧ Kept H.size H2 st.1 holds ∧ holds.length ≤ 8 * n) (fun st _ => 50 - st.2.toNat)
    ⟨0, [], rfl, by omega, by omega, hE1, ⟨.nil _ _ _, (fun h hh => by cases hh), fun b hb => by cases hb⟩, by simp⟩ ?_
  rintro next ⟨kept, _⟩ H2 ⟨n, holds, rfl, hn, hns, hE2, hK, hhl⟩ hnext
  dsimp only at hK ⊢
  have z2 := hE2.size
  refine Jn.mk (fun j H' => H2 = H' ∧ j = decide (n < ss.length ∧ n < 50)) (fun kk hkk => ?_) ?_
  · refine Br_dec (fun h => hkk _ _ ⟨rfl, ?_⟩) fun h => hkk _ _ ⟨rfl, (decide_eq_false (by omega)).symm⟩
    exact decide_eq_decide.2 (by omega)
  rintro j _ ⟨rfl, rfl⟩
  refine Br_dec (fun hgo => ?_) fun hend => ⟨rfl, hE2⟩
  obtain ⟨hn1, hn2⟩ := hgo
  have ofNb : ∀ {Ha Hb : Heap} {M : Nat → Prop}, Ext H Ha → Upd M Ha Hb → (∀ b, b < H.size → ¬ M b) → Ext H Hb := fun h1 h2 h3 => h1.trans h2 fun b hb hm => (h3 b hb hm).elim
  -- the source is read
  have rd : ∀ {H' : Heap}, Ext H H' → ∀ {k : ByteArray → Prop}, k ss[n] → IxA 1 sl (n : Nat) fun a => Ld .str a H' k := by
    intro H' hE k hk
    exact IxA_rl (hss.ext hE) rfl hn1 fun a ha => Ld_str ha hk
  refine rd hE2 (s_Lex (hg.up hE2) fun r2 H4 hE4 ho2 => ?_)
  have hE4' := ofNb hE2 hE4 fun _ _ h => h
  have z4 := hE4.size
  obtain ⟨vs2', hv2', hl2', _⟩ := ho2.vec
  have lt2 : ∀ b, r2.1.a = some (adr b) → H2.size ≤ b ∧ b < H4.size := fun b hb => ⟨hl2' b hb, hv2'.lt hb⟩
  have ltf : ∀ f, r2.2 = .iface T_P_api_Fault (.pointer (some (adr f))) → H2.size ≤ f ∧ f < H4.size := by
    intro f hf
    cases hS : lexS ss[n] with
    | ok ts => obtain ⟨e2, _⟩ := ho2.ok hS; rw [e2] at hf; cases hf
    | error ae =>
      obtain ⟨_, f', e2, hf2, hrow⟩ := ho2.err (a := ae.1) (c := ae.2) hS
      rw [e2] at hf
      cases hf
      exact ⟨hf2, hrow.lt⟩
  refine rd hE4' (s_Lex (hg.up hE4') fun r3 H5 hE5 ho3 => ?_)
  have hE5' := ofNb hE4' hE5 fun _ _ h => h
  have z5 := hE5.size
  obtain ⟨vs3', hv3', hl3', _⟩ := ho3.vec
  have lt3 : ∀ b, r3.1.a = some (adr b) → H4.size ≤ b ∧ b < H5.size := fun b hb => ⟨hl3' b hb, hv3'.lt hb⟩
  have ho2 := ho2.upd hE5 fun _ _ h => h
  refine rd hE5' (s_same ho2 fun H6 hE6 => ?_)
  have hE6' := ofNb hE5' hE6 fun _ _ h => h
  have z6 := hE6.size
  have ho2 := ho2.upd hE6 fun _ _ h => h
  have ho3 := ho3.upd hE6 fun _ _ h => h
  show Br (!true) _ _
  rw [Bool.not_true, Br_false]
  have hK6 : Kept H.size H6 kept holds := ((hK.ext hE4).ext hE5).ext hE6
  obtain ⟨vs2, hv2, _, hb2⟩ := ho2.vec
  have klt : ∀ b, kept.a = some (adr b) → H.size ≤ b ∧ b < H2.size := fun b hb => ⟨hK.lk b hb, hK.hv.lt hb⟩
  refine hK6.keep (by omega) (by omega) hv2 hb2 (fun h hh b hb e => ?_) fun r5 H7 holds5 hK7 hc7 hn7 hU7 => ?_
  · have h1 := (hK.hr h hh).1.lt hb
    have h2 := lt2 b e
    omega
  have z7 := hU7.size
  have hE7' : Ext H H7 := ofNb hE6' hU7 fun b hb e => by
    rcases e with e | e
    · have := lt2 b e; omega
    · have := klt b e; omega
  have ho3 := ho3.upd hU7 fun b hb e => by
    rcases e with e | e
    · have := lt2 b e; omega
    · have := klt b e; omega
  -- the fault is its owner's
  have behind : ∀ H9, H7.size ≤ H9.size → Kept H.size H9 r5 holds5 → LexOut H4.size H9 ss[n] r3.1 r3.2 → Ext H H9 →
      IxA 1 sl (n : Nat) fun a6 =>
          Ld .str a6 H9 fun (x5 : ByteArray) =>
          CallT Pg f_hindcastlaw09_same [.slice r3.1.a r3.1.len r3.1.cap, r3.2, .string x5] (.one (.c .bool)) H9 fun (r6 : Bool) H12 =>
          Br (!r6) (
            (fun b H' => b = true ∧ Ext H H') false H12) (
            CallT Pg f_hindcastlaw09_keep [.slice r5.a r5.len r5.cap, .slice r3.1.a r3.1.len r3.1.cap] (.one (.c .sl)) H12 fun (r7 : Sl) H13 =>
            CallT Pg f_hindcastlaw09_looks [.slice r7.a r7.len r7.cap] (.one (.c .bool)) H13 fun (r8 : Bool) H14 =>
            Br (!r8) (
              (fun b H' => b = true ∧ Ext H H') false H14) (
              Lt (IntKind.wrap .i64 ((n : Nat) + 1)) fun t1 =>
              next (r7, t1) H14)) := by
    intro H9 z9 hK9 ho3 hE9
    refine rd hE9 (s_same ho3 fun H12 hE12 => ?_)
    have z12 := hE12.size
    have ho3 := ho3.upd hE12 fun _ _ h => h
    obtain ⟨vs3, hv3, _, hb3⟩ := ho3.vec
    rw [Bool.not_true, Br_false]
    refine (hK9.ext hE12).keep (by omega) (by omega) hv3 hb3 (fun h hh b hb e => ?_) fun r7 H13 holds7 hK13 hc13 hn13 hU13 => ?_
    · have h3 := lt3 b e
      rcases hn7 h hh with h1 | h1
      · have h1 := (hK.hr h h1).1.lt hb; omega
      · rcases h1 b hb with h1 | h1
        · have := lt2 b h1; omega
        · omega
    refine s_looks hK13.hv (by omega) hK13.hr ?_
    rw [Bool.not_true, Br_false]
    refine Lt.mk (u := ((n + 1 : Nat) : Int)) (by rw [wrap_i64_id] <;> omega) (hnext _ _ ⟨n + 1, holds7, rfl, by omega, by omega, ?_, hK13, by omega⟩ (by dsimp only; omega))
    refine ofNb (ofNb hE9 hE12 fun _ _ h => h) hU13 fun b hb e => ?_
    rcases e with e | e
    · have := lt3 b e; omega
    · have := hK9.lk b e; omega
  cases hS : lexS ss[n] with
  | ok ts =>
    obtain ⟨e2, _⟩ := ho2.ok hS
    rw [e2]
    refine .inr ⟨.inl rfl, ?_⟩
    refine Jn.mk (fun j H' => H7 = H' ∧ j = false) (fun kk hkk => hkk _ _ ⟨rfl, rfl⟩) ?_
    rintro j _ ⟨rfl, rfl⟩
    refine Jn_in ?_
    rw [Br_false]
    exact behind H7 (Nat.le_refl _) hK7 ho3 hE7'
  | error ae =>
    obtain ⟨a, e⟩ := ae
    obtain ⟨_, f, e2, hf, hrow⟩ := ho2.err hS
    rw [e2]
    have hrow7 := hU7.row hrow fun e => by
      rcases e with e | e
      · exact vecN_ne hv2 hrow (by decide) e
      · exact vecN_ne hK6.hv hrow (by decide) e
    have hf4 : f < H6.size := hrow.lt
    refine .inl ⟨some (adr f), rfl, ?_⟩
    refine Jn.mk (fun j H' => H7 = H' ∧ j = true) (fun kk hkk => hkk _ _ ⟨rfl, rfl⟩) ?_
    rintro j _ ⟨rfl, rfl⟩
    refine Jn_in ?_
    rw [Br_true]
    simp only [NilCk_some, adr_add]
    refine St_row hrow7 (by simp) fun H10 hU10 _ hr10 => St_row hr10 (by simp) fun H11 hU11 _ hr11 => ?_
    have hU := hU10.trans hU11 fun _ _ h => h
    have z11 := hU.size
    refine behind H11 z11 (hK7.upd hU (fun b ws hw e => hw.ne hrow7 (by decide) e) fun b ws hw e => hw.ne hrow7 (by decide) e) (ho3.upd hU fun b hb e => by have := ltf f e2; omega) (ofNb hE7' hU fun b hb e => by have := ltf f e2; omega)
end Go.Proofs.YtlkmmplgfjicjaaDoor
