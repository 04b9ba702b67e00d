/-
  LexApart.
-/
import Derived.Test.YtlkmmplgfjicjaaDoorLexT
import Derived.Test.YtlkmmplgfjicjaaDoorHcLexApart
namespace Go.Proofs.YtlkmmplgfjicjaaDoor
set_option linter.unusedVariables false
set_option linter.unusedSimpArgs false
open Go.Proofs.YtlkmmplgfjicjaaDoor.Hc Go.Proofs.YtlkmmplgfjicjaaDoor.Hc.Lex
set_option maxRecDepth 100000
variable {H : Heap}

theorem StrCat_bs' {a b : ByteArray} {k : ByteArray → Prop} (h : a.size + b.size ≤ 1000000000000) (hk : k ⟨⟨bs a ++ bs b⟩⟩) : StrCat a b k := by
  refine ⟨by omega, ?_⟩
  have : a ++ b = ⟨⟨bs a ++ bs b⟩⟩ := bs_inj (by simp [bs])
  rw [this]; exact hk
def absI (x : Int) : Nat := if x < 0 then (-(x + 1)).toNat else x.toNat
def gapN (xs : List Int) (i : Nat) : Nat := if xs = [] then 0 else absI xs[i % xs.length]!
def gapM (xs : List Int) (i : Nat) : Nat := gapN xs i % 5
theorem gapB_le (k : Nat) : (gapB k).length ≤ 8 := by unfold gapB; split <;> simp
abbrev gapsV : List Value := [.string ⟨⟨gapB 0⟩⟩, .string ⟨⟨gapB 1⟩⟩, .string ⟨⟨gapB 2⟩⟩, .string ⟨⟨gapB 3⟩⟩, .string ⟨⟨gapB 4⟩⟩]
theorem gaps_at {k : Nat} (h : k < 5) : gapsV[k]? = some (.string ⟨⟨gapB k⟩⟩) := by
  match k, h with
  | 0, _ => rfl
  | 1, _ => rfl
  | 2, _ => rfl
  | 3, _ => rfl
  | 4, _ => rfl
theorem w_Apart {s : ByteArray} {gl : Sl} {xs : List Int} (hg : GE H.size H) (hgl : RL (Value.int .i64) H gl xs) (hxs : ∀ x ∈ xs, I64 x) (hxl : xs.length < 9223372036854775807) :
    CallT Pg f_hindcastlaw09_LexApart [.string s, .slice gl.a gl.len gl.cap] (.one (.c .bool)) H fun b H' => b = true ∧ Ext H H' := by
  refine c_hindcastlaw09_LexApart _ _ ?_
  unfold v_hindcastlaw09_LexApart
  refine s_shown hg fun H1 hE1 => s_Lex (s := s) (hg.up hE1) fun r2 H2 hE2 ho2 => ?_
  have hE2' := hE1.trans hE2 fun _ _ h => h
  rw [Bool.not_true]
  cases hS : lexS s with
  | error ae =>
    obtain ⟨a, e⟩ := ae
    obtain ⟨e1, f, e2, _⟩ := ho2.err hS
    refine Jn.mk (fun j H' => H2 = H' ∧ j = false) (fun kk hkk => ?_) ?_
    · rw [Br_false, e1, e2]
      exact .inr ⟨⟨_, _, rfl⟩, hkk _ _ ⟨rfl, rfl⟩⟩
    rintro j _ ⟨rfl, rfl⟩
    rw [Br_false, e2]
    exact .inr ⟨⟨_, _, rfl⟩, rfl, hE2'⟩
  | ok ts =>
    obtain ⟨e2, hv2, _⟩ := ho2.ok hS
    have hlen2 := (RT.ofVec hv2).1.len
    have hts := lexS_len hS
    have hss : s.size ≤ 8000 := by
      unfold lexS at hS
      split at hS
      · cases hS
      · omega
    have hlex : lexL 0 (bs s) = .ok ts := by
      rw [lexS_small hss] at hS
      split at hS
      · cases hS; assumption
      · cases hS
    have hchain := chain_of _ _ _ _ (Nat.le_refl _) hlex
    have hpos : 0 < ts.length := List.length_pos_iff.2 (chain_ne hchain)
    refine Jn.mk (fun j H' => H2 = H' ∧ j = false) (fun kk hkk => ?_) ?_
    · rw [Br_false, e2, hlen2]
      refine .inl ⟨rfl, hkk _ _ ⟨rfl, ?_⟩⟩
      rw [decide_eq_true (by omega)]; rfl
    rintro j _ ⟨rfl, rfl⟩
    rw [Br_false, e2]
    refine .inl ⟨rfl, ?_⟩
    dsimp only
    rw [Bool.not_true, Br_false]
    refine Nw_row (vs := gapsV) fun b1 H4 hb1 hE4 hz4 hr4 => ?_
    have hE4' := hE2'.trans hE4 fun _ _ h => h
    have hv4 := hv2.ext hE4
    rw [hlen2]
    refine LoopT.mk (fun (st : ByteArray × Int × Int) H5 => ∃ i p : Nat, st.2.2 = i ∧ st.2.1 = p ∧ i ≤ ts.length ∧ p ≤ s.size ∧ Ext H4 H5 ∧ bs st.1 ++ asm (gapM xs) i (ts.drop i) = asm (gapM xs) 0 ts ∧ (i < ts.length → lexL p ((bs s).drop p) = .ok (ts.drop i)) ∧ st.1.size ≤ 9000 * i)
      (fun st _ => ts.length - st.2.2.toNat) ⟨0, 0, rfl, rfl, by omega, by omega, .refl _ _, rfl, fun _ => hlex, Nat.zero_le _⟩ ?_
    rintro next ⟨str, _, _⟩ H5 ⟨i, p, rfl, rfl, hi, hp, hE5, hasm, hrest, hssz⟩ hnext
    dsimp only at hasm hssz ⊢
    have hE5' := hE4'.trans hE5 fun _ _ h => h
    have hg5 := hg.up hE5'
    refine Br_dec (fun hlt => ?_) fun hge => ?_
    · have hlt' : i < ts.length := by omega
      have hT5 := RT.ofVec (hv4.ext hE5)
      have hdrop : ts.drop i = ts[i]! :: ts.drop (i + 1) := by rw [getElem!_pos ts i hlt']; exact List.drop_eq_getElem_cons hlt'
      have hr := hrest hlt'
      rw [hdrop] at hr hasm
      generalize ht : ts[i]! = t at hr hasm hdrop
      obtain ⟨g, hg0, hat, hgt, hle, htx, hk1, hk2, hnx⟩ := step_facts (by rw [bs_size]; exact hp) hr
      rw [bs_size] at hle
      have hlast : ts.drop (i + 1) = [] ↔ i = ts.length - 1 := by rw [List.drop_eq_nil_iff]; omega
      refine IxA_tok hT5 rfl hlt' fun a1 ha1 => ?_
      rw [ht] at ha1
      refine LdC_tok ha1 (Nw_row (vs := [.int .i64 0, .string ByteArray.empty, .int .i64 0]) fun b2 H6 hb2 hE6 hz6 hr6 => ?_)
      simp only [adr_add]
      refine St_row hr6 (by simp) fun H7 hU7 _ hr7 => St_row hr7 (by simp) fun H8 hU8 _ hr8 => St_row hr8 (by simp) fun H9 hU9 _ hr9 => ?_
      have hE9 : Ext H5 H9 := by
        have h1 : Upd (· = b2) H6 H9 := (hU7.trans hU8 fun _ _ h => h).trans hU9 fun _ _ h => h
        exact (hE6.mono (M := fun b => b = b2) fun _ _ h => h.elim).trans h1 (fun _ _ h => h) |>.mono fun b hb e => by omega
      have c0 : hcell H9 ⟨b2, 0, none⟩ = some (.int .i64 (t.kind : Nat)) := (hr9.cell 0).trans rfl
      have c1 : hcell H9 ⟨b2, 1, none⟩ = some (.string ⟨⟨t.text⟩⟩) := (hr9.cell 1).trans rfl
      have c2 : hcell H9 ⟨b2, 2, none⟩ = some (.int .i64 (t.at' : Nat)) := (hr9.cell 2).trans rfl
      have htsz : ((⟨⟨t.text⟩⟩ : ByteArray)).size = t.text.length := rfl
      have hend : IntKind.wrap .i64 ((t.at' : Nat) + ((t.text.length : Nat) : Int)) = ((t.at' + t.text.length : Nat) : Int) := by rw [wrap_i64_id] <;> omega
      refine Jn.mk (fun j H' => H9 = H' ∧ j = false) (fun kk hkk => ?_) ?_
      · refine Ld_int c2 (Br_no (by omega) (Ld_int c2 (Ld_str c1 ?_)))
        rw [htsz, hend]
        refine Br_no (by omega) (Ld_int c2 (Ld_int c2 (Ld_str c1 ?_)))
        rw [htsz, hend]
        refine Lt.mk rfl ?_
        refine StrS_bs (a := t.at') (b := t.at' + t.text.length) rfl rfl (Nat.le_add_right _ _) hle ?_
        show Ld .str ⟨b2, 1, none⟩ H9 _
        refine Ld_str c1 ?_
        rw [beq_bs, bs_mk, bs_mk, show t.at' + t.text.length - t.at' = t.text.length by omega, decide_eq_true htx, Bool.not_true, Br_false]
        refine Ld_int c0 (Lt.mk (u := ((ts.length - 1 : Nat) : Int)) (by rw [wrap_i64_id] <;> omega) ?_)
        have e3 : ((((t.kind : Nat) : Int) == 0) == (((i : Nat) : Int) == ((ts.length - 1 : Nat) : Int))) = true := by
          rw [beq_iff_eq, Bool.eq_iff_iff, beq_iff_eq, beq_iff_eq]
          constructor
          · intro h; have := hlast.1 (hk1.1 (by omega)); omega
          · intro h; have := hk1.2 (hlast.2 (by omega)); omega
        rw [e3, Bool.not_true, Br_false]
        refine Ld_str c1 (Ld_int c0 (hkk _ _ ⟨rfl, ?_⟩))
        rw [beq_bs]
        have e4 : (decide (bs ⟨⟨t.text⟩⟩ = bs ⟨#[]⟩) == (((t.kind : Nat) : Int) == 0)) = true := by
          rw [beq_iff_eq, Bool.eq_iff_iff, beq_iff_eq, decide_eq_true_eq]
          constructor
          · intro h; have := hk2.1 h; omega
          · intro h; exact hk2.2 (by omega)
        rw [e4]; rfl
      rintro j _ ⟨rfl, rfl⟩
      rw [Br_false]
      have hE9' := hE5'.trans hE9 fun _ _ h => h
      refine Ld_int c2 (StrS_bs rfl rfl (by omega) (by omega) ?_)
      rw [show t.at' - p = g.length by omega, hgt]
      refine s_Lex (s := ⟨⟨g⟩⟩) (hg5.up hE9) fun r3 H11 hE11 ho3 => ?_
      have hgsz : ((⟨⟨g⟩⟩ : ByteArray)).size ≤ 8000 := by
        show g.length ≤ 8000
        omega
      have x3 : lexS ⟨⟨g⟩⟩ = .ok [⟨0, [], g.length⟩] := by rw [lexS_small hgsz, bs_mk, hg0]
      obtain ⟨n3, v3, _⟩ := ho3.ok x3
      have hl3 : r3.1.len = 1 := (RT.ofVec v3).1.len
      have hE11' := hE9'.trans hE11 fun _ _ h => h
      refine Jn.mk (fun j H' => H11 = H' ∧ j = false) (fun kk hkk => ?_) ?_
      · rw [n3]
        refine .inl ⟨rfl, ?_⟩
        dsimp only
        rw [Bool.not_true, Br_false, hl3]
        exact hkk _ _ ⟨rfl, rfl⟩
      rintro j _ ⟨rfl, rfl⟩
      rw [Br_false]
      have k1 := hE11.cell c1 fun h => h
      have k2 := hE11.cell c2 fun h => h
      refine Ld_int k2 (Ld_str k1 ?_)
      rw [htsz, hend]
      refine Jn.mk (fun j H' => H11 = H' ∧ j = (gapN xs i : Nat)) (fun kk hkk => ?_) ?_
      · have hgll := hgl.len
        refine Br_dec (fun hgo => ?_) fun hno => hkk _ _ ⟨rfl, ?_⟩
        · have hxne : xs ≠ [] := by intro e; rw [e] at hgll; simp at hgll; omega
          have hxpos : 0 < xs.length := by omega
          have hmod : i % xs.length < xs.length := Nat.mod_lt _ hxpos
          refine ⟨by omega, ?_⟩
          rw [hgll, show Int.tmod ((i : Nat) : Int) ((xs.length : Nat) : Int) = ((i % xs.length : Nat) : Int) by rw [Int.tmod_eq_emod_of_nonneg (by omega)]; rfl]
          refine IxA_rl (hgl.ext hE11') rfl hmod fun a2 h2 => Ld_int h2 ?_
          have hx := hxs _ (List.getElem_mem hmod)
          unfold I64 at hx
          have hgn : gapN xs i = absI xs[i % xs.length] := by unfold gapN; rw [if_neg hxne, getElem!_pos xs _ hmod]
          refine Jn_in (Br_dec (fun hneg => ?_) fun hnn => hkk _ _ ⟨rfl, ?_⟩)
          · refine Lt.mk (u := xs[i % xs.length] + 1) (by rw [wrap_i64_id] <;> omega) (hkk _ _ ⟨rfl, ?_⟩)
            rw [hgn, wrap_i64_id (by omega) (by omega)]
            unfold absI; rw [if_pos hneg]; omega
          · rw [hgn]; unfold absI; rw [if_neg hnn]; omega
        · have : xs = [] := List.eq_nil_of_length_eq_zero (by omega)
          unfold gapN; rw [if_pos this]; rfl
      rintro j _ ⟨rfl, rfl⟩
      refine ⟨by decide, ?_⟩
      rw [show Int.tmod ((gapN xs i : Nat) : Int) 5 = ((gapM xs i : Nat) : Int) by rw [Int.tmod_eq_emod_of_nonneg (by omega)]; rfl]
      have hm5 : gapM xs i < 5 := Nat.mod_lt _ (by omega)
      refine IxA_adr (by omega) (by omega) ?_
      rw [Int.toNat_natCast, Nat.mul_one]
      have hr11 : Row H11 b1 T_string gapsV := ((hE5.row hr4 fun h => h) |> fun h => hE9.row h fun h => h) |> fun h => hE11.row h fun h => h
      refine Ld_str ((hr11.cell _).trans (gaps_at hm5)) ?_
      have hgl8 := gapB_le (gapM xs i)
      have hi8 : i ≤ 8001 := by omega
      have z1 : ((⟨⟨gapB (gapM xs i)⟩⟩ : ByteArray)).size = (gapB (gapM xs i)).length := rfl
      refine StrCat_bs' (by rw [z1]; omega) (Ld_str k1 ?_)
      have z2 : ((⟨⟨bs str ++ bs ⟨⟨gapB (gapM xs i)⟩⟩⟩⟩ : ByteArray)).size = str.size + (gapB (gapM xs i)).length := by
        show (bs str ++ gapB (gapM xs i)).length = _
        rw [List.length_append, bs_size]
      refine StrCat_bs' (by rw [z2, htsz]; omega) ?_
      refine Lt.mk (u := ((i + 1 : Nat) : Int)) (by rw [wrap_i64_id] <;> omega) (hnext _ _ ⟨i + 1, t.at' + t.text.length, rfl, rfl, by omega, by omega, (hE5.trans hE9 fun _ _ h => h).trans hE11 fun _ _ h => h, ?_, fun hlt2 => ?_, ?_⟩ (by dsimp only; omega))
      · rw [← hasm]
        show (bs str ++ gapB (gapM xs i)) ++ t.text ++ asm (gapM xs) (i + 1) (ts.drop (i + 1)) = bs str ++ (gapB (gapM xs i) ++ t.text ++ asm (gapM xs) (i + 1) (ts.drop (i + 1)))
        simp only [List.append_assoc]
      · exact hnx (by rw [Ne, hlast]; omega)
      · show ((bs str ++ gapB (gapM xs i)) ++ t.text).length ≤ _
        rw [List.length_append, List.length_append, bs_size]; omega
    · have hie : i = ts.length := by omega
      subst hie
      rw [List.drop_length, show asm (gapM xs) ts.length [] = [] from rfl, List.append_nil] at hasm
      refine Br_dec (fun hbig => ⟨rfl, hE5'⟩) fun hsm => ?_
      refine s_Lex (s := str) hg5 fun r4 H15 hE15 ho4 => ?_
      obtain ⟨ts', hl', hlen', hsame⟩ := asm_lex (gapM xs) hchain 0 0
      have x4 : lexS str = .ok ts' := by rw [lexS_small (by omega), hasm, hl']
      obtain ⟨n4, v4, _⟩ := ho4.ok x4
      have hT4 := RT.ofVec v4
      have hl4 := hT4.1.len
      have hT2 := RT.ofVec ((hv4.ext hE5).ext hE15)
      have hE15' := hE5'.trans hE15 fun _ _ h => h
      refine Jn.mk (fun j H' => H15 = H' ∧ j = false) (fun kk hkk => ?_) ?_
      · rw [n4]
        refine .inl ⟨rfl, ?_⟩
        dsimp only
        rw [Bool.not_true, Br_false, hl4, hlen']
        exact hkk _ _ ⟨rfl, by simp⟩
      rintro j _ ⟨rfl, rfl⟩
      rw [Br_false]
      refine LoopT.mk (fun q H' => H15 = H' ∧ ∃ n : Nat, q = n ∧ n ≤ ts.length) (fun q _ => ts.length - q.toNat) ⟨rfl, 0, rfl, Nat.zero_le _⟩ ?_
      rintro next2 _ _ ⟨rfl, n, rfl, hn⟩ hnext2
      refine Br_dec (fun hlt2 => ?_) fun hge2 => ⟨rfl, hE15'⟩
      have hn1 : n < ts'.length := by omega
      have hn2 : n < ts.length := by omega
      obtain ⟨q1, q2⟩ := hsame n hn1 hn2
      rw [← getElem!_pos ts' n hn1, ← getElem!_pos ts n hn2] at q1 q2
      refine Jn.mk (fun j H' => H15 = H' ∧ j = false) (fun kk hkk => ?_) ?_
      · refine IxA_tok hT4 rfl hn1 fun a4 h4 => Ld_int h4.1 (IxA_tok hT2 rfl hn2 fun a5 h5 => Ld_int h5.1 ?_)
        rw [q1, show ((((ts[n]!).kind : Nat) : Int) != ((ts[n]!).kind : Nat)) = false by simp, Br_false]
        refine IxA_tok hT4 rfl hn1 fun a6 h6 => Ld_str h6.2.1 (IxA_tok hT2 rfl hn2 fun a7 h7 => Ld_str h7.2.1 (hkk _ _ ⟨rfl, ?_⟩))
        rw [q2, beq_self_eq_true]; rfl
      rintro j _ ⟨rfl, rfl⟩
      rw [Br_false]
      exact Lt.mk (u := ((n + 1 : Nat) : Int)) (by rw [wrap_i64_id] <;> omega) (hnext2 _ _ ⟨rfl, n + 1, rfl, by omega⟩ (by omega))
end Go.Proofs.YtlkmmplgfjicjaaDoor
