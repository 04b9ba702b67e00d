/-
  LexNumbers.
-/
import Derived.Test.YtlkmmplgfjicjaaDoorLexG
import Derived.Test.YtlkmmplgfjicjaaDoorHcLexNum
namespace Go.Proofs.YtlkmmplgfjicjaaDoor
set_option linter.unusedVariables false
set_option linter.unusedSimpArgs false
open Go.Proofs.YtlkmmplgfjicjaaDoor.Hc Go.Proofs.YtlkmmplgfjicjaaDoor.Hc.Lex
set_option maxRecDepth 100000
variable {H : Heap}

theorem lexS_small {s : ByteArray} (h : s.size ≤ 8000) : lexS s = match lexL 0 (bs s) with
    | .ok l => .ok l
    | .error e => .error (e, 90) := by unfold lexS; rw [if_neg (by omega)]; rfl
theorem StrCat_bs {a b : ByteArray} {k : ByteArray → Prop} (h : a.size + b.size ≤ 8000) (hk : k ⟨⟨bs a ++ bs b⟩⟩) : StrCat a b k := by
  refine ⟨by omega, ?_⟩
  have : a ++ b = ⟨⟨bs a ++ bs b⟩⟩ := bs_inj (by simp [bs])
  rw [this]; exact hk
theorem LexOut.ok {lo : Nat} {s : ByteArray} {r : Sl} {v : Value} {ts : List Tk} (h : LexOut lo H s r v) (e : lexS s = .ok ts) : v = .nilIface ∧ VecN H T_api_Token 3 r (tokVs ts) ∧ ∀ c, r.a = some (adr c) → lo ≤ c := by
  unfold LexOut at h; rw [e] at h; exact h
theorem LexOut.err {lo : Nat} {s : ByteArray} {r : Sl} {v : Value} {a c : Nat} (h : LexOut lo H s r v) (e : lexS s = .error (a, c)) : r = ⟨none, 0, 0⟩ ∧ ∃ f, v = .iface T_P_api_Fault (.pointer (some (adr f))) ∧ lo ≤ f ∧ Row H f T_api_Fault [.int .i64 (a : Nat), .int .i64 (c : Nat)] := by
  unfold LexOut at h; rw [e] at h; exact h
theorem w_Numbers {x : Int} (hg : GE H.size H) (hx : I64 x) : CallT Pg f_hindcastlaw09_LexNumbers [.int .i64 x] (.one (.c .bool)) H fun b H' => b = true ∧ Ext H H' := by
  refine c_hindcastlaw09_LexNumbers _ ?_
  unfold v_hindcastlaw09_LexNumbers
  unfold I64 at hx
  refine s_shown hg fun H1 hE1 => ?_
  refine Jn.mk (fun j H' => H1 = H' ∧ ∃ n : Nat, j = n ∧ n ≤ 9223372036854775807) (fun kk hkk => ?_) ?_
  · refine Br_dec (fun h => Lt.mk (u := x + 1) (by rw [wrap_i64_id] <;> omega) (hkk _ _ ⟨rfl, (-(x + 1)).toNat, ?_, by omega⟩)) fun h => hkk _ _ ⟨rfl, x.toNat, by omega, by omega⟩
    rw [wrap_i64_id] <;> omega
  rintro j _ ⟨rfl, n, rfl, hn⟩
  refine LoopT.mk (fun (st : ByteArray × Int) H' => Ext H H' ∧ ∃ k : Nat, st.2 = k ∧ NumI n (bs st.1) k) (fun st _ => 2 * st.2.toNat + (if bs st.1 = [] then 1 else 0)) ⟨hE1, n, rfl, .init hn⟩ ?_
  rintro next ⟨str, _⟩ H3 ⟨hE3, k, rfl, hI⟩ hnext
  dsimp only at hI ⊢
  have hsz : str.size ≤ 19 := by rw [← bs_size]; exact hI.le
  refine Jn.mk (fun j H' => H3 = H' ∧ j = decide (0 < k ∨ bs str = [])) (fun kk hkk => ?_) ?_
  · refine Br_dec (fun h => hkk _ _ ⟨rfl, (decide_eq_true (.inl (by omega))).symm⟩) fun h => hkk _ _ ⟨rfl, ?_⟩
    rw [beq_bs]
    exact decide_eq_decide.2 ⟨fun h => .inr h, fun h => by rcases h with h | h; omega; exact h⟩
  rintro j _ ⟨rfl, rfl⟩
  refine Br_dec (fun hgo => ?_) fun hend => ?_
  · have hI2 := hI.step hgo
    have hkn : k ≤ 9223372036854775807 := by
      rcases Nat.eq_zero_or_pos k with e | e
      · omega
      · have h1 := hI.bd e
        have h2 := hI.mx
        have h3 : 1 ≤ 10 ^ (bs str).length := Nat.pos_of_ne_zero (by simp)
        have h4 : k ≤ 10 ^ (bs str).length * k := Nat.le_mul_of_pos_left k h3
        omega
    refine ⟨by decide, ?_⟩
    have em : Int.tmod (k : Int) 10 = ((k % 10 : Nat) : Int) := by rw [Int.tmod_eq_emod_of_nonneg (by omega)]; omega
    rw [em]
    refine Lt.mk (u := ((48 + k % 10 : Nat) : Int)) (by rw [wrap_i64_id] <;> omega) ?_
    have ew : IntKind.wrap .u8 ((48 + k % 10 : Nat) : Int) = ((UInt8.ofNat (48 + k % 10)).toNat : Int) := by rw [wrap_u8, UInt8.toNat_ofNat']; omega
    rw [ew]
    refine Nw_row (vs := u8s [UInt8.ofNat (48 + k % 10)]) fun b H4 _ hE4 _ hr => ?_
    refine B2S_rb (bs := [UInt8.ofNat (48 + k % 10)]) ⟨hr.rd_all, rfl, Nat.le_refl _⟩ ?_
    refine StrCat_bs (by show 1 + str.size ≤ 8000; omega) ⟨by decide, ?_⟩
    have ed : IntKind.wrap .i64 (Int.tdiv (k : Int) 10) = ((k / 10 : Nat) : Int) := by
      rw [Int.tdiv_eq_ediv_of_nonneg (by omega), wrap_i64_id (by omega) (by omega)]; omega
    rw [ed]
    refine hnext _ _ ⟨hE3.trans hE4 fun _ _ h => h, k / 10, rfl, hI2⟩ ?_
    dsimp only
    rw [if_neg (by rw [bs_mk]; simp)]
    rcases hgo with h | h
    · split <;> omega
    · rw [if_pos h]; omega
  · have hk0 : k = 0 := by omega
    subst hk0
    have hS := hI.fin (fun e => hend (.inr e))
    have hgE : GE H3.size H3 := hg.up hE3
    refine s_Lex hgE fun r2 H6 hE6 ho2 => ?_
    refine StrCat_bs (by show 1 + str.size ≤ 8000; omega) (s_Lex (hgE.up hE6) fun r3 H7 hE7 ho3 => ?_)
    refine StrCat_bs (by show str.size + 1 ≤ 8000; omega) (s_Lex ((hgE.up hE6).up hE7) fun r4 H8 hE8 ho4 => ?_)
    have z5 : ((⟨⟨bs ⟨#[49]⟩ ++ bs str⟩⟩ : ByteArray)).size = 1 + str.size := by
      show ([49] ++ bs str).length = _
      rw [List.length_append, bs_size]; rfl
    refine StrCat_bs (by show 1 + str.size ≤ 8000; omega) (StrCat_bs (by rw [z5]; show 1 + str.size + 18 ≤ 8000; omega) (s_Lex (((hgE.up hE6).up hE7).up hE8) fun r5 H9 hE9 ho5 => ?_))
    have x2 : lexS str = .ok [⟨2, bs str, 0⟩, ⟨0, [], (bs str).length⟩] := by rw [lexS_small (by omega), hS.lex]
    have x3 : lexS ⟨⟨bs ⟨#[48]⟩ ++ bs str⟩⟩ = .error (0, 90) := by
      rw [lexS_small (by show ([48] ++ bs str).length ≤ 8000; rw [List.length_append, bs_size]; show 1 + str.size ≤ 8000; omega), show bs ⟨⟨bs ⟨#[48]⟩ ++ bs str⟩⟩ = 48 :: bs str from rfl, hS.lex0]
    obtain ⟨e4, he4⟩ := hS.lexX
    have x4 : lexS ⟨⟨bs str ++ bs ⟨#[120]⟩⟩⟩ = .error (e4, 90) := by
      rw [lexS_small (by show (bs str ++ [120]).length ≤ 8000; rw [List.length_append, bs_size]; show str.size + 1 ≤ 8000; omega), show bs ⟨⟨bs str ++ bs ⟨#[120]⟩⟩⟩ = bs str ++ [120] from rfl, he4]
    have x5 : lexS ⟨⟨bs ⟨⟨bs ⟨#[49]⟩ ++ bs str⟩⟩ ++ bs ⟨#[48, 48, 48, 48, 48, 48, 48, 48, 48, 48, 48, 48, 48, 48, 48, 48, 48, 48]⟩⟩⟩ = .error (0, 90) := by
      rw [lexS_small (by show ((49 :: bs str) ++ List.replicate 18 48).length ≤ 8000; rw [List.length_append, List.length_cons, bs_size, List.length_replicate]; omega)]
      have : bs ⟨⟨bs ⟨⟨bs ⟨#[49]⟩ ++ bs str⟩⟩ ++ bs ⟨#[48, 48, 48, 48, 48, 48, 48, 48, 48, 48, 48, 48, 48, 48, 48, 48, 48, 48]⟩⟩⟩ = 49 :: bs str ++ List.replicate 18 48 := rfl
      rw [this, hS.lexB]
    obtain ⟨n2, v2, _⟩ := ho2.ok x2
    obtain ⟨_, f3, n3, _⟩ := ho3.err x3
    obtain ⟨_, f4, n4, _⟩ := ho4.err x4
    obtain ⟨_, f5, n5, _⟩ := ho5.err x5
    have hT := RT.ofVec (((v2.upd hE7 fun _ _ h => h).upd hE8 fun _ _ h => h).upd hE9 fun _ _ h => h)
    have hlen : r2.1.len = 2 := hT.1.len
    refine Jn.mk (fun j H' => H9 = H' ∧ j = false) (fun kk hkk => ?_) ?_
    · rw [n2]
      refine .inl ⟨rfl, ?_⟩
      rw [hlen]
      refine IxA_tok hT (j := 0) rfl (Nat.zero_lt_succ _) fun a ha => Ld_str ha.2.1 ?_
      rw [beq_bs]
      rw [show (!decide (bs ⟨⟨([⟨2, bs str, 0⟩, ⟨0, [], (bs str).length⟩] : List Tk)[0]!.text⟩⟩ = bs str)) = false by rw [decide_eq_true (by rfl)]; rfl]
      exact IxA_tok hT (j := 0) rfl (Nat.zero_lt_succ _) fun a ha => Ld_int (n := 2) ha.1 (hkk _ _ ⟨rfl, rfl⟩)
    rintro j _ ⟨rfl, rfl⟩
    rw [Br_false]
    have z8 : ((⟨⟨bs ⟨#[40]⟩ ++ bs str⟩⟩ : ByteArray)).size = 1 + str.size := by
      show ([40] ++ bs str).length = _
      rw [List.length_append, bs_size]; rfl
    refine StrCat_bs (by show 1 + str.size ≤ 8000; omega) (StrCat_bs (by rw [z8]; show 1 + str.size + 1 ≤ 8000; omega) (s_Lex ((((hgE.up hE6).up hE7).up hE8).up hE9) fun r6 H10 hE10 ho6 => ?_))
    have x6 : lexS ⟨⟨bs ⟨⟨bs ⟨#[40]⟩ ++ bs str⟩⟩ ++ bs ⟨#[41]⟩⟩⟩ = .ok [⟨3, [40], 0⟩, ⟨2, bs str, 1⟩, ⟨3, [41], (bs str).length + 1⟩, ⟨0, [], (bs str).length + 2⟩] := by
      rw [lexS_small (by show ((40 :: bs str) ++ [41]).length ≤ 8000; rw [List.length_append, List.length_cons, bs_size]; show str.size + 1 + 1 ≤ 8000; omega)]
      have : bs ⟨⟨bs ⟨⟨bs ⟨#[40]⟩ ++ bs str⟩⟩ ++ bs ⟨#[41]⟩⟩⟩ = 40 :: bs str ++ [41] := rfl
      rw [this, hS.lexP]
    obtain ⟨n6, v6, _⟩ := ho6.ok x6
    have hlen6 : r6.1.len = 4 := (RT.ofVec v6).1.len
    refine Jn_in ?_
    rw [n3, n4, n5, n6, hlen6]
    refine .inr ⟨⟨_, _, rfl⟩, .inr ⟨⟨_, _, rfl⟩, .inr ⟨⟨_, _, rfl⟩, .inl ⟨rfl, ?_⟩⟩⟩⟩
    exact ⟨rfl, (((((hE3.trans hE6 fun _ _ h => h).trans hE7 fun _ _ h => h).trans hE8 fun _ _ h => h).trans hE9 fun _ _ h => h).trans hE10 fun _ _ h => h)⟩
end Go.Proofs.YtlkmmplgfjicjaaDoor
