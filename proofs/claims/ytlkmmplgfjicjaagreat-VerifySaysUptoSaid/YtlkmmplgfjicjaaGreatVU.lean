/-
  What may be, as the document says it.
-/
import Derived.Test.YtlkmmplgfjicjaaGreatHcHeap
import Derived.Test.YtlkmmplgfjicjaaGreatVN
import Derived.Test.YtlkmmplgfjicjaaGreatVP
namespace Go.Proofs.YtlkmmplgfjicjaaGreat
set_option linter.unusedVariables false
set_option linter.unusedSimpArgs false
open Go.Proofs.YtlkmmplgfjicjaaGreat.Hc Go.Proofs.YtlkmmplgfjicjaaGreat.Hc.Vf
set_option maxRecDepth 100000
variable {H : Heap}

theorem StrI_l {s : ByteArray} {i : Int} {n : Nat} {k : Int → Prop} (hi : i = n) (hn : n < s.data.toList.length) (hk : k (s.data.toList[n]).toNat) : StrI s i k := by
  have hn2 : n < s.size := by rw [Array.length_toList] at hn; exact hn
  refine ⟨s.data.toList[n], by omega, ?_, hk⟩
  rw [hi, Int.toNat_natCast, getElem?_pos s n hn2]
  rfl
theorem s_rword {x : ByteArray} (hl : x.size ≤ 2 ^ 60) {k : Bool → Heap → Prop} (hk : k (wordB x.data.toList) H) : CallT Pg f_hindcastref06_word [.string x] (.one (.c .bool)) H k := by
  refine c_hindcastref06_word _ ?_
  unfold v_hindcastref06_word
  have hsz : x.data.toList.length = x.size := by rw [Array.length_toList]; rfl
  have hst : ∀ {i : Int} {n : Nat} {kk : Int → Prop}, i = n → (h : n < x.data.toList.length) → kk (x.data.toList[n]).toNat → StrI x i kk := fun hi hn hk => StrI_l hi hn hk
  generalize hw : x.data.toList = w at *
  refine LoopT.mk (fun (i : Int) H' => H = H' ∧ ∃ n : Nat, i = n ∧ n ≤ w.length ∧ chsB 0 w = chsB n (w.drop n)) (fun i _ => w.length - i.toNat) ⟨rfl, 0, rfl, Nat.zero_le _, rfl⟩ ?_
  rintro next _ _ ⟨rfl, n, rfl, hn, he⟩ hnext
  refine Br_dec (fun hlt => ?_) fun hge => ?_
  · have hn3 : n < w.length := by omega
    rw [List.drop_eq_getElem_cons hn3, chsB] at he
    refine hst rfl hn3 ?_
    generalize w[n].toNat = y at *
    refine Jn.mk (fun j H' => H = H' ∧ j = letB y) (fun kk hkk => ?_) ?_
    · refine Br_dec (fun h1 => Br_dec (fun h2 => hkk _ _ ⟨rfl, (decide_eq_true (by omega)).symm⟩) fun h2 => Br_dec (fun h3 => hkk _ _ ⟨rfl, decide_eq_decide.2 (by omega)⟩) fun h3 => hkk _ _ ⟨rfl, (decide_eq_false (by omega)).symm⟩)
        fun h1 => Br_dec (fun h3 => hkk _ _ ⟨rfl, decide_eq_decide.2 (by omega)⟩) fun h3 => hkk _ _ ⟨rfl, (decide_eq_false (by omega)).symm⟩
    rintro j1 _ ⟨rfl, rfl⟩
    refine Jn.mk (fun j H' => H = H' ∧ j = decide (y = 95 ∨ (48 ≤ y ∧ y ≤ 57))) (fun kk hkk => ?_) ?_
    · have e95 : ¬ (48 ≤ y ∧ y ≤ 57) → ((y : Int) == 95) = decide (y = 95 ∨ (48 ≤ y ∧ y ≤ 57)) := fun h => by rw [Bool.eq_iff_iff, beq_iff_eq, decide_eq_true_eq]; omega
      exact Br_dec (fun h1 => Br_dec (fun h2 => hkk _ _ ⟨rfl, (decide_eq_true (by omega)).symm⟩) fun h2 => hkk _ _ ⟨rfl, e95 (by omega)⟩) fun h1 => hkk _ _ ⟨rfl, e95 (by omega)⟩
    rintro j2 _ ⟨rfl, rfl⟩
    refine Jn.mk (fun j H' => H = H' ∧ j = !chB n y) (fun kk hkk => ?_) ?_
    · unfold chB at hkk
      refine Br_not (Br.mk (fun h => hkk _ _ ⟨rfl, by rw [h]; rfl⟩) fun h => ?_)
      rw [h, Bool.false_or] at hkk
      refine Br.mk (fun h0 => hkk _ _ ⟨rfl, ?_⟩) fun h0 => hkk _ _ ⟨rfl, ?_⟩
      · have h0 := beqI h0
        rw [decide_eq_false (show ¬ n ≠ 0 by omega)]; rfl
      · have h0 := bneI h0
        rw [decide_eq_true (show n ≠ 0 by omega), Bool.true_and]
    rintro j3 _ ⟨rfl, rfl⟩
    refine Br_not (Br.mk (fun h => ?_) fun h => ?_)
    · rw [h, Bool.true_and] at he
      exact Lt.mk (u := ((n + 1 : Nat) : Int)) (by rw [wrap_i64_id] <;> omega) (hnext _ _ ⟨rfl, n + 1, rfl, hn3, he⟩ (by omega))
    · rw [h, Bool.false_and] at he
      unfold wordB at hk
      rwa [he, Bool.false_and] at hk
  · rw [List.drop_eq_nil_of_le (by omega)] at he
    unfold wordB at hk
    rw [he, chsB, Bool.true_and] at hk
    refine Jn.mk (fun j H' => H = H' ∧ j = decide (w ≠ [] ∧ w.length ≤ 16)) (fun kk hkk => ?_) (by rintro j _ ⟨rfl, rfl⟩; exact hk)
    have hnil : w ≠ [] ↔ 1 ≤ w.length := by cases w <;> simp
    exact Br_dec (fun h => hkk _ _ ⟨rfl, decide_eq_decide.2 ⟨fun g => ⟨hnil.2 (by omega), by omega⟩, fun g => by omega⟩⟩) fun h => hkk _ _ ⟨rfl, (decide_eq_false fun g => h (by have := hnil.1 g.1; omega)).symm⟩
theorem s_rwords {s : Sl} {xs : List ByteArray} (hs : RL Value.string H s xs) (hl : xs.length ≤ 2 ^ 60) (hx : ∀ x ∈ xs, x.size ≤ 2 ^ 60) {k : Bool → Heap → Prop} (hk : k (wordsB xs) H) : CallT Pg f_hindcastref06_words [.slice s.a s.len s.cap] (.one (.c .bool)) H k := by
  refine c_hindcastref06_words _ ?_
  unfold v_hindcastref06_words
  have hlen := hs.len
  refine LoopT.mk (fun i H' => H = H' ∧ ∃ n : Nat, i = n ∧ n ≤ xs.length ∧ ∀ j, j < n → (wordB (xs[j]!).data.toList && !decide (xs[j]! ∈ xs.take j)) = true) (fun i _ => xs.length - i.toNat) ⟨rfl, 0, rfl, Nat.zero_le _, fun j hj => by omega⟩ ?_
  rintro next _ _ ⟨rfl, n, rfl, hn, hall⟩ hnext
  refine Br_dec (fun hlt => ?_) fun hge => ?_
  · have hn2 : n < xs.length := by omega
    have hget : xs[n]! = xs[n] := getElem!_pos xs n hn2
    have no : (wordB (xs[n]).data.toList && !decide (xs[n] ∈ xs.take n)) = false → k false H := fun h => by
      have : wordsB xs = false := by
        rw [Bool.eq_false_iff]
        intro e
        unfold wordsB at e
        have := List.all_eq_true.1 e n (List.mem_range.2 hn2)
        rw [hget, h] at this; cases this
      rwa [this] at hk
    refine IxA_rl hs rfl hn2 fun a ha => Ld_str ha (s_rword (hx _ (List.getElem_mem hn2)) (Br_not (Br.mk (fun hw => ?_) fun hw => no (by rw [hw]; rfl))))
    refine LoopT.mk (fun i H' => H = H' ∧ ∃ m : Nat, i = m ∧ m ≤ n ∧ ∀ j (h : j < xs.length), j < m → xs[j] ≠ xs[n]) (fun i _ => n - i.toNat) ⟨rfl, 0, rfl, Nat.zero_le _, fun j _ hj => by omega⟩ ?_
    rintro next2 _ _ ⟨rfl, m, rfl, hm, hno⟩ hnext2
    refine Br_dec (fun hlt2 => ?_) fun hge2 => ?_
    · have hm2 : m < xs.length := by omega
      refine IxA_rl hs rfl hm2 fun a2 ha2 => Ld_str ha2 (IxA_rl hs rfl hn2 fun a3 ha3 => Ld_str ha3 ?_)
      rw [bytes_beq]
      refine Br_dec (fun h => no ?_) fun h => ?_
      · have : xs[n] ∈ xs.take n := by
          rw [← h]
          exact List.mem_take_iff_getElem.2 ⟨m, by omega, rfl⟩
        rw [decide_eq_true this]; simp
      · refine Lt.mk (u := ((m + 1 : Nat) : Int)) (by rw [wrap_i64_id] <;> omega) (hnext2 _ _ ⟨rfl, m + 1, rfl, by omega, fun j hj hjn => ?_⟩ (by omega))
        rcases Nat.lt_or_ge j m with e | e
        · exact hno j hj e
        · have : j = m := by omega
          subst this; exact h
    · refine Lt.mk (u := ((n + 1 : Nat) : Int)) (by rw [wrap_i64_id] <;> omega) (hnext _ _ ⟨rfl, n + 1, rfl, hn2, fun j hj => ?_⟩ (by omega))
      rcases Nat.lt_or_ge j n with e | e
      · exact hall j e
      · have : j = n := by omega
        subst this
        rw [hget, hw, Bool.true_and, Bool.not_eq_true', decide_eq_false_iff_not]
        intro hmem
        obtain ⟨i, hi, e⟩ := List.mem_take_iff_getElem.1 hmem
        exact hno i (by omega) (by omega) e
  · have hne : n = xs.length := by omega
    subst hne
    rwa [show wordsB xs = true from List.all_eq_true.2 fun i hi => hall i (List.mem_range.1 hi)] at hk
theorem s_MayBe {sl : Sl} {ks : List Ki} (hK : KdsR H sl ks) {k : Bool → Heap → Prop} (hk : ∀ H', Ext H H' → k (mayK ks) H') : CallT Pg f_hindcastref06_MayBe [.slice sl.a sl.len sl.cap] (.one (.c .bool)) H k := by
  refine c_hindcastref06_MayBe _ ?_
  unfold v_hindcastref06_MayBe
  have hsl := hK.rn.len
  have hlen := hK.len
  refine LoopT.mk (fun (st : Sl × Int) H' => ∃ n : Nat, st.2 = n ∧ n ≤ ks.length ∧ Ext H H' ∧ Vec H' T_string st.1 (((ks.take n).map (·.name)).map Value.string) ∧ (∀ b, st.1.a = some (adr b) → H.size ≤ b) ∧ ks.all kiOk = (ks.drop n).all kiOk) (fun st _ => ks.length - st.2.toNat)
    ⟨0, rfl, Nat.zero_le _, .refl _ _, Vec.nil _ _, (fun b hb => by cases hb), rfl⟩ ?_
  rintro next ⟨s, _⟩ H1 ⟨n, rfl, hn, hE1, hv, hsb, he⟩ hnext
  dsimp only at hv hsb ⊢
  have z1 := hE1.size
  refine Br_dec (fun hlt => ?_) fun hge => ?_
  · have hn3 : n < ks.length := by omega
    have hx : ks[n] ∈ ks := List.getElem_mem hn3
    have hget : ks[n]! = ks[n] := getElem!_pos ks n hn3
    rw [List.drop_eq_getElem_cons hn3, List.all_cons] at he
    have htk : ks.take (n + 1) = ks.take n ++ [ks[n]] := by rw [List.take_add_one, List.getElem?_eq_getElem hn3]; rfl
    have no : kiOk ks[n] = false → k false H1 := fun h => by
      have := hk _ hE1
      unfold mayK at this
      rwa [he, h, Bool.false_and, Bool.false_and, Bool.false_and] at this
    have hat : ∀ {kk : Addr → Prop}, (∀ a, hcell H1 a = some (.string (ks[n]).name) → hcell H1 (a.add 1) = some (slV (ks[n]).s) → kk a) → IxA 2 sl (n : Int) kk := fun hkk => IxA_rn' kiV_len (hK.rn.ext hE1) (by omega) (j := n) rfl hn3 fun a ha => by
      rw [hget] at ha
      have h0 := hcells_iff.1 ha 0 (by simp)
      have h1 := hcells_iff.1 ha 1 (by simp)
      rw [Nat.zero_add, add_zero] at h0
      exact hkk a (by simpa using h0) (by simpa using h1)
    have hll := (hK.el _ hx).len
    refine hat fun a1 _ h1 => Ld_sl (s := (ks[n]).s) h1 (s_rwords ((hK.el _ hx).ext hE1) (hK.ll _ hx) (hK.lw _ hx) ?_)
    refine Jn.mk (fun j H' => H1 = H' ∧ j = !kiOk ks[n]) (fun kk hkk => ?_) ?_
    · refine Br_not (Br.mk (fun h => hat fun a2 _ h2 => Ld_sl (s := (ks[n]).s) h2 (hkk _ _ ⟨rfl, ?_⟩)) fun h => hkk _ _ ⟨rfl, by unfold kiOk; rw [h]; simp⟩)
      unfold kiOk; rw [h, Bool.and_true, ← decide_not]
      exact decide_eq_decide.2 (by omega)
    rintro _ _ ⟨rfl, rfl⟩
    refine Br_not (Br.mk (fun h => ?_) fun h => no h)
    rw [h, Bool.true_and] at he
    refine hat fun a3 h3 _ => Ld_str h3 ?_
    refine Nw_row (vs := [.string (ks[n]).name]) fun b2 H7 hb2 hE7 _ hr7 => ?_
    refine App_vec (hv.ext hE7) (ws := [.string (ks[n]).name]) hr7.rd_all rfl (by simp [Value.oneCell']) (by omega) (by simp only [List.length_map, List.length_take, List.length_singleton]; omega) fun l1 H8 hv8 hU8 ha8 _ => ?_
    refine Lt.mk (u := ((n + 1 : Nat) : Int)) (by rw [wrap_i64_id] <;> omega) (hnext _ _ ⟨n + 1, rfl, hn3, (hE1.trans hE7 fun _ _ h => h).trans hU8 fun b hb e => ?_, ?_, fun b hb => ?_, he⟩ (by dsimp only; omega))
    · have := hsb b e.1; omega
    · rw [htk, List.map_append, List.map_append]; exact hv8
    · rcases ha8 with e | e
      · rw [e] at hb; exact hsb b hb
      · rw [e] at hb; cases hb
        have := hE7.size; omega
  · have hne : n = ks.length := by omega
    subst hne
    rw [List.take_length] at hv
    rw [List.drop_length] at he
    have em : mayK ks = (decide (1 ≤ ks.length ∧ ks.length ≤ 12) && wordsB (ks.map (·.name))) := by unfold mayK; rw [he]; rfl
    refine s_rwords (xs := ks.map (·.name)) ⟨hv.rd, by rw [hv.len, List.length_map], hv.lc⟩ (by rw [List.length_map]; omega) (fun x hx => ?_) ?_
    · obtain ⟨y, hy, rfl⟩ := List.mem_map.1 hx
      exact hK.ln y hy
    refine Jn.mk (fun j H' => H1 = H' ∧ j = mayK ks) (fun kk hkk => ?_) (by rintro j _ ⟨rfl, rfl⟩; exact hk _ hE1)
    refine Br.mk (fun h => Br_dec (fun h1 => hkk _ _ ⟨rfl, ?_⟩) fun h1 => hkk _ _ ⟨rfl, ?_⟩) fun h => hkk _ _ ⟨rfl, by rw [em, h, Bool.and_false]⟩
    · rw [em, h, Bool.and_true]; exact decide_eq_decide.2 (by omega)
    · rw [em, decide_eq_false (by omega)]; rfl
theorem s_rset {s : Sl} {xs : List Int} (hs : RL (Value.int .i64) H s xs) (hl : xs.length ≤ 2 ^ 60) {k : Bool → Heap → Prop} (hk : k (risesOk 0 xs) H) : CallT Pg f_hindcastref13_set [.slice s.a s.len s.cap] (.one (.c .bool)) H k := by
  refine c_hindcastref13_set _ ?_
  unfold v_hindcastref13_set
  have hlen := hs.len
  refine LoopT.mk (fun (st : Int × Int) H' => H = H' ∧ ∃ n : Nat, st.2 = n ∧ n ≤ xs.length ∧ risesOk 0 xs = risesOk st.1 (xs.drop n)) (fun st _ => xs.length - st.2.toNat) ⟨rfl, 0, rfl, Nat.zero_le _, rfl⟩ ?_
  rintro next ⟨l, _⟩ _ ⟨rfl, n, rfl, hn, he⟩ hnext
  dsimp only at he ⊢
  refine Br_dec (fun hlt => ?_) fun hge => ?_
  · have hn3 : n < xs.length := by omega
    rw [List.drop_eq_getElem_cons hn3, risesOk] at he
    refine Jn.mk (fun j H' => H = H' ∧ j = !decide (l < xs[n] ∧ xs[n] ≤ 12)) (fun kk hkk => ?_) ?_
    · refine IxA_rl hs rfl hn3 fun a1 h1 => Ld_int h1 (Br_dec (fun h => hkk _ _ ⟨rfl, by rw [decide_eq_false (by omega)]; rfl⟩) fun h => IxA_rl hs rfl hn3 fun a2 h2 => Ld_int h2 (hkk _ _ ⟨rfl, ?_⟩))
      rw [← decide_not]; exact decide_eq_decide.2 (by omega)
    rintro _ _ ⟨rfl, rfl⟩
    refine Br_not (Br.mk (fun h => ?_) fun h => by rw [h, Bool.false_and] at he; rwa [he] at hk)
    rw [h, Bool.true_and] at he
    exact IxA_rl hs rfl hn3 fun a3 h3 => Ld_int h3 (Lt.mk (u := ((n + 1 : Nat) : Int)) (by rw [wrap_i64_id] <;> omega) (hnext _ _ ⟨rfl, n + 1, rfl, hn3, he⟩ (by dsimp only; omega)))
  · rw [List.drop_eq_nil_of_le (by omega), risesOk] at he
    rwa [he] at hk
theorem s_HasA {op : Int} {k : Bool → Heap → Prop} (hk : ∀ H', Ext H H' → k (isOpB op && numB op) H') : CallT Pg f_hindcastref13_HasA [.int .i64 op] (.one (.c .bool)) H k := by
  refine c_hindcastref13_HasA _ ?_
  unfold v_hindcastref13_HasA
  refine s_rIsOp ?_
  refine Jn.mk (fun j H' => Ext H H' ∧ j = (isOpB op && numB op)) (fun kk hkk => ?_) (by rintro j H' ⟨h, rfl⟩; exact hk _ h)
  refine Br.mk (fun h => s_table fun r H3 hE3 hr3 => ?_) fun h => hkk _ _ ⟨.refl _ _, by rw [h]; rfl⟩
  have hb := of_decide_eq_true (show decide (1 ≤ op ∧ op ≤ 39) = true from h)
  have hlt : op.toNat < refL.length := by have : refL.length = 40 := rfl; omega
  refine IxA_rn' refV_len hr3 (by omega) (j := op.toNat) (by omega) hlt fun a ha => ?_
  have h1 := hcells_iff.1 ha 1 (by simp)
  refine Ld_bool (n := (refL[op.toNat]!).2.1) (by simpa using h1) (hkk _ _ ⟨hE3, ?_⟩)
  have := ref_num op.toNat (by omega)
  rw [this, h, Bool.true_and]
  congr 1; omega
theorem s_instrs {s : Sl} {c : List Ins} (hs : RN insV 2 H s c) (hl : c.length ≤ 2 ^ 60) {k : Bool → Heap → Prop} (hk : ∀ H', Ext H H' → k (c.all instrOk) H') : CallT Pg f_hindcastref13_instrs [.slice s.a s.len s.cap] (.one (.c .bool)) H k := by
  refine c_hindcastref13_instrs _ ?_
  unfold v_hindcastref13_instrs
  have hlen := hs.len
  refine LoopT.mk (fun (i : Int) H' => ∃ n : Nat, i = n ∧ n ≤ c.length ∧ Ext H H' ∧ c.all instrOk = (c.drop n).all instrOk) (fun i _ => c.length - i.toNat) ⟨0, rfl, Nat.zero_le _, .refl _ _, rfl⟩ ?_
  rintro next _ H1 ⟨n, rfl, hn, hE1, he⟩ hnext
  refine Br_dec (fun hlt => ?_) fun hge => ?_
  · have hn3 : n < c.length := by omega
    have hget : c[n]! = c[n] := getElem!_pos c n hn3
    rw [List.drop_eq_getElem_cons hn3, List.all_cons, ← hget] at he
    have hat : ∀ {Hx : Heap} {kk : Addr → Prop}, Ext H Hx → (∀ a, hcell Hx a = some (.int .i64 (c[n]!).1) → hcell Hx (a.add 1) = some (.int .i64 (c[n]!).2) → kk a) → IxA 2 s (n : Int) kk := fun {Hx kk} hE hkk => IxA_rn' insV_len (hs.ext hE) (by omega) (j := n) rfl hn3 fun a ha => by
      have h0 := hcells_iff.1 ha 0 (by simp)
      have h1 := hcells_iff.1 ha 1 (by simp)
      rw [Nat.zero_add, add_zero] at h0
      exact hkk a (by simpa using h0) (by simpa using h1)
    refine hat hE1 fun a1 h1 _ => Ld_int h1 (s_rIsOp (hat hE1 fun a2 h2 _ => Ld_int h2 (s_HasA fun H3 hE3 => ?_)))
    have hE3' := hE1.trans hE3 fun _ _ h => h
    refine Jn.mk (fun j H' => H3 = H' ∧ j = !instrOk (c[n]!)) (fun kk hkk => ?_) ?_
    · unfold instrOk at hkk
      refine Br_not (Br.mk (fun h => ?_) fun h => hkk _ _ ⟨rfl, by rw [h]; rfl⟩)
      rw [h, Bool.true_and] at hkk ⊢
      refine Br_not (Br.mk (fun g => hkk _ _ ⟨rfl, by rw [g]; rfl⟩) fun g => hat hE3' fun a3 _ h3 => Ld_int h3 (hkk _ _ ⟨rfl, ?_⟩))
      rw [g, Bool.false_or]
      rw [Bool.eq_iff_iff, bne_iff_ne, Bool.not_eq_true', decide_eq_false_iff_not]
    rintro _ _ ⟨rfl, rfl⟩
    refine Br_not (Br.mk (fun h => ?_) fun h => ?_)
    · rw [h, Bool.true_and] at he
      exact Lt.mk (u := ((n + 1 : Nat) : Int)) (by rw [wrap_i64_id] <;> omega) (hnext _ _ ⟨n + 1, rfl, hn3, hE3', he⟩ (by omega))
    · rw [h, Bool.false_and] at he
      have := hk _ hE3'
      rwa [he] at this
  · rw [List.drop_eq_nil_of_le (by omega)] at he
    have := hk _ hE1
    rwa [he] at this
theorem s_rroutine {r : Rou} (hr : CodeR H r) (hl : r.code.length ≤ 2 ^ 60) {k : Bool → Heap → Prop} (hk : ∀ H', Ext H H' → k (rouOk r) H') : CallT Pg f_hindcastref13_routine [rouA r] (.one (.c .bool)) H k := by
  refine c_hindcastref13_routine (r.name, r.params, r.locals, r.sl) ?_
  unfold v_hindcastref13_routine
  refine Nw_row (vs := rouV r) fun b1 H1 hb1 hE1 _ hr1 => ?_
  simp only [adr_add]
  refine Ld_sl (s := r.sl) ((hr1.cell 3).trans rfl) (s_instrs (hr.ext hE1) hl fun H2 hE2 => ?_)
  have hE2' := hE1.trans hE2 fun _ _ h => h
  have hr2 := hE2.row hr1 fun h => h
  refine Jn.mk (fun j H' => H2 = H' ∧ j = rouOk r) (fun kk hkk => ?_) (by rintro j _ ⟨rfl, rfl⟩; exact hk _ hE2')
  have c0 : hcell H2 (adr b1) = some (.string r.name) := (hr2.cell 0).trans rfl
  have c1 : hcell H2 ⟨b1, 1, none⟩ = some (.int .i64 r.params) := (hr2.cell 1).trans rfl
  have c2 : hcell H2 ⟨b1, 2, none⟩ = some (.int .i64 r.locals) := (hr2.cell 2).trans rfl
  have no : ¬ ((1 ≤ r.name.size ∧ r.name.size ≤ 16) ∧ 0 ≤ r.params ∧ r.params ≤ 4 ∧ r.params ≤ r.locals ∧ r.locals ≤ 32) → kk false H2 := fun h => hkk _ _ ⟨rfl, by
    unfold rouOk sizedOk
    rw [eq_comm, Bool.eq_false_iff]
    intro g
    simp only [Bool.and_eq_true, decide_eq_true_eq] at g
    exact h ⟨g.1.1, g.1.2⟩⟩
  refine Br.mk (fun h => ?_) fun h => hkk _ _ ⟨rfl, by unfold rouOk; rw [h, Bool.and_false]⟩
  refine Ld_str c0 (Br_dec (fun g1 => Ld_str c0 (Br_dec (fun g2 => Ld_int c1 (Br_dec (fun g3 => Ld_int c1 (Br_dec (fun g4 => Ld_int c2 (Ld_int c1 (Br_dec (fun g5 => Ld_int c2 (hkk _ _ ⟨rfl, ?_⟩)) fun g => no (by omega)))) fun g => no (by omega))) fun g => no (by omega))) fun g => no (by omega))) fun g => no (by omega))
  unfold rouOk sizedOk
  rw [h, Bool.and_true, decide_eq_true (show 1 ≤ r.name.size ∧ r.name.size ≤ 16 by omega), Bool.true_and]
  exact decide_eq_decide.2 (by omega)
end Go.Proofs.YtlkmmplgfjicjaaGreat
/-
  code.Encode: what counts is whether it may.
-/
namespace Go.Proofs.YtlkmmplgfjicjaaGreat
set_option linter.unusedVariables false
set_option linter.unusedSimpArgs false
open Go.Proofs.YtlkmmplgfjicjaaGreat.Hc Go.Proofs.YtlkmmplgfjicjaaGreat.Hc.Vf
set_option maxRecDepth 100000
variable {H : Heap}

theorem By.mono {s : Sl} {n m : Nat} (h : By H s n) (hm : n ≤ m) : By H s m := by
  obtain ⟨vs, h1, h2, h3⟩ := h
  exact ⟨vs, h1, by omega, h3⟩
theorem s_putRoutine {r : Rou} {s : Sl} {n : Nat} (hr : CodeR H r) (hb : By H s n) (hn : n ≤ 2 ^ 30) (hnm : r.name.size ≤ 16) (hc : r.code.length ≤ 2000) {k : Sl → Heap → Prop} (hk : ∀ s' H', Ext H H' → By H' s' (n + 50000) → k s' H') :
    CallT Pg f_code_putRoutine [.slice s.a s.len s.cap, rouA r] (.one (.c .sl)) H k := by
  refine c_code_putRoutine _ (r.name, r.params, r.locals, r.sl) ?_
  unfold v_code_putRoutine
  refine Nw_row (vs := rouV r) fun b1 H1 hb1 hE1 _ hr1 => ?_
  simp only [adr_add]
  have hrl := hr.len
  have ce : ∀ {H'}, Ext H1 H' → Row H' b1 T_api_Routine (rouV r) := fun hE => hE.row hr1 fun h => h
  have c0 : ∀ {H'}, Ext H1 H' → hcell H' (adr b1) = some (.string r.name) := fun hE => ((ce hE).cell 0).trans rfl
  have c1 : ∀ {H'}, Ext H1 H' → hcell H' ⟨b1, 1, none⟩ = some (.int .i64 r.params) := fun hE => ((ce hE).cell 1).trans rfl
  have c2 : ∀ {H'}, Ext H1 H' → hcell H' ⟨b1, 2, none⟩ = some (.int .i64 r.locals) := fun hE => ((ce hE).cell 2).trans rfl
  have c3 : ∀ {H'}, Ext H1 H' → hcell H' ⟨b1, 3, none⟩ = some (slV r.sl) := fun hE => ((ce hE).cell 3).trans rfl
  have e0 : Ext H1 H1 := .refl _ _
  refine Ld_str (c0 e0) (Ld_int (c1 e0) (Ld_int (c2 e0) (Ld_sl (s := r.sl) (c3 e0) ?_)))
  refine s_PutText (hb.ext hE1) (by omega) (by omega) fun s2 H2 hE2 hb2 => ?_
  refine Stab_all (fun x hx => ?_) ?_
  · simp only [List.mem_cons, List.not_mem_nil, or_false] at hx
    rcases hx with rfl | rfl | rfl
    · exact c3 hE2
    · exact c2 hE2
    · exact c1 hE2
  refine s_put hb2 (by omega) fun s3 H3 hE3 hb3 => ?_
  have hE3' := hE2.trans hE3 fun _ _ h => h
  refine Stab_all (fun x hx => ?_) ?_
  · simp only [List.mem_cons, List.not_mem_nil, or_false] at hx
    rcases hx with rfl | rfl | rfl
    · exact c3 hE3'
    · exact c2 hE3'
    · exact c0 hE3'
  refine s_put hb3 (by omega) fun s4 H4 hE4 hb4 => ?_
  have hE4' := hE3'.trans hE4 fun _ _ h => h
  refine Stab_all (fun x hx => ?_) ?_
  · simp only [List.mem_cons, List.not_mem_nil, or_false] at hx
    rcases hx with rfl | rfl | rfl
    · exact c3 hE4'
    · exact c1 hE4'
    · exact c0 hE4'
  refine s_put hb4 (by omega) fun s5 H5 hE5 hb5 => ?_
  have hE5' := hE4'.trans hE5 fun _ _ h => h
  refine Stab_all (fun x hx => ?_) ?_
  · simp only [List.mem_cons, List.not_mem_nil, or_false] at hx
    rcases hx with rfl | rfl | rfl | rfl
    · exact c3 hE5'
    · exact c2 hE5'
    · exact c1 hE5'
    · exact c0 hE5'
  refine Ld_sl (s := r.sl) (c3 hE5') ?_
  have hE05 := hE1.trans hE5' fun _ _ h => h
  refine LoopT.mk (fun (st : Sl × Int) H' => ∃ j : Nat, st.2 = j ∧ j ≤ r.code.length ∧ Ext H H' ∧ By H' st.1 (n + 100 + 20 * j)) (fun st _ => r.code.length - st.2.toNat) ⟨0, rfl, Nat.zero_le _, hE05, hb5.mono (by omega)⟩ ?_
  rintro next ⟨s6, _⟩ H6 ⟨j, rfl, hj, hE6, hb6⟩ hnext
  dsimp only at hb6 ⊢
  refine Br_dec (fun hlt => Jn_in ?_) fun hge => ?_
  · have hj3 : j < r.code.length := by omega
    refine IxA_rn' insV_len (hr.ext hE6) (by omega) (j := j) rfl hj3 fun a ha => ⟨((r.code[j]!).1, (r.code[j]!).2), ha, ?_⟩
    refine Nw_row (vs := [.int .i64 0, .int .i64 0]) fun b2 H7 hb2 hE7 _ hr7 => ?_
    simp only [adr_add]
    refine St_row hr7 (by simp) fun H8 hU8 _ hr8 => St_row hr8 (by simp) fun H9 hU9 _ hr9 => ?_
    have hE9 : Ext H6 H9 := (extUpd hE7 (by omega) (hU8.trans hU9 fun _ _ h => h))
    have hr9 : Row H9 b2 T_api_Instr (insV r.code[j]!) := hr9
    refine Ld_int (n := (r.code[j]!).1) ((hr9.cell 0).trans rfl) (s_put (hb6.ext hE9) (by omega) fun s10 H10 hE10 hb10 => ?_)
    have hr10 := hE10.row hr9 fun h => h
    refine Ld_int (n := (r.code[j]!).1) ((hr10.cell 0).trans rfl) (s_shapeOf fun H11 w hE11 => ?_)
    have hr11 := hE11.row hr10 fun h => h
    have hE11' : Ext H H11 := hE6.trans (hE9.trans (hE10.trans hE11 fun _ _ h => h) fun _ _ h => h) fun _ _ h => h
    have nx : ∀ {s' H'}, Ext H H' → By H' s' (n + 100 + 20 * (j + 1)) → Lt (IntKind.wrap .i64 ((j : Int) + 1)) fun t1 => next (s', t1) H' := fun hE hb =>
      Lt.mk (u := ((j + 1 : Nat) : Int)) (by rw [wrap_i64_id] <;> omega) (hnext _ _ ⟨j + 1, rfl, hj3, hE, hb⟩ (by dsimp only; omega))
    refine Jn_in (Br.mk (fun h => ?_) fun h => nx hE11' ((hb10.ext hE11).mono (by omega)))
    refine Ld_int (n := (r.code[j]!).2) ((hr11.cell 1).trans rfl) (s_PutInt (hb10.ext hE11) (by omega) fun s12 H12 hE12 hb12 => nx (hE11'.trans hE12 fun _ _ h => h) (hb12.mono (by omega)))
  · exact hk _ _ hE6 (hb6.mono (by omega))
theorem rises_len : ∀ {xs : List Int} {l : Int}, risesOk l xs = true → 0 ≤ l → l ≤ 12 → xs.length ≤ 12 - l.toNat
  | [], _, _, _, _ => Nat.zero_le _
  | x :: t, l, h, h0, h1 => by
    unfold risesOk at h
    simp only [Bool.and_eq_true, decide_eq_true_eq] at h
    have := rises_len h.2 (by omega) (by omega)
    simp only [List.length_cons]; omega
theorem rou_size {r : Rou} (h : rouOk r = true) : r.name.size ≤ 16 := by
  unfold rouOk at h
  simp only [Bool.and_eq_true, decide_eq_true_eq] at h
  exact h.1.1.2
theorem s_Encode {p : Sl × Sl} {ss : List Sy} {fs : List Rou} (hP : PrgR H p ss fs) {k : Sl × Int → Heap → Prop} (hk : ∀ s' H', Ext H H' → k (s', if MayP ss fs then 0 else 130) H') : CallT Pg f_code_Encode [prgA p] (.tup [(.c .sl), (.c (.int .i64))]) H k := by
  refine c_code_Encode p ?_
  unfold v_code_Encode
  refine Nw_row (vs := [slV p.1, slV p.2]) fun b1 H1 hb1 hE1 _ hr1 => ?_
  simp only [adr_add]
  refine ⟨p, hr1.rd_all, s_may (hP.ext hE1) fun H2 hE2 => ?_⟩
  have hE2' := hE1.trans hE2 fun _ _ h => h
  refine Br_not (Br_dec (fun hM => ?_) fun hM => ?_)
  rotate_left
  · have := hk ⟨none, 0, 0⟩ _ hE2'
    rwa [if_neg hM] at this
  simp only [if_pos hM] at hk
  have hM' := hM
  obtain ⟨m1, m2, m3, m4, m5⟩ := hM
  have hp : ∀ {H'}, Ext H2 H' → Row H' b1 T_api_Program [slV p.1, slV p.2] := fun hE => hE.row (hE2.row hr1 fun h => h) fun h => h
  have hsl := hP.sys.len
  have hfl := hP.fun'.len
  have rc : ∀ {rs : List Rou} {j : Nat} (hj : j < rs.length), sumL rs ≤ 2000 → (rs[j]).code.length ≤ 2000 := fun {rs j} hj hs => by
    have e := sumL_succ (rs := rs) (n := j) hj
    have e2 := sumL_take (rs := rs) (n := j + 1)
    omega
  have e0 : Ext H2 H2 := .refl _ _
  refine Ld_sl (s := p.1) (((hp e0).cell 0).trans rfl) (s_put (By.nil _) (by omega) fun s3 H3 hE3 hb3 => ?_)
  refine Ld_sl (s := p.1) (((hp hE3).cell 0).trans rfl) ?_
  refine LoopT.mk (fun (st : Sl × Int) H' => ∃ j : Nat, st.2 = j ∧ j ≤ ss.length ∧ Ext H2 H' ∧ By H' st.1 (10 + 60000 * j)) (fun st _ => ss.length - st.2.toNat) ⟨0, rfl, Nat.zero_le _, hE3, hb3.mono (by omega)⟩ ?_
  rintro next ⟨s4, _⟩ H4 ⟨j, rfl, hj, hE4, hb4⟩ hnext
  dsimp only at hb4 ⊢
  have hEE : ∀ {H'}, Ext H2 H' → Ext H H' := fun hE => hE2'.trans hE fun _ _ h => h
  refine Br_dec (fun hlt => ?_) fun hge => ?_
  · have hj3 : j < ss.length := by omega
    have hx := hP.sysR _ (List.getElem_mem hj3)
    have hxm := m3 _ (List.getElem_mem hj3)
    have hget : ss[j]! = ss[j] := getElem!_pos ss j hj3
    have hcl := rc (rs := ss.map (·.rou)) (j := j) (by simpa using hj3) (by omega)
    rw [List.getElem_map] at hcl
    refine IxA_rn' sysV_len (hP.sys.ext (hEE hE4)) (by omega) (j := j) rfl hj3 fun a ha => ?_
    rw [hget] at ha
    generalize ss[j] = x at *
    refine ld_sys ha (sys_copy (x := x) fun b3 H14 hb3 hE14 hr14 => s_sets fun H15 hE15 => ?_)
    have hE15' : Ext H4 H15 := hE14.trans hE15 fun _ _ h => h
    have hr15 := hE15.row hr14 fun h => h
    refine LoopT.mk (fun (st : Sl × Int) H' => ∃ q : Nat, st.2 = q ∧ q ≤ 4 ∧ Ext H15 H' ∧ By H' st.1 (10 + 60000 * j + 200 * q)) (fun st _ => 4 - st.2.toNat) ⟨0, rfl, by omega, .refl _ _, (hb4.ext hE15').mono (by omega)⟩ ?_
    rintro next2 ⟨s16, _⟩ H16 ⟨q, rfl, hq, hE16, hb16⟩ hnext2
    dsimp only at hb16 ⊢
    have hE16' := hE4.trans (hE15'.trans hE16 fun _ _ h => h) fun _ _ h => h
    have hr16 := hE16.row hr15 fun h => h
    refine Br_dec (fun hlt2 => ?_) fun hge2 => ?_
    · have hq3 : q < 4 := by omega
      have hset := hx.sets q hq3
      have hlq := hset.len
      have hl12 := rises_len (rises4_at.1 hxm.1 q hq3) (by omega) (by omega)
      refine ArI_sets hq3 ?_
      simp only [NilCk_some]
      refine Ld_sl (s := x.s q) (sys_cell hr16 hq3) (s_put hb16 (by omega) fun s17 H17 hE17 hb17 => ?_)
      refine Ld_sl (s := x.s q) (sys_cell (hE17.row hr16 fun h => h) hq3) ?_
      refine LoopT.mk (fun (st : Sl × Int) H' => ∃ e : Nat, st.2 = e ∧ e ≤ (x.l q).length ∧ Ext H17 H' ∧ By H' st.1 (10 + 60000 * j + 200 * q + 10 + 10 * e)) (fun st _ => (x.l q).length - st.2.toNat) ⟨0, rfl, Nat.zero_le _, .refl _ _, hb17.mono (by omega)⟩ ?_
      rintro next3 ⟨s18, _⟩ H18 ⟨e, rfl, he, hE18, hb18⟩ hnext3
      dsimp only at hb18 ⊢
      have hE18' := hE17.trans hE18 fun _ _ h => h
      refine Br_dec (fun hlt3 => ?_) fun hge3 => ?_
      · have he3 : e < (x.l q).length := by omega
        refine IxA_rl (hset.ext (hEE (hE16'.trans hE18' fun _ _ h => h))) rfl he3 fun a ha => Ld_int (n := (x.l q)[e]) (by rw [ha]) (s_put hb18 (by omega) fun s19 H19 hE19 hb19 => ?_)
        exact Lt.mk (u := ((e + 1 : Nat) : Int)) (by rw [wrap_i64_id] <;> omega) (hnext3 _ _ ⟨e + 1, rfl, he3, hE18.trans hE19 fun _ _ h => h, hb19.mono (by omega)⟩ (by dsimp only; omega))
      · exact Lt.mk (u := ((q + 1 : Nat) : Int)) (by rw [wrap_i64_id] <;> omega) (hnext2 _ _ ⟨q + 1, rfl, hq3, hE16.trans hE18' fun _ _ h => h, hb18.mono (by omega)⟩ (by dsimp only; omega))
    · have hq4 : q = 4 := by omega
      subst hq4
      refine ld_rou (r := x.rou) (sys_rou hr16) (s_putRoutine (hx.code.ext (hEE hE16')) hb16 (by omega) (rou_size hxm.2) hcl fun s20 H20 hE20 hb20 => ?_)
      exact Lt.mk (u := ((j + 1 : Nat) : Int)) (by rw [wrap_i64_id] <;> omega) (hnext _ _ ⟨j + 1, rfl, hj3, hE16'.trans hE20 fun _ _ h => h, hb20.mono (by omega)⟩ (by dsimp only; omega))
  · refine Ld_sl (s := p.2) (((hp hE4).cell 1).trans rfl) (s_put hb4 (by omega) fun s5 H5 hE5 hb5 => ?_)
    have hE5' := hE4.trans hE5 fun _ _ h => h
    refine Ld_sl (s := p.2) (((hp hE5').cell 1).trans rfl) ?_
    refine LoopT.mk (fun (st : Sl × Int) H' => ∃ e : Nat, st.2 = e ∧ e ≤ fs.length ∧ Ext H2 H' ∧ By H' st.1 (10 + 60000 * 16 + 10 + 60000 * e)) (fun st _ => fs.length - st.2.toNat) ⟨0, rfl, Nat.zero_le _, hE5', hb5.mono (by omega)⟩ ?_
    rintro next4 ⟨s21, _⟩ H21 ⟨e, rfl, he, hE21, hb21⟩ hnext4
    dsimp only at hb21 ⊢
    refine Br_dec (fun hlt4 => ?_) fun hge4 => hk _ _ (hEE hE21)
    have he3 : e < fs.length := by omega
    have hx := hP.funR _ (List.getElem_mem he3)
    have hxm := m4 _ (List.getElem_mem he3)
    have hget : fs[e]! = fs[e] := getElem!_pos fs e he3
    have hcl := rc (rs := fs) (j := e) he3 (by omega)
    refine IxA_rn' rouV_len (hP.fun'.ext (hEE hE21)) (by omega) (j := e) rfl he3 fun a ha => ?_
    rw [hget] at ha
    refine ld_rou ha (rou_copy (x := fs[e]) fun b3 H24 hb3 hE24 hr24 => ?_)
    have hE24' := hE21.trans hE24 fun _ _ h => h
    refine ld_rou (r := fs[e]) hr24.rd_all (s_putRoutine (r := fs[e]) (hx.ext (hEE hE24')) (hb21.ext hE24) (by omega) (rou_size hxm) hcl fun s25 H25 hE25 hb25 => ?_)
    exact Lt.mk (u := ((e + 1 : Nat) : Int)) (by rw [wrap_i64_id] <;> omega) (hnext4 _ _ ⟨e + 1, rfl, he3, hE24'.trans hE25 fun _ _ h => h, hb25.mono (by omega)⟩ (by dsimp only; omega))
end Go.Proofs.YtlkmmplgfjicjaaGreat
/-
  verify.routines.
-/
namespace Go.Proofs.YtlkmmplgfjicjaaGreat
set_option linter.unusedVariables false
set_option linter.unusedSimpArgs false
open Go.Proofs.YtlkmmplgfjicjaaGreat.Hc Go.Proofs.YtlkmmplgfjicjaaGreat.Hc.Vf
set_option maxRecDepth 100000
variable {H : Heap}

/-- A routine with its place and its system. -/
structure Rt where
  at' : Nat
  rou : Rou
  ptr : Option Addr
instance : Inhabited Rt := ⟨⟨0, default, none⟩⟩
abbrev rtV (x : Rt) : List Value := [.int .i64 (x.at' : Nat), .string x.rou.name, .int .i64 x.rou.params, .int .i64 x.rou.locals, slV x.rou.sl, .pointer x.ptr]
theorem rtV_len (x : Rt) : (rtV x).length = 6 := rfl
abbrev rousL (ss : List Sy) (fs : List Rou) : List Rou := ss.map (·.rou) ++ fs
structure PRt (H : Heap) (ss : List Sy) (fs : List Rou) (j : Nat) (x : Rt) : Prop where
  at_ : x.at' = sumL ((rousL ss fs).take j)
  rou : x.rou = (rousL ss fs)[j]!
  sys : j < ss.length → ∃ a, x.ptr = some a ∧ hcells H a 0 (sysV (ss[j]!))
  non : ss.length ≤ j → x.ptr = none
theorem snoc_at {α : Type} [Inhabited α] {l : List α} {x : α} {P : Nat → α → Prop} (h : ∀ j, j < l.length → P j (l[j]!)) (hx : P l.length x) : ∀ j, j < (l ++ [x]).length → P j ((l ++ [x])[j]!) := by
  intro j hj
  rw [List.length_append, List.length_singleton] at hj
  rcases Nat.lt_or_ge j l.length with g | g
  · rw [getElem!_pos _ _ (by rw [List.length_append, List.length_singleton]; omega), List.getElem_append_left g, ← getElem!_pos l j g]
    exact h j g
  · have : j = l.length := by omega
    subst this
    rw [getElem!_pos _ _ (by rw [List.length_append, List.length_singleton]; omega)]
    simpa using hx
theorem s_routines {p : Sl × Sl} {ss : List Sy} {fs : List Rou} (hP : PrgR H p ss fs) (hM : MayP ss fs) {k : Sl → Heap → Prop}
    (hk : ∀ s rts H', Ext H H' → RN rtV 6 H' s rts → rts.length = ss.length + fs.length → (∀ j, j < rts.length → PRt H ss fs j (rts[j]!)) → k s H') : CallT Pg f_verify_routines [prgA p] (.one (.c .sl)) H k := by
  refine c_verify_routines p ?_
  unfold v_verify_routines
  obtain ⟨m1, m2, _, _, m5⟩ := hM
  refine Nw_row (vs := [slV p.1, slV p.2]) fun b1 H1 hb1 hE1 _ hr1 => ?_
  simp only [adr_add, NilCk_some]
  have hp : ∀ {H'}, Ext H1 H' → Row H' b1 T_api_Program [slV p.1, slV p.2] := fun hE => hE.row hr1 fun h => h
  have hsl := hP.sys.len
  have hfl := hP.fun'.len
  have hrl : (rousL ss fs).length = ss.length + fs.length := by rw [List.length_append, List.length_map]
  have hsum : sumL (rousL ss fs) ≤ 2000 := by
    unfold sumL at m5 ⊢
    rw [List.map_append, List.sum_append]; exact m5
  have hst : ∀ j, sumL ((rousL ss fs).take j) ≤ 2000 := fun j => Nat.le_trans sumL_take hsum
  have hsucc : ∀ j, j < (rousL ss fs).length → sumL ((rousL ss fs).take (j + 1)) = sumL ((rousL ss fs).take j) + ((rousL ss fs)[j]!).code.length := fun j hj => by rw [sumL_succ hj, getElem!_pos (rousL ss fs) j hj]
  have hrs : ∀ j, j < ss.length → (rousL ss fs)[j]! = (ss[j]!).rou := fun j hj => by
    rw [getElem!_pos _ _ (by rw [hrl]; omega), List.getElem_append_left (by simpa using hj), List.getElem_map, getElem!_pos ss j hj]
  have hrf : ∀ j, j < fs.length → (rousL ss fs)[ss.length + j]! = fs[j]! := fun j hj => by
    rw [getElem!_pos _ _ (by rw [hrl]; omega), List.getElem_append_right (by simp), getElem!_pos fs j hj]
    simp
  refine Ld_sl (s := p.1) ((hr1.cell 0).trans rfl) ?_
  have app : ∀ {s : Sl} {rts : List Rt} {x : Rt} {H2 : Heap} {K : Sl → Heap → Prop}, Ext H1 H2 → VecN H2 T_verify_routine 6 s (rts.flatMap rtV) → rts.length ≤ 40 → s.len = rts.length → (∀ b, s.a = some (adr b) → H1.size ≤ b) →
      (∀ l1 H4, Ext H1 H4 → VecN H4 T_verify_routine 6 l1 ((rts ++ [x]).flatMap rtV) → l1.len = (rts ++ [x]).length → (∀ b, l1.a = some (adr b) → H1.size ≤ b) → Upd (fun b => s.a = some (adr b)) H2 H4 → K l1 H4) →
      Nw #[.int .i64 (x.at' : Nat), .string x.rou.name, .int .i64 x.rou.params, .int .i64 x.rou.locals, slV x.rou.sl, .pointer x.ptr] T_verify_routine H2 fun b2 H3 =>
        App T_verify_routine 6 72 #[.int .i64 0, .string ByteArray.empty, .int .i64 0, .int .i64 0, .slice none 0 0, .pointer none] s ⟨some (adr b2), 1, 1⟩ H3 K := fun {s rts x H2 K} hE hv hl hlen hs hK => by
    have z2 := hE.size
    refine Nw_row (vs := rtV x) fun b2 H3 hb2 hE3 hz3 hr3 => ?_
    refine App_vecN (n := 6) rfl (by omega) (hv.ext hE3) (ws := rtV x) hr3.rd_all rfl (by simp [Value.oneCell']) (by omega) (by simp only; omega) fun l1 H4 hv4 hl4 hU4 ha4 => hK l1 H4 ((hE.trans hE3 fun _ _ h => h).trans hU4 fun b hb e => ?_) ?_ ?_ (fun b hb => ?_) ((hE3.mono fun _ _ h => h.elim).trans hU4 fun _ _ e => e.1)
    · have := hs b e.1; omega
    · rw [List.flatMap_append]; simpa using hv4
    · rw [hl4, hlen, List.length_append]; rfl
    · rcases ha4 with ⟨e, _⟩ | e
      · rw [e] at hb; exact hs b hb
      · rw [e] at hb; cases hb; omega
  refine LoopT.mk (fun (st : Sl × Int × Int) H' => ∃ (n : Nat) (rts : List Rt), st.2.2 = n ∧ n ≤ ss.length ∧ Ext H1 H' ∧ VecN H' T_verify_routine 6 st.1 (rts.flatMap rtV) ∧ rts.length = n ∧ st.1.len = rts.length ∧ (∀ b, st.1.a = some (adr b) → H1.size ≤ b) ∧ st.2.1 = (sumL ((rousL ss fs).take n) : Nat) ∧ ∀ j, j < rts.length → PRt H ss fs j (rts[j]!))
    (fun st _ => ss.length - st.2.2.toNat) ⟨0, [], rfl, Nat.zero_le _, .refl _ _, ⟨rfl, .inl ⟨rfl, rfl, rfl⟩, Nat.le_refl _⟩, rfl, rfl, (fun b hb => by cases hb), by simp [sumL], fun j hj => by simp at hj⟩ ?_
  rintro next ⟨s, _, _⟩ H2 ⟨n, rts, rfl, hn, hE2, hv, hlr, hls, hsb, rfl, hall⟩ hnext
  dsimp only at hv hsb hls ⊢
  refine Br_dec (fun hlt => ?_) fun hge => ?_
  · have hn3 : n < ss.length := by omega
    have hcl := hsucc n (by omega)
    have hs1 := hst (n + 1)
    rw [hrs n hn3] at hcl
    refine Ld_sl (s := p.1) (((hp hE2).cell 0).trans rfl) ?_
    -- where the system lies, at the beginning
    obtain ⟨a0, ha0, hc0⟩ : ∃ a0, p.1.a = some a0 ∧ hcells H (a0.add (n * 8)) 0 (sysV ss[n]!) := by
      have : IxA 8 p.1 (n : Nat) fun a => ∃ a0, p.1.a = some a0 ∧ a = a0.add (n * 8) ∧ hcells H a 0 (sysV ss[n]!) := by
        obtain ⟨a0, h1, h2, h3, h4⟩ := IxA_rn' sysV_len hP.sys (by omega) (j := n) rfl hn3 (k := fun a => hcells H a 0 (sysV ss[n]!)) fun a ha => ha
        rw [Int.toNat_natCast] at h4
        exact ⟨a0, h1, h2, h3, a0, h1, by rw [Int.toNat_natCast], by rw [Int.toNat_natCast]; exact h4⟩
      obtain ⟨a1, h1, _, _, a0, h2, h3, h4⟩ := this
      exact ⟨a0, h2, h3 ▸ h4⟩
    refine IxA.mk ha0 (by omega) (by omega) ?_
    rw [Int.toNat_natCast]
    generalize hae : a0.add (n * 8) = a at hc0
    have hcE : ∀ {H'}, Ext H H' → hcells H' a 0 (sysV ss[n]!) := fun hE => hcells_upd hE (fun h => h) hc0
    have hE2' := hE1.trans hE2 fun _ _ h => h
    have r4 : ∀ {H'}, Ext H H' → hcells H' (a.add 4) 0 (rouV (ss[n]!).rou) := fun {H'} hE => by
      have h0 : hcells H' a 0 ([slV ((ss[n]!).s 0), slV ((ss[n]!).s 1), slV ((ss[n]!).s 2), slV ((ss[n]!).s 3)] ++ rouV (ss[n]!).rou) := hcE hE
      exact hcellsShift (n := 4) (i := 0) |>.1 (hcells_app.1 h0).2
    have hcode := (hP.sysR _ (List.getElem_mem hn3)).code.len
    rw [← getElem!_pos ss n hn3] at hcode
    refine ld_rou (r := (ss[n]!).rou) (r4 hE2') (app (x := ⟨sumL ((rousL ss fs).take n), (ss[n]!).rou, some a⟩) hE2 hv (by omega) hls hsb fun l1 H4 hE4 hv4 hl4 hs4 _ => ?_)
    have hE4' := hE1.trans hE4 fun _ _ h => h
    refine Ld_sl (s := (ss[n]!).rou.sl) ?_ ?_
    · have := r4 hE4'
      obtain ⟨_, _, _, h, _⟩ := this
      exact h
    rw [hcode]
    refine Lt.mk (u := ((sumL ((rousL ss fs).take (n + 1)) : Nat) : Int)) (by rw [wrap_i64_id] <;> omega) (Lt.mk (u := ((n + 1 : Nat) : Int)) (by rw [wrap_i64_id] <;> omega) (hnext _ _ ⟨n + 1, rts ++ [⟨sumL ((rousL ss fs).take n), (ss[n]!).rou, some a⟩], rfl, hn3, hE4, hv4, by rw [List.length_append, List.length_singleton, hlr], hl4, hs4, rfl, snoc_at hall ?_⟩ (by dsimp only; omega)))
    rw [hlr]
    exact ⟨rfl, (hrs n hn3).symm, fun _ => ⟨a, rfl, hc0⟩, fun h => by omega⟩
  · have hne : n = ss.length := by omega
    subst hne
    refine Ld_sl (s := p.2) (((hp hE2).cell 1).trans rfl) ?_
    refine LoopT.mk (fun (st : Sl × Int × Int) H' => ∃ (n : Nat) (rts : List Rt), st.2.2 = n ∧ n ≤ fs.length ∧ Ext H1 H' ∧ VecN H' T_verify_routine 6 st.1 (rts.flatMap rtV) ∧ rts.length = ss.length + n ∧ st.1.len = rts.length ∧ (∀ b, st.1.a = some (adr b) → H1.size ≤ b) ∧ st.2.1 = (sumL ((rousL ss fs).take (ss.length + n)) : Nat) ∧ ∀ j, j < rts.length → PRt H ss fs j (rts[j]!))
      (fun st _ => fs.length - st.2.2.toNat) ⟨0, rts, rfl, Nat.zero_le _, hE2, hv, hlr, hls, hsb, rfl, hall⟩ ?_
    clear hv hls hsb hall hlr
    clear rts
    rintro next2 ⟨s3, _, _⟩ H3 ⟨n, rts, rfl, hn, hE3, hv, hlr, hls, hsb, rfl, hall⟩ hnext2
    dsimp only at hv hsb hls ⊢
    refine Br_dec (fun hlt => ?_) fun hge3 => ?_
    · have hn3 : n < fs.length := by omega
      have hcl := hsucc (ss.length + n) (by omega)
      have hs1 := hst (ss.length + n + 1)
      rw [hrf n hn3] at hcl
      rw [Nat.add_assoc] at hcl hs1
      have hcode := (hP.funR _ (List.getElem_mem hn3)).len
      rw [← getElem!_pos fs n hn3] at hcode
      have hE3' := hE1.trans hE3 fun _ _ h => h
      refine IxA_rn' rouV_len (hP.fun'.ext hE3') (by omega) (j := n) rfl hn3 fun a ha => ?_
      refine ld_rou ha (rou_copy (x := fs[n]!) fun b3 H4 hb3 hE4 hr4 => ld_rou (r := fs[n]!) hr4.rd_all (app (x := ⟨sumL ((rousL ss fs).take (ss.length + n)), fs[n]!, none⟩) (hE3.trans hE4 fun _ _ h => h) (hv.ext hE4) (by omega) hls hsb fun l1 H5 hE5 hv5 hl5 hs5 hU5 => ?_))
      have hr5 : Row H5 b3 T_api_Routine (rouV fs[n]!) := hU5.row hr4 fun e => (hv.ext hE4).ne e hr4 (by decide) rfl
      refine Ld_sl (s := (fs[n]!).sl) ((hr5.cell 3).trans rfl) ?_
      rw [hcode]
      refine Lt.mk (u := ((sumL ((rousL ss fs).take (ss.length + (n + 1))) : Nat) : Int)) (by rw [wrap_i64_id] <;> omega) (Lt.mk (u := ((n + 1 : Nat) : Int)) (by rw [wrap_i64_id] <;> omega) (hnext2 _ _ ⟨n + 1, rts ++ [⟨sumL ((rousL ss fs).take (ss.length + n)), fs[n]!, none⟩], rfl, hn3, hE5, hv5, by rw [List.length_append, List.length_singleton, hlr]; omega, hl5, hs5, rfl, snoc_at hall ?_⟩ (by dsimp only; omega)))
      rw [hlr]
      exact ⟨rfl, (hrf n hn3).symm, fun h => by omega, fun _ => rfl⟩
    · have hne : n = fs.length := by omega
      subst hne
      refine hk s3 rts H3 (hE1.trans hE3 fun _ _ h => h) ⟨hv.rd, by rw [hls], hv.lc⟩ hlr hall
end Go.Proofs.YtlkmmplgfjicjaaGreat
/-
  The checker's small questions.
-/
namespace Go.Proofs.YtlkmmplgfjicjaaGreat
set_option linter.unusedVariables false
set_option linter.unusedSimpArgs false
open Go.Proofs.YtlkmmplgfjicjaaGreat.Hc Go.Proofs.YtlkmmplgfjicjaaGreat.Hc.Vf
set_option maxRecDepth 100000
variable {H : Heap}

/-- The checker as it lies in memory. -/
abbrev CkR (H : Heap) (c : Nat) (p : Sl × Sl) (ksl rsl : Sl) : Prop := Row H c T_verify_checker [slV p.1, slV p.2, slV ksl, slV rsl]
def opI (c : List Ins) (n : Int) : Int := if 0 ≤ n ∧ n < c.length then (c[n.toNat]!).1 else 0
def fieldsI (ks : List Ki) (n : Int) : Int := if 1 ≤ n ∧ n ≤ ks.length then ((ks[(n - 1).toNat]!).l.length : Nat) else -1
def wholeB (ks : List Ki) (a : Int) : Bool := decide (0 ≤ a ∧ a.tmod 8 = fieldsI ks (IntKind.wrap .i64 (a.tdiv 8)))
theorem s_op {r : Rou} (hr : CodeR H r) {n : Int} {k : Int → Heap → Prop} (hk : ∀ H', Ext H H' → k (opI r.code n) H') : CallT Pg f_verify_op [rouA r, .int .i64 n] (.one (.c (.int .i64))) H k := by
  refine c_verify_op (r.name, r.params, r.locals, r.sl) _ ?_
  unfold v_verify_op
  refine Nw_row (vs := rouV r) fun b1 H1 hb1 hE1 _ hr1 => ?_
  simp only [adr_add]
  have hl := hr.len
  have hkk := hk _ hE1
  refine Jn.mk (fun j H' => H1 = H' ∧ j = decide (¬ (0 ≤ n ∧ n < r.code.length))) (fun kk hkk => ?_) ?_
  · exact Br_dec (fun h => hkk _ _ ⟨rfl, (decide_eq_true (by omega)).symm⟩) fun h => Ld_sl (s := r.sl) ((hr1.cell 3).trans rfl) (hkk _ _ ⟨rfl, decide_eq_decide.2 (by omega)⟩)
  rintro j _ ⟨rfl, rfl⟩
  refine Br_dec (fun h => ?_) fun h => ?_
  · unfold opI at hkk; rwa [if_neg h] at hkk
  · have h := Classical.not_not.1 h
    refine Ld_sl (s := r.sl) ((hr1.cell 3).trans rfl) (IxA_rn' insV_len (hr.ext hE1) (by omega) (j := n.toNat) (by omega) (by omega) fun a ha => Ld_int (n := (r.code[n.toNat]!).1) ha.1 ?_)
    unfold opI at hkk; rwa [if_pos h] at hkk
theorem s_fields {c : Nat} {p : Sl × Sl} {ksl rsl : Sl} {ks : List Ki} (hc : CkR H c p ksl rsl) (hK : KdsR H ksl ks) {n : Int} {k : Int → Heap → Prop} (hk : k (fieldsI ks n) H) : CallT Pg f_verify_checker_fields [.pointer (some (adr c)), .int .i64 n] (.one (.c (.int .i64))) H k := by
  refine c_verify_checker_fields _ _ ?_
  unfold v_verify_checker_fields
  simp only [adr_add, NilCk_some]
  have hl := hK.rn.len
  have hlen := hK.len
  have c2 : hcell H ⟨c, 2, none⟩ = some (slV ksl) := (hc.cell 2).trans rfl
  refine Jn.mk (fun j H' => H = H' ∧ j = decide (¬ (1 ≤ n ∧ n ≤ ks.length))) (fun kk hkk => ?_) ?_
  · exact Br_dec (fun h => hkk _ _ ⟨rfl, (decide_eq_true (by omega)).symm⟩) fun h => Ld_sl (s := ksl) c2 (hkk _ _ ⟨rfl, decide_eq_decide.2 (by omega)⟩)
  rintro j _ ⟨rfl, rfl⟩
  refine Br_dec (fun h => ?_) fun h => ?_
  · unfold fieldsI at hk; rwa [if_neg h] at hk
  · have h := Classical.not_not.1 h
    have hlt : (n - 1).toNat < ks.length := by omega
    refine Ld_sl (s := ksl) c2 (Lt.mk (u := n - 1) (by rw [wrap_i64_id] <;> omega) (IxA_rn' kiV_len hK.rn (by omega) (j := (n - 1).toNat) (by omega) hlt fun a ha => Ld_sl (s := (ks[(n - 1).toNat]!).s) ha.2.1 ?_))
    have he := (hK.el (ks[(n - 1).toNat]!) (by rw [getElem!_pos ks _ hlt]; exact List.getElem_mem hlt)).len
    unfold fieldsI at hk
    rw [if_pos h, ← he] at hk
    exact hk
theorem s_wholeC {c : Nat} {p : Sl × Sl} {ksl rsl : Sl} {ks : List Ki} (hc : CkR H c p ksl rsl) (hK : KdsR H ksl ks) {a : Int} {k : Bool → Heap → Prop} (hk : k (wholeB ks a) H) : CallT Pg f_verify_checker_whole [.pointer (some (adr c)), .int .i64 a] (.one (.c .bool)) H k := by
  refine c_verify_checker_whole _ _ ?_
  unfold v_verify_checker_whole
  refine Jn.mk (fun j H' => H = H' ∧ j = wholeB ks a) (fun kk hkk => ?_) (by rintro j _ ⟨rfl, rfl⟩; exact hk)
  refine Br_dec (fun h => ⟨by omega, by omega, s_fields hc hK (hkk _ _ ⟨rfl, ?_⟩)⟩) fun h => hkk _ _ ⟨rfl, (decide_eq_false (by omega)).symm⟩
  unfold wholeB
  rw [Bool.eq_iff_iff, beq_iff_eq, decide_eq_true_eq]
  exact ⟨fun e => ⟨h, e⟩, fun e => e.2⟩
/-- A row of whole reads before and behind. -/
def rowB (c : List Ins) (n : Nat) : Bool := decide (opI c ((n : Int) + 1) = 26 ∨ opI c ((n : Int) + 1) = 27) && (List.range 12).any fun j => decide (opI c ((n : Int) - ((j + 1 : Nat) : Int)) ≠ 26)
theorem s_row {r : Rou} (hr : CodeR H r) {n : Nat} (hn : n ≤ 100000) {k : Bool → Heap → Prop} (hk : ∀ H', Ext H H' → k (rowB r.code n) H') : CallT Pg f_verify_row [rouA r, .int .i64 (n : Nat)] (.one (.c .bool)) H k := by
  refine c_verify_row (r.name, r.params, r.locals, r.sl) _ ?_
  unfold v_verify_row
  refine Nw_row (vs := rouV r) fun b1 H1 hb1 hE1 _ hr1 => ?_
  refine ld_rou (r := r) hr1.rd_all (Lt.mk (u := (n : Int) + 1) (by rw [wrap_i64_id] <;> omega) (s_op (r := r) (hr.ext hE1) fun H2 hE2 => ?_))
  have hE2' := hE1.trans hE2 fun _ _ h => h
  have hr2 := hE2.row hr1 fun h => h
  generalize hx : opI r.code ((n : Int) + 1) = x
  refine Jn.mk (fun j H' => H2 = H' ∧ j = decide (¬ (x = 26 ∨ x = 27))) (fun kk hkk => ?_) ?_
  · refine Br.mk (fun h => hkk _ _ ⟨rfl, ?_⟩) fun h => hkk _ _ ⟨rfl, ?_⟩
    · have h := bne_iff_ne.1 h
      rw [Bool.eq_iff_iff, bne_iff_ne, decide_eq_true_eq]; omega
    · have h : x = 26 := Classical.byContradiction fun e => by rw [bne_iff_ne.2 e] at h; cases h
      exact (decide_eq_false (by omega)).symm
  rintro j _ ⟨rfl, rfl⟩
  refine Br_dec (fun h => ?_) fun h => ?_
  · have := hk _ hE2'
    unfold rowB at this
    rwa [hx, decide_eq_false h, Bool.false_and] at this
  have h := Classical.not_not.1 h
  have hrow : ∀ b, ((List.range 12).any fun j => decide (opI r.code ((n : Int) - ((j + 1 : Nat) : Int)) ≠ 26)) = b → rowB r.code n = b := fun b e => by
    unfold rowB; rw [hx, decide_eq_true h, Bool.true_and, e]
  refine LoopT.mk (fun (i : Int) H' => ∃ j : Nat, i = ((j + 1 : Nat) : Int) ∧ j ≤ 12 ∧ Ext H2 H' ∧ ∀ e, e < j → opI r.code ((n : Int) - ((e + 1 : Nat) : Int)) = 26) (fun i _ => 13 - i.toNat) ⟨0, rfl, by omega, .refl _ _, fun e he => by omega⟩ ?_
  rintro next _ H4 ⟨j, rfl, hj, hE4, hall⟩ hnext
  have hE4' := hE2'.trans hE4 fun _ _ h => h
  refine Br_dec (fun hlt => ?_) fun hge => ?_
  · refine ld_rou (r := r) (Row.rd_all (hE4.row hr2 fun h => h)) (Lt.mk (u := (n : Int) - ((j + 1 : Nat) : Int)) (by rw [wrap_i64_id] <;> omega) (s_op (r := r) (hr.ext hE4') fun H5 hE5 => ?_))
    refine Br.mk (fun h2 => ?_) fun h2 => ?_
    · have := hk _ (hE4'.trans hE5 fun _ _ h => h)
      rwa [hrow true (List.any_eq_true.2 ⟨j, List.mem_range.2 (by omega), decide_eq_true (bne_iff_ne.1 h2)⟩)] at this
    · have h2 : opI r.code ((n : Int) - ((j + 1 : Nat) : Int)) = 26 := Classical.byContradiction fun e => by rw [bne_iff_ne.2 e] at h2; cases h2
      refine Lt.mk (u := ((j + 1 + 1 : Nat) : Int)) (by rw [wrap_i64_id] <;> omega) (hnext _ _ ⟨j + 1, rfl, by omega, hE4.trans hE5 fun _ _ h => h, fun e he => ?_⟩ (by omega))
      rcases Nat.lt_or_ge e j with g | g
      · exact hall e g
      · have : e = j := by omega
        subst this; exact h2
  · have hj12 : j = 12 := by omega
    subst hj12
    have := hk _ hE4'
    rwa [hrow false (List.any_eq_false.2 fun e he => by rw [decide_eq_true_eq]; exact fun g => g (hall e (List.mem_range.1 he)))] at this
end Go.Proofs.YtlkmmplgfjicjaaGreat
/-
  An instruction that is reached and does nothing outside.
-/
namespace Go.Proofs.YtlkmmplgfjicjaaGreat
set_option linter.unusedVariables false
set_option linter.unusedSimpArgs false
open Go.Proofs.YtlkmmplgfjicjaaGreat.Hc Go.Proofs.YtlkmmplgfjicjaaGreat.Hc.Vf
set_option maxRecDepth 100000
variable {H : Heap}

def idleP (c : List Ins) (ps : List Int) (i : Nat) : Prop := isReached c ps i ∧ (c[i]!).1 ≠ 24 ∧ (c[i]!).1 ≠ 21
variable {lo f : Nat} {r : Rou} {fsl dl : Sl} {ms : List Value} {D : List (List Nat)} {ps : List Int}
theorem s_idle (hF : FlowAt lo H f r fsl ps dl ms D) (hr : CodeR H r) {i : Nat} (hi : i < r.code.length) {k : Bool → Heap → Prop} (hk : ∀ b H', Ext H H' → (b = true ↔ idleP r.code ps i) → k b H') :
    CallT Pg f_verify_flow_idle [.pointer (some (adr f)), .int .i64 (i : Nat)] (.one (.c .bool)) H k := by
  refine c_verify_flow_idle _ _ ?_
  unfold v_verify_flow_idle
  simp only [adr_add, NilCk_some]
  have hsl : hcell H ⟨f, 3, none⟩ = some (slV r.sl) := (hF.flow.cell 3).trans rfl
  refine Ld_sl (s := r.sl) hsl (IxA_rn' insV_len hr (by omega) (j := i) rfl hi fun a ha => ?_)
  refine ⟨((r.code[i]!).1, (r.code[i]!).2), ha, Nw_row (vs := [.int .i64 0, .int .i64 0]) fun b1 H1 hb1 hE1 hz1 hr1 => St_row hr1 (by simp) fun H2 hU2 _ hr2 => St_row hr2 (by simp) fun H3 hU3 _ hr3 => ?_⟩
  have hE3 : Ext H H3 := extUpd hE1 (by omega) (hU2.trans hU3 fun _ _ h => h)
  have hI3 : Row H3 b1 T_api_Instr (insV r.code[i]!) := hr3
  have hF3 := hF.ext hE3
  have hi2 : i < ms.length := by rw [hF.ml]; exact hi
  refine Jn.mk (fun j H' => H3 = H' ∧ (j = true ↔ idleP r.code ps i)) (fun kk hkk => ?_) (by rintro j _ ⟨rfl, h⟩; exact hk _ _ hE3 h)
  refine Ld_sl (s := dl) hF3.d5 (IxA_raw hF3.dv rfl hi2 (MpN_i (hF3.mp i hi2) (Br_dec (fun h0 => ?_) fun h0 => ?_)))
  · have hrd : isReached r.code ps i := by
      match hDD : D[i]!, h0 with
      | x :: t, _ => exact ⟨x, (hF.rc i x hi).1 (by rw [hDD]; simp)⟩
      | [], h0 => simp at h0
    refine Ld_int ((hI3.cell 0).trans rfl) (Br.mk (fun h1 => Ld_int ((hI3.cell 0).trans rfl) (hkk _ _ ⟨rfl, ?_⟩)) fun h1 => hkk _ _ ⟨rfl, ?_⟩)
    · rw [bne_iff_ne]
      exact ⟨fun e => ⟨hrd, bne_iff_ne.1 h1, e⟩, fun e => e.2.2⟩
    · exact ⟨fun e => (by cases e), fun e => by rw [bne_iff_ne.2 e.2.1] at h1; cases h1⟩
  · refine hkk _ _ ⟨rfl, fun e => (by cases e), fun e => ?_⟩
    obtain ⟨d, hd⟩ := e.1
    have := (hF.rc i d hi).2 hd
    have h2 : D[i]! = [] := List.eq_nil_of_length_eq_zero (by omega)
    rw [h2] at this; cases this
end Go.Proofs.YtlkmmplgfjicjaaGreat
/-
  Going round without doing anything: the plain part.
-/
namespace Go.Proofs.YtlkmmplgfjicjaaGreat
set_option linter.unusedVariables false
set_option linter.unusedSimpArgs false
open Go.Proofs.YtlkmmplgfjicjaaGreat.Hc Go.Proofs.YtlkmmplgfjicjaaGreat.Hc.Vf

/-- One step from an idle instruction. -/
def StepI (c : List Ins) (ps : List Int) (x y : Nat) : Prop := idleP c ps x ∧ (y : Int) ∈ nexts c x
/-- A way of one step or more. -/
inductive WayI (c : List Ins) (ps : List Int) : Nat → Nat → Prop
  | one {x y : Nat} : StepI c ps x y → WayI c ps x y
  | more {x y z : Nat} : WayI c ps x y → StepI c ps y z → WayI c ps x z
/-- What the search keeps: all found are on a way, and all steps from a done one are found. -/
structure RInv (c : List Ins) (ps : List Int) (a : Nat) (seen : Nat → Prop) (todo : Nat → Prop) : Prop where
  way : ∀ y, seen y → WayI c ps a y
  here : ∀ y, todo y → y = a ∨ seen y
  done : ∀ x, (x = a ∨ seen x) → todo x ∨ ∀ y, StepI c ps x y → y ≠ a ∧ seen y
theorem RInv.no {c : List Ins} {ps : List Int} {a : Nat} {seen todo : Nat → Prop} (h : RInv c ps a seen todo) (h0 : ∀ x, ¬ todo x) : ¬ WayI c ps a a := by
  have key : ∀ x y, WayI c ps x y → x = a → y ≠ a ∧ seen y := by
    intro x y hw
    induction hw with
    | one s =>
      rintro rfl
      exact ((h.done _ (.inl rfl)).resolve_left (h0 _)) _ s
    | more w s ih =>
      intro e
      exact ((h.done _ (.inr (ih e).2)).resolve_left (h0 _)) _ s
  intro hw
  exact (key a a hw rfl).1 rfl
/-- Midway: k is being done. -/
structure RMid (c : List Ins) (ps : List Int) (a k : Nat) (seen todo : Nat → Prop) : Prop where
  way : ∀ y, seen y → WayI c ps a y
  here : ∀ y, todo y → y = a ∨ seen y
  from' : k = a ∨ WayI c ps a k
  done : ∀ x, (x = a ∨ seen x) → todo x ∨ x = k ∨ ∀ y, StepI c ps x y → y ≠ a ∧ seen y
theorem RInv.mid {c : List Ins} {ps : List Int} {a k : Nat} {seen todo todo' : Nat → Prop} (h : RInv c ps a seen todo) (hk : todo k) (ht : ∀ x, todo x ↔ todo' x ∨ x = k) : RMid c ps a k seen todo' := by
  refine ⟨h.way, fun y hy => h.here y ((ht y).2 (.inl hy)), (h.here k hk).imp id (h.way k), fun x hx => ?_⟩
  rcases h.done x hx with g | g
  · rcases (ht x).1 g with g | g
    · exact .inl g
    · exact .inr (.inl g)
  · exact .inr (.inr g)
theorem RMid.end' {c : List Ins} {ps : List Int} {a k : Nat} {seen todo : Nat → Prop} (h : RMid c ps a k seen todo) (hk : ∀ y, StepI c ps k y → y ≠ a ∧ seen y) : RInv c ps a seen todo := by
  refine ⟨h.way, h.here, fun x hx => ?_⟩
  rcases h.done x hx with g | rfl | g
  · exact .inl g
  · exact .inr hk
  · exact .inr g
theorem RMid.one {c : List Ins} {ps : List Int} {a k : Nat} {seen todo : Nat → Prop} (h : RMid c ps a k seen todo) {y : Nat} (hs : StepI c ps k y) : WayI c ps a y := by
  rcases h.from' with rfl | g
  · exact .one hs
  · exact .more g hs
theorem RMid.add {c : List Ins} {ps : List Int} {a k : Nat} {seen todo seen' todo' : Nat → Prop} (h : RMid c ps a k seen todo) {n : Nat} (hs : StepI c ps k n) (h1 : ∀ y, seen' y ↔ seen y ∨ y = n) (h2 : ∀ y, todo' y ↔ todo y ∨ y = n) : RMid c ps a k seen' todo' := by
  refine ⟨fun y hy => ?_, fun y hy => ?_, h.from', fun x hx => ?_⟩
  · rcases (h1 y).1 hy with g | rfl
    · exact h.way y g
    · exact h.one hs
  · rcases (h2 y).1 hy with g | rfl
    · exact (h.here y g).imp id fun g => (h1 y).2 (.inl g)
    · exact .inr ((h1 _).2 (.inr rfl))
  · have key : (x = a ∨ seen x) → todo' x ∨ x = k ∨ ∀ y, StepI c ps x y → y ≠ a ∧ seen' y := fun hx => by
      rcases h.done x hx with g | g | g
      · exact .inl ((h2 x).2 (.inl g))
      · exact .inr (.inl g)
      · exact .inr (.inr fun y hy => ⟨(g y hy).1, (h1 y).2 (.inl (g y hy).2)⟩)
    rcases hx with g | g
    · exact key (.inl g)
    · rcases (h1 x).1 g with g | rfl
      · exact key (.inr g)
      · exact .inl ((h2 _).2 (.inr rfl))
/-- What is not wrong goes on within the code. -/
theorem nexts_in {c : List Ins} {ps : List Int} {i : Nat} (hi : i < c.length) (hw : wr c ps i = 0) : ∀ x ∈ nexts c i, 0 ≤ x ∧ x < c.length := by
  have hj : ¬ jumpBad c i := fun h => by unfold wr at hw; rw [if_pos h] at hw; cases hw
  have he : ¬ endBad c i := fun h => by
    unfold wr at hw
    rw [if_neg hj] at hw
    by_cases hs : stackBad c ps i
    · rw [if_pos hs] at hw; cases hw
    · rw [if_neg hs, if_pos h] at hw; cases hw
  unfold jumpBad at hj
  unfold endBad at he
  intro x hx
  unfold nexts at he hx
  dsimp only at he hx
  split at hx
  · cases hx
  · rename_i h1
    rw [if_neg h1] at he
    split at hx
    · rename_i h2
      rw [List.mem_singleton] at hx; subst hx
      exact Classical.byContradiction fun g => hj ⟨.inl h2, g⟩
    · rename_i h2
      rw [if_neg h2] at he
      split at hx
      · rename_i h3
        rw [if_pos h3] at he
        simp only [List.mem_cons, List.not_mem_nil, or_false] at hx he
        rcases hx with rfl | rfl
        · exact Classical.byContradiction fun g => hj ⟨.inr h3, g⟩
        · refine ⟨by omega, ?_⟩
          have : ¬ ((c.length : Int) = (i : Int) + 1) := fun e => he (.inr e)
          omega
      · rename_i h3
        rw [if_neg h3] at he
        simp only [List.mem_singleton] at hx he
        omega
theorem set_some {bs : List Bool} {n y : Nat} (hn : n < bs.length) : (bs.set n true)[y]? = some true ↔ bs[y]? = some true ∨ y = n := by
  rw [List.getElem?_set]
  by_cases e : n = y
  · subst e; simp [hn]
  · rw [if_neg e]
    constructor
    · exact .inl
    · rintro (h | h)
      · exact h
      · exact absurd h.symm e
theorem set_count {bs : List Bool} {n : Nat} (hn : n < bs.length) (hf : bs[n]! = false) : (bs.set n true).count false + 1 = bs.count false := by
  rw [getElem!_pos bs n hn] at hf
  have h := List.count_set (a := true) (b := false) (l := bs) (i := n) hn
  rw [hf] at h
  simp at h
  have hp : 0 < bs.count false := List.count_pos_iff.2 (hf ▸ List.getElem_mem hn)
  omega
end Go.Proofs.YtlkmmplgfjicjaaGreat
/-
  flow.round.
-/
namespace Go.Proofs.YtlkmmplgfjicjaaGreat
set_option linter.unusedVariables false
set_option linter.unusedSimpArgs false
open Go.Proofs.YtlkmmplgfjicjaaGreat.Hc Go.Proofs.YtlkmmplgfjicjaaGreat.Hc.Vf
set_option maxRecDepth 100000
variable {H : Heap}

theorem Vec.pop {T : TypeId} {s : Sl} {vs : List Value} {x : Value} (h : Vec H T s (vs ++ [x])) : Vec H T ⟨s.a, vs.length, s.cap⟩ vs := by
  have hl := h.len
  have hc := h.lc
  rw [List.length_append, List.length_singleton] at hl
  refine ⟨rfl, ?_, by dsimp only; omega⟩
  rcases h.own with ⟨_, _, h3⟩ | ⟨b, sp, h1, h2, h3⟩
  · simp at h3
  · refine .inr ⟨b, x :: sp, h1, by simpa using h2, ?_⟩
    simp only [List.length_append, List.length_cons, List.length_nil] at h3 ⊢
    omega
abbrev natsV (T : List Nat) : List Value := T.map fun n => .int .i64 (n : Nat)
abbrev bolsV (bs : List Bool) : List Value := bs.map .bool
variable {lo f : Nat} {r : Rou} {fsl dl : Sl} {ms : List Value} {D : List (List Nat)} {ps : List Int}
theorem s_round (hF : FlowAt lo H f r fsl ps dl ms D) (hr : CodeR H r) (hn2 : r.code.length ≤ 2000) (hgood : ∀ i, i < r.code.length → isReached r.code ps i → wr r.code ps i = 0) {a0 : Nat} (ha0 : a0 < r.code.length) {k : Bool → Heap → Prop}
    (hk : ∀ b H', Ext H H' → (b = true ↔ WayI r.code ps a0 a0) → k b H') :
    CallT Pg f_verify_flow_round [.pointer (some (adr f)), .int .i64 (a0 : Nat)] (.one (.c .bool)) H k := by
  refine c_verify_flow_round _ _ ?_
  unfold v_verify_flow_round
  simp only [adr_add, NilCk_some]
  have hsl : hcell H ⟨f, 3, none⟩ = some (slV r.sl) := (hF.flow.cell 3).trans rfl
  refine Ld_sl (s := r.sl) hsl ?_
  rw [hr.len]
  refine Mks_row (by omega) (by omega) (by omega) fun lb H1 hlb hE1 _ hl1 => ?_
  rw [Int.toNat_natCast] at hl1 ⊢
  refine Nw_row (vs := [.int .i64 (a0 : Nat)]) fun b1 H2 hb1 hE2 _ hr2 => ?_
  have hE2' := hE1.trans hE2 fun _ _ h => h
  have z1 := hE1.size
  have z2 := hE2.size
  refine LoopT.ghost (fun m (s : Sl) H3 => ∃ (T : List Nat) (bs : List Bool), m = bs.count false + T.length ∧ bs.length = r.code.length ∧ (∀ t ∈ T, t < r.code.length) ∧ T.length ≤ 3000 - bs.count false ∧ Vec H3 T_int s (natsV T) ∧ (∀ b, s.a = some (adr b) → H.size ≤ b) ∧ Row H3 lb T_bool (bolsV bs) ∧ Ext H H3 ∧ RInv r.code ps a0 (fun y => bs[y]? = some true) (fun y => y ∈ T)) (r.code.length + 1)
    ⟨[a0], List.replicate r.code.length false, ?_, by simp, by simpa using ha0, ?_, ⟨rfl, .inr ⟨b1, [], rfl, by simpa using hr2, by simp⟩, Nat.le_refl _⟩, (fun b hb => by cases hb; omega), by have := hE2.row hl1 fun h => h; simpa [bolsV] using this, hE2', ⟨fun y hy => ?_, fun y hy => ?_, fun x hx => ?_⟩⟩ ?_
  · rw [List.count_replicate_self]; rfl
  · rw [List.count_replicate_self]; simp; omega
  · rw [List.getElem?_replicate] at hy
    split at hy <;> cases hy
  · exact .inl (by simpa using hy)
  · left
    rcases hx with rfl | hx
    · simp
    · rw [List.getElem?_replicate] at hx
      split at hx <;> cases hx
  rintro next m s H3 ⟨T, bs, rfl, hbl, hTb, hTl, hvT, hsb, hlb3, hE3, hInv⟩ hnext
  have hTlen := hvT.len
  rw [List.length_map] at hTlen
  refine Br_dec (fun hgo => ?_) fun hend => ?_
  · have hTne : T ≠ [] := fun e => by rw [e] at hTlen; simp at hTlen; omega
    obtain ⟨L, i, rfl⟩ : ∃ L i, T = L ++ [i] := ⟨_, _, (List.dropLast_concat_getLast hTne).symm⟩
    rw [List.length_append, List.length_singleton] at hTlen hTl
    have hib : i < r.code.length := hTb i (by simp)
    refine Jn_in (Lt.mk (u := ((L.length : Nat) : Int)) (by rw [wrap_i64_id] <;> omega) ?_)
    have hlc := hvT.lc
    have hi2 : L.length < (natsV (L ++ [i])).length := by simp
    refine IxA_vec hvT (by omega) (by omega) fun a2 ha2 _ => ?_
    have hcell : hcell H3 a2 = some (.int .i64 (i : Nat)) := by
      rw [ha2, Int.toNat_natCast]
      simp [natsV]
    refine Ld_int hcell (Lt.mk (u := ((L.length : Nat) : Int)) (by rw [wrap_i64_id] <;> omega) (SlA0 (by omega) (by omega) (Int.le_refl _) ?_))
    rw [Int.toNat_natCast, Int.toNat_natCast]
    have hvL : Vec H3 T_int ⟨s.a, L.length, s.cap⟩ (natsV L) := by
      have : Vec H3 T_int s (natsV L ++ [.int .i64 (i : Nat)]) := by simpa [natsV] using hvT
      have := Vec.pop this
      simpa using this
    have hMid := hInv.mid (k := i) (todo' := fun y => y ∈ L) (by simp) (by intro x; simp)
    have hidle : ∀ {Hx}, Ext H Hx → FlowAt lo Hx f r fsl ps dl ms D := fun hE => hF.ext hE
    refine s_idle (hidle hE3) (hr.ext hE3) hib fun bb H5 hE5 hbb => ?_
    have hE5' := hE3.trans hE5 fun _ _ h => h
    refine Br_not (Br.mk (fun hy => ?_) fun hy => ?_)
    · have hid := hbb.1 hy
      refine ld_rou (r := r) (hidle hE5').flow.rou (s_next (r := r) (hr.ext hE5') hib (by omega) fun ns H6 hE6 hns => ?_)
      have hE6' := hE5'.trans hE6 fun _ _ h => h
      have hnin := nexts_in hib (hgood i hib hid.1)
      have hnl := nexts_len r.code i
      have hnsl := hns.len
      rw [List.length_map] at hnsl
      have hnsR : RL (Value.int .i64) H6 ns (nexts r.code i) := hns.rl
      refine LoopT.mk (fun (s2 : Sl × Int) H7 => ∃ (q : Nat) (T2 : List Nat) (bs2 : List Bool), s2.2 = q ∧ q ≤ (nexts r.code i).length ∧ bs2.length = r.code.length ∧ (∀ t ∈ T2, t < r.code.length) ∧ bs2.count false + T2.length ≤ bs.count false + L.length ∧
          Vec H7 T_int s2.1 (natsV T2) ∧ (∀ b, s2.1.a = some (adr b) → H.size ≤ b) ∧ Row H7 lb T_bool (bolsV bs2) ∧ Ext H H7 ∧ Vec H7 T_int64 ns ((nexts r.code i).map (Value.int .i64)) ∧ RMid r.code ps a0 i (fun y => bs2[y]? = some true) (fun y => y ∈ T2) ∧
          ∀ e, e < q → ∃ y : Nat, (nexts r.code i)[e]! = y ∧ y ≠ a0 ∧ bs2[y]? = some true) (fun s2 _ => (nexts r.code i).length - s2.2.toNat)
        ⟨0, L, bs, rfl, Nat.zero_le _, hbl, fun t ht => hTb t (by simp [ht]), Nat.le_refl _, (hvL.ext hE5).ext hE6, hsb, (hE5.trans hE6 fun _ _ h => h).row hlb3 fun h => h, hE6', hns, hMid, fun e he => by omega⟩ ?_
      rintro next2 ⟨s2, _⟩ H7 ⟨q, T2, bs2, rfl, hq, hbl2, hTb2, hm2, hv2, hsb2, hlb7, hE7, hns7, hMid2, hdone⟩ hnext2
      dsimp only at hv2 hsb2 ⊢
      refine Br_dec (fun hlt => ?_) fun hge => ?_
      · have hq3 : q < (nexts r.code i).length := by omega
        refine Jn_in (IxA_rl hns7.rl rfl hq3 fun a4 ha4 => Ld_int (n := (nexts r.code i)[q]!) ?_ ?_)
        · rw [ha4, getElem!_pos _ q hq3]
        have hmem : (nexts r.code i)[q]! ∈ nexts r.code i := by rw [getElem!_pos _ q hq3]; exact List.getElem_mem hq3
        obtain ⟨y, hy⟩ : ∃ y : Nat, (nexts r.code i)[q]! = y := ⟨_, (Int.toNat_of_nonneg (hnin _ hmem).1).symm⟩
        have hyl := (hnin _ hmem).2
        rw [hy] at hmem hyl ⊢
        have hst : StepI r.code ps i y := ⟨hid, hmem⟩
        refine Br.mk (fun hb => ?_) fun hb => ?_
        · have hb := beqI hb
          have : y = a0 := by omega
          subst this
          exact hk _ _ hE7 ⟨fun _ => hMid2.one hst, fun _ => rfl⟩
        · have hb := bneI hb
          have hyl2 : y < bs2.length := by omega
          have hyb : (bolsV bs2)[y]? = some (.bool (bs2[y]!)) := by rw [List.getElem?_map, List.getElem?_eq_getElem hyl2, getElem!_pos bs2 y hyl2]; rfl
          refine IxA_adr (by omega) (by omega) ?_
          rw [Int.toNat_natCast, Nat.mul_one]
          refine Ld_bool (n := bs2[y]!) ((hlb7.cell y).trans hyb) (Jn_in (Br_not (Br.mk (fun hs => ?_) fun hs => ?_)))
          · -- seen
            refine Lt.mk (u := ((q + 1 : Nat) : Int)) (by rw [wrap_i64_id] <;> omega) (hnext2 _ _ ⟨q + 1, T2, bs2, rfl, hq3, hbl2, hTb2, hm2, hv2, hsb2, hlb7, hE7, hns7, hMid2, fun e he => ?_⟩ (by dsimp only; omega))
            rcases Nat.lt_or_ge e q with g | g
            · exact hdone e g
            · have : e = q := by omega
              subst this
              exact ⟨y, hy, by omega, by rw [List.getElem?_eq_getElem hyl2, ← getElem!_pos bs2 y hyl2, hs]⟩
          · refine IxA_adr (by omega) (by omega) ?_
            rw [Int.toNat_natCast, Nat.mul_one]
            refine St_row hlb7 (by simpa using hyl2) fun H10 hU10 hz10 hlb10 => Nw_row (vs := [.int .i64 (y : Nat)]) fun b2 H11 hb2 hE11 _ hr11 => ?_
            have hlb10' : Row H10 lb T_bool (bolsV (bs2.set y true)) := by unfold bolsV; rw [List.map_set]; exact hlb10
            have hlo : H.size ≤ lb := by omega
            have hv11 : Vec H11 T_int s2 (natsV T2) := (hv2.upd hU10 fun b hb => hv2.ne hb hlb7 (by decide)).ext hE11
            have hns11 : Vec H11 T_int64 ns ((nexts r.code i).map (Value.int .i64)) := (hns7.upd hU10 fun b hb => hns7.ne hb hlb7 (by decide)).ext hE11
            have hlb11 := hE11.row hlb10' fun h => h
            have hE11' : Ext H H11 := (hE7.trans hU10 fun b hb e => by omega).trans hE11 fun _ _ h => h
            have hcnt := set_count hyl2 hs
            have hT2l := hv2.len
            rw [List.length_map] at hT2l
            refine App_vec2 (ws := [.int .i64 (y : Nat)]) hv11 (Row.rd_all hr11) rfl (by simp [Value.oneCell']) (by omega) (by simp only [List.length_map, List.length_singleton]; omega) fun l3 H12 hv12 hU12 ha12 hz12 => ?_
            refine Lt.mk (u := ((q + 1 : Nat) : Int)) (by rw [wrap_i64_id] <;> omega) (hnext2 _ _ ⟨q + 1, T2 ++ [y], bs2.set y true, rfl, hq3, by simpa using hbl2, fun t ht => ?_, ?_, by simpa [natsV] using hv12, fun b hb => ?_, ?_, ?_, ?_, hMid2.add hst (fun z => set_some hyl2) (fun z => by simp), fun e he => ?_⟩ (by dsimp only; omega))
            · rcases List.mem_append.1 ht with g | g
              · exact hTb2 t g
              · rw [List.mem_singleton] at g; omega
            · rw [List.length_append, List.length_singleton]; omega
            · rcases ha12 with ⟨g, _⟩ | g
              · rw [g] at hb; exact hsb2 b hb
              · rw [g] at hb; cases hb; have := hE11'.size; omega
            · exact hU12.row hlb11 fun e => hv11.ne e.1 hlb11 (by decide) rfl
            · exact hE11'.trans hU12 fun b hb e => by have := hsb2 b e.1; omega
            · exact hns11.upd hU12 fun b hb e => (hns11.apV hv11 (by decide) hb e.1)
            · rcases Nat.lt_or_ge e q with g | g
              · obtain ⟨y', h1, h2, h3⟩ := hdone e g
                exact ⟨y', h1, h2, (set_some hyl2).2 (.inl h3)⟩
              · have : e = q := by omega
                subst this
                exact ⟨y, hy, by omega, (set_some hyl2).2 (.inr rfl)⟩
      · have hqe : q = (nexts r.code i).length := by omega
        subst hqe
        refine hnext (bs2.count false + T2.length) _ _ ?_ ⟨T2, bs2, rfl, hbl2, hTb2, by omega, hv2, hsb2, hlb7, hE7, hMid2.end' fun y hy => ?_⟩
        · rw [List.length_append, List.length_singleton]; omega
        · obtain ⟨e, he, hee⟩ := List.getElem_of_mem hy.2
          obtain ⟨y', h1, h2, h3⟩ := hdone e he
          rw [getElem!_pos _ e he, hee] at h1
          have : y = y' := by omega
          subst this; exact ⟨h2, h3⟩
    · have hid : ¬ idleP r.code ps i := fun h => by rw [hbb.2 h] at hy; cases hy
      refine hnext (bs.count false + L.length) _ _ ?_ ⟨L, bs, rfl, hbl, fun t ht => hTb t (by simp [ht]), by omega, hvL.ext hE5, hsb, hE5.row hlb3 fun h => h, hE5', hMid.end' fun y hy => absurd hy.1 hid⟩
      rw [List.length_append, List.length_singleton]; omega
  · have hT0 : T = [] := List.eq_nil_of_length_eq_zero (by omega)
    subst hT0
    exact hk _ _ hE3 ⟨fun h => (by cases h), fun h => absurd h (hInv.no fun x hx => (by cases hx))⟩
end Go.Proofs.YtlkmmplgfjicjaaGreat
/-
  Is it among the sets?
-/
namespace Go.Proofs.YtlkmmplgfjicjaaGreat
set_option linter.unusedVariables false
set_option linter.unusedSimpArgs false
open Go.Proofs.YtlkmmplgfjicjaaGreat.Hc Go.Proofs.YtlkmmplgfjicjaaGreat.Hc.Vf
set_option maxRecDepth 100000
variable {H : Heap}

theorem s_IndexI {s : Sl} {xs : List Int} {v : Int} (hs : RL (Value.int .i64) H s xs) (hl : xs.length ≤ 2 ^ 60) {k : Int → Heap → Prop} (hk : ∀ x, (0 ≤ x ↔ v ∈ xs) → k x H) : CallT Pg f_slices_Index_Sl_int_int [.slice s.a s.len s.cap, .int .i64 v] (.one (.c (.int .i64))) H k := by
  refine c_slices_Index_Sl_int_int _ _ ?_
  unfold v_slices_Index_Sl_int_int
  have hlen := hs.len
  refine LoopT.mk (fun i H' => H = H' ∧ ∃ n : Nat, i = n ∧ n ≤ xs.length ∧ ∀ j (h : j < xs.length), j < n → xs[j] ≠ v) (fun i _ => xs.length - i.toNat) ⟨rfl, 0, rfl, Nat.zero_le _, fun j _ hj => by omega⟩ ?_
  rintro next _ _ ⟨rfl, n, rfl, hn, hno⟩ hnext
  refine Br_dec (fun hlt => ?_) fun hge => hk _ ⟨fun h => by omega, fun h => ?_⟩
  · have hn2 : n < xs.length := by omega
    refine IxA_rl hs rfl hn2 fun a ha => Ld_int ha (Br.mk (fun h => hk _ ⟨fun _ => ?_, fun _ => by omega⟩) fun h => ?_)
    · rw [beqI h]; exact List.getElem_mem hn2
    · have h := bneI h
      refine Lt.mk (u := ((n + 1 : Nat) : Int)) (by rw [wrap_i64_id] <;> omega) (hnext _ _ ⟨rfl, n + 1, rfl, hn2, fun j hj hjn => ?_⟩ (by omega))
      rcases Nat.lt_or_ge j n with e | e
      · exact hno j hj e
      · have : j = n := by omega
        subst this; exact fun e => h e.symm
  · obtain ⟨j, hj, e⟩ := List.getElem_of_mem h
    exact absurd e (hno j hj (by omega))
theorem s_ContainsI {s : Sl} {xs : List Int} {v : Int} (hs : RL (Value.int .i64) H s xs) (hl : xs.length ≤ 2 ^ 60) {k : Bool → Heap → Prop} (hk : k (decide (v ∈ xs)) H) : CallT Pg f_slices_Contains_Sl_int_int [.slice s.a s.len s.cap, .int .i64 v] (.one (.c .bool)) H k := by
  refine c_slices_Contains_Sl_int_int _ _ ?_
  unfold v_slices_Contains_Sl_int_int
  refine s_IndexI hs hl fun x hx => ?_
  have : decide (x ≥ 0) = decide (v ∈ xs) := decide_eq_decide.2 hx
  rw [this]; exact hk
def outerB (op : Int) : Bool := decide (op ∈ [(4 : Int), 5, 25, 26, 27, 28, 29, 30, 35, 23])
theorem s_outer {op : Int} {k : Bool → Heap → Prop} (hk : ∀ H', Ext H H' → k (outerB op) H') : CallT Pg f_verify_outer [.int .i64 op] (.one (.c .bool)) H k := by
  refine c_verify_outer _ ?_
  unfold v_verify_outer
  refine Nw_row (vs := [(4 : Int), 5, 25, 26, 27, 28, 29, 30, 35, 23].map (Value.int .i64)) fun b1 H1 hb1 hE1 _ hr1 => ?_
  exact s_ContainsI (s := ⟨some (adr b1), 10, 10⟩) (xs := [(4 : Int), 5, 25, 26, 27, 28, 29, 30, 35, 23]) ⟨hr1.rd_all, rfl, Nat.le_refl _⟩ (by decide) (hk _ hE1)
theorem s_anyI {s : Sl} {xs : List Int} {f : Value} (hs : RL (Value.int .i64) H s xs) (hl : xs.length ≤ 2 ^ 60) (P : Int → Bool)
    (hf : ∀ x H' (K : Bool → Heap → Prop), Ext H H' → (∀ H'', Ext H' H'' → K (P x) H'') → CallX Pg f [.int .i64 x] (.one (.c .bool)) H' K) {k : Bool → Heap → Prop} (hk : ∀ H', Ext H H' → k (xs.any P) H') :
    CallT Pg f_slices_ContainsFunc_Sl_int_int [.slice s.a s.len s.cap, f] (.one (.c .bool)) H k := by
  refine c_slices_ContainsFunc_Sl_int_int _ _ ?_
  unfold v_slices_ContainsFunc_Sl_int_int
  refine c_slices_IndexFunc_Sl_int_int _ _ ?_
  unfold v_slices_IndexFunc_Sl_int_int
  have hlen := hs.len
  refine LoopT.mk (fun i H' => ∃ n : Nat, i = n ∧ n ≤ xs.length ∧ Ext H H' ∧ xs.any P = (xs.drop n).any P) (fun i _ => xs.length - i.toNat) ⟨0, rfl, Nat.zero_le _, .refl _ _, rfl⟩ ?_
  rintro next _ H1 ⟨n, rfl, hn, hE1, he⟩ hnext
  refine Br_dec (fun hlt => ?_) fun hge => ?_
  · have hn2 : n < xs.length := by omega
    rw [List.drop_eq_getElem_cons hn2, List.any_cons] at he
    refine IxA_rl (hs.ext hE1) rfl hn2 fun a ha => Ld_int ha (hf _ _ _ hE1 fun H2 hE2 => ?_)
    have hE2' := hE1.trans hE2 fun _ _ h => h
    refine Br.mk (fun h => ?_) fun h => ?_
    · have := hk _ hE2'
      rw [he, h, Bool.true_or] at this
      show k (decide ((n : Int) ≥ 0)) H2
      rwa [decide_eq_true (show (n : Int) ≥ 0 by omega)]
    · rw [h, Bool.false_or] at he
      exact Lt.mk (u := ((n + 1 : Nat) : Int)) (by rw [wrap_i64_id] <;> omega) (hnext _ _ ⟨n + 1, rfl, hn2, hE2', he⟩ (by omega))
  · rw [List.drop_eq_nil_of_le (by omega)] at he
    have := hk _ hE1
    rwa [he] at this
theorem s_anyL {s : Sl} {xs : List (Sl × List Int)} {f : Value} (hs : RL (fun x : Sl × List Int => slV x.1) H s xs) (hl : xs.length ≤ 2 ^ 60) (P : Sl × List Int → Bool)
    (hf : ∀ x, x ∈ xs → ∀ H' (K : Bool → Heap → Prop), Ext H H' → (∀ H'', Ext H' H'' → K (P x) H'') → CallX Pg f [.slice x.1.a x.1.len x.1.cap] (.one (.c .bool)) H' K) {k : Bool → Heap → Prop} (hk : ∀ H', Ext H H' → k (xs.any P) H') :
    CallT Pg f_slices_ContainsFunc_Sl_Sl_int_Sl_int [.slice s.a s.len s.cap, f] (.one (.c .bool)) H k := by
  refine c_slices_ContainsFunc_Sl_Sl_int_Sl_int _ _ ?_
  unfold v_slices_ContainsFunc_Sl_Sl_int_Sl_int
  refine c_slices_IndexFunc_Sl_Sl_int_Sl_int _ _ ?_
  unfold v_slices_IndexFunc_Sl_Sl_int_Sl_int
  have hlen := hs.len
  refine LoopT.mk (fun i H' => ∃ n : Nat, i = n ∧ n ≤ xs.length ∧ Ext H H' ∧ xs.any P = (xs.drop n).any P) (fun i _ => xs.length - i.toNat) ⟨0, rfl, Nat.zero_le _, .refl _ _, rfl⟩ ?_
  rintro next _ H1 ⟨n, rfl, hn, hE1, he⟩ hnext
  refine Br_dec (fun hlt => ?_) fun hge => ?_
  · have hn2 : n < xs.length := by omega
    rw [List.drop_eq_getElem_cons hn2, List.any_cons] at he
    refine IxA_rl (hs.ext hE1) rfl hn2 fun a ha => Ld_sl (s := (xs[n]).1) ha (hf _ (List.getElem_mem hn2) _ _ hE1 fun H2 hE2 => ?_)
    have hE2' := hE1.trans hE2 fun _ _ h => h
    refine Br.mk (fun h => ?_) fun h => ?_
    · have := hk _ hE2'
      rw [he, h, Bool.true_or] at this
      show k (decide ((n : Int) ≥ 0)) H2
      rwa [decide_eq_true (show (n : Int) ≥ 0 by omega)]
    · rw [h, Bool.false_or] at he
      exact Lt.mk (u := ((n + 1 : Nat) : Int)) (by rw [wrap_i64_id] <;> omega) (hnext _ _ ⟨n + 1, rfl, hn2, hE2', he⟩ (by omega))
  · rw [List.drop_eq_nil_of_le (by omega)] at he
    have := hk _ hE1
    rwa [he] at this
def declB (ks : List Ki) (a : Int) (ls : List (List Int)) : Bool := decide (0 ≤ a ∧ a.tmod 8 < fieldsI ks (IntKind.wrap .i64 (a.tdiv 8))) && ls.any fun l => decide (IntKind.wrap .i64 (a.tdiv 8) ∈ l)
theorem s_declared {c : Nat} {p : Sl × Sl} {ksl rsl s : Sl} {ks : List Ki} {xs : List (Sl × List Int)} (hc : CkR H c p ksl rsl) (hK : KdsR H ksl ks) (hs : RL (fun x : Sl × List Int => slV x.1) H s xs) (hl : xs.length ≤ 2 ^ 60)
    (hx : ∀ x ∈ xs, RL (Value.int .i64) H x.1 x.2 ∧ x.2.length ≤ 2 ^ 60) {a : Int} {k : Bool → Heap → Prop} (hk : ∀ H', Ext H H' → k (declB ks a (xs.map (·.2))) H') :
    CallT Pg f_verify_checker_declared [.pointer (some (adr c)), .int .i64 a, .slice s.a s.len s.cap] (.one (.c .bool)) H k := by
  refine c_verify_checker_declared _ _ _ ?_
  unfold v_verify_checker_declared
  refine Nw_row (vs := [.int .i64 a]) fun b1 H1 hb1 hE1 _ hr1 => ?_
  have ca : hcell H1 (adr b1) = some (.int .i64 a) := (hr1.cell 0).trans rfl
  refine Jn.mk (fun j H' => H1 = H' ∧ j = decide (¬ (0 ≤ a ∧ a.tmod 8 < fieldsI ks (IntKind.wrap .i64 (a.tdiv 8))))) (fun kk hkk => ?_) ?_
  · refine Ld_int ca (Br_dec (fun h => hkk _ _ ⟨rfl, (decide_eq_true (by omega)).symm⟩) fun h => Ld_int ca ⟨by omega, Ld_int ca ⟨by omega, s_fields (hE1.row hc fun h => h) (hK.ext hE1) (Stab_all (fun x hx => ?_) (hkk _ _ ⟨rfl, decide_eq_decide.2 (by omega)⟩))⟩⟩)
    simp only [List.mem_cons, List.not_mem_nil, or_false] at hx
    rcases hx with rfl | rfl | rfl <;> exact ca
  rintro j _ ⟨rfl, rfl⟩
  refine Br_dec (fun h => ?_) fun h => ?_
  · have := hk _ hE1
    unfold declB at this
    rwa [decide_eq_false h, Bool.false_and] at this
  · have h := Classical.not_not.1 h
    refine s_anyL (hs.ext hE1) hl (fun x => decide (IntKind.wrap .i64 (a.tdiv 8) ∈ x.2)) (fun x hxm H' K hE hK' => ⟨f_verify_checker_declared_1, #[], #[.pointer (some (adr b1))], rfl, ?_⟩) fun H' hE => ?_
    · show CallT Pg f_verify_checker_declared_1 [.slice x.1.a x.1.len x.1.cap, .pointer (some (adr b1))] _ _ _
      refine c_verify_checker_declared_1 x.1 (adr b1) ?_
      unfold v_verify_checker_declared_1
      refine Ld_int (n := a) (hE.cell ca fun h => h) ⟨by omega, s_ContainsI ((hx x hxm).1.ext (hE1.trans hE fun _ _ h => h)) (hx x hxm).2 (hK' _ (.refl _ _))⟩
    · have := hk _ (hE1.trans hE fun _ _ h => h)
      unfold declB at this
      rw [decide_eq_true h, Bool.true_and, List.any_map] at this
      exact this
end Go.Proofs.YtlkmmplgfjicjaaGreat
/-
  checker.sets.
-/
namespace Go.Proofs.YtlkmmplgfjicjaaGreat
set_option linter.unusedVariables false
set_option linter.unusedSimpArgs false
open Go.Proofs.YtlkmmplgfjicjaaGreat.Hc Go.Proofs.YtlkmmplgfjicjaaGreat.Hc.Vf
set_option maxRecDepth 100000
variable {H : Heap}

/-- A fault that came out, or none. -/
def FO (lo : Nat) (H : Heap) (q : Option Addr) : Option (Nat × Nat) → Prop
  | none => q = none
  | some (a, e) => ∃ g, q = some (adr g) ∧ lo ≤ g ∧ Row H g T_api_Fault [.int .i64 (a : Nat), .int .i64 (e : Nat)]
def setsBad (ks : List Ki) (x : Sy) : Bool := (List.range 4).any fun q => (x.l q).any fun y => decide (y > (ks.length : Int))
def setsO (ks : List Ki) (ss : List Sy) (fs : List Rou) : Option (Nat × Nat) := ((List.range ss.length).find? fun i => setsBad ks (ss[i]!)).map fun i => (sumL ((rousL ss fs).take i), 60)
structure CkAll (H : Heap) (c : Nat) (p : Sl × Sl) (ksl rsl : Sl) (ks : List Ki) (ss : List Sy) (fs : List Rou) (rts : List Rt) : Prop where
  ck : CkR H c p ksl rsl
  prg : PrgR H p ss fs
  kds : KdsR H ksl ks
  rt : RN rtV 6 H rsl rts
  rlen : rts.length = ss.length + fs.length
  rts' : ∀ j, j < rts.length → PRt H ss fs j (rts[j]!)
  may : MayP ss fs
theorem PRt.ext {H' : Heap} (hE : Ext H H') {ss : List Sy} {fs : List Rou} {j : Nat} {x : Rt} (h : PRt H ss fs j x) : PRt H' ss fs j x :=
  ⟨h.at_, h.rou, fun hj => by obtain ⟨a, h1, h2⟩ := h.sys hj; exact ⟨a, h1, hcells_upd hE (fun h => h) h2⟩, h.non⟩
theorem CkAll.ext {H' : Heap} (hE : Ext H H') {c : Nat} {p : Sl × Sl} {ksl rsl : Sl} {ks : List Ki} {ss : List Sy} {fs : List Rou} {rts : List Rt} (h : CkAll H c p ksl rsl ks ss fs rts) : CkAll H' c p ksl rsl ks ss fs rts :=
  ⟨hE.row h.ck fun h => h, h.prg.ext hE, h.kds.ext hE, h.rt.ext hE, h.rlen, fun j hj => (h.rts' j hj).ext hE, h.may⟩
theorem s_csets {c : Nat} {p : Sl × Sl} {ksl rsl : Sl} {ks : List Ki} {ss : List Sy} {fs : List Rou} {rts : List Rt} (h : CkAll H c p ksl rsl ks ss fs rts) {k : Option Addr → Heap → Prop}
    (hk : ∀ q H', Ext H H' → FO H.size H' q (setsO ks ss fs) → k q H') : CallT Pg f_verify_checker_sets [.pointer (some (adr c))] (.one (.c .ptr)) H k := by
  refine c_verify_checker_sets _ ?_
  unfold v_verify_checker_sets
  refine Nw_row (vs := [.pointer (some (adr c))]) fun b1 H1 hb1 hE1 _ hr1 => ?_
  have cb : ∀ {H'}, Ext H1 H' → hcell H' (adr b1) = some (.pointer (some (adr c))) := fun hE => ((hE.row hr1 fun h => h).cell 0).trans rfl
  have hck : ∀ {H'}, Ext H1 H' → CkAll H' c p ksl rsl ks ss fs rts := fun hE => h.ext (hE1.trans hE fun _ _ h => h)
  have e0 : Ext H1 H1 := .refl _ _
  have hsl := h.prg.sys.len
  have hm1 := h.may.1
  refine Ld_ptr (cb e0) ?_
  simp only [NilCk_some, adr_add]
  refine Ld_sl (s := p.1) (((hck e0).ck.cell 0).trans rfl) ?_
  refine LoopT.mk (fun (i : Int) H' => ∃ n : Nat, i = n ∧ n ≤ ss.length ∧ Ext H1 H' ∧ ∀ j, j < n → setsBad ks (ss[j]!) = false) (fun i _ => ss.length - i.toNat) ⟨0, rfl, Nat.zero_le _, e0, fun j hj => by omega⟩ ?_
  rintro next _ H2 ⟨n, rfl, hn, hE2, hno⟩ hnext
  refine Br_dec (fun hlt => ?_) fun hge => ?_
  · have hn3 : n < ss.length := by omega
    have hx : SyR H (ss[n]!) := h.prg.sysR _ (by rw [getElem!_pos ss n hn3]; exact List.getElem_mem hn3)
    refine IxA_rn' sysV_len (hck hE2).prg.sys (by omega) (j := n) rfl hn3 fun a ha => ?_
    generalize hxe : ss[n]! = x at *
    refine ld_sys ha (sys_copy (x := x) fun b2 H11 hb2 hE11 hr11 => ?_)
    refine Ld_sl (s := x.s 0) ((hr11.cell 0).trans rfl) (Ld_sl (s := x.s 1) ((hr11.cell 1).trans rfl) (Ld_sl (s := x.s 2) ((hr11.cell 2).trans rfl) (Ld_sl (s := x.s 3) ((hr11.cell 3).trans rfl) ?_)))
    refine Nw_row (vs := [slV (x.s 0), slV (x.s 1), slV (x.s 2), slV (x.s 3)]) fun b3 H12 hb3 hE12 _ hr12 => ?_
    have hE12' := hE2.trans (hE11.trans hE12 fun _ _ h => h) fun _ _ h => h
    refine LoopT.mk (fun (i : Int) H' => ∃ q : Nat, i = q ∧ q ≤ 4 ∧ Ext H12 H' ∧ ∀ e, e < q → ((x.l e).any fun y => decide (y > (ks.length : Int))) = false) (fun i _ => 4 - i.toNat) ⟨0, rfl, by omega, .refl _ _, fun e he => by omega⟩ ?_
    rintro next2 _ H13 ⟨q, rfl, hq, hE13, hq2⟩ hnext2
    have hE13' := hE12'.trans hE13 fun _ _ h => h
    refine Br_dec (fun hlt2 => ?_) fun hge2 => ?_
    · have hq3 : q < 4 := by omega
      refine IxA.mk rfl (by omega) (by simp only; omega) ?_
      rw [Int.toNat_natCast, adr_add, Nat.mul_one]
      have hcq : hcell H13 ⟨b3, q, none⟩ = some (slV (x.s q)) := by
        rw [(hE13.row hr12 fun h => h).cell]
        match q, hq3 with
        | 0, _ => rfl
        | 1, _ => rfl
        | 2, _ => rfl
        | 3, _ => rfl
      have hsq := (hx.ext (hE1.trans hE13' fun _ _ h => h)).sets q hq3
      refine Ld_sl (s := x.s q) hcq (s_anyI hsq (hx.lens q hq3) (fun y => decide (y > (ks.length : Int))) (fun y H' K hE hK' => ⟨f_verify_checker_sets_1, #[], #[.pointer (some (adr b1))], rfl, ?_⟩) fun H14 hE14 => ?_)
      · show CallT Pg f_verify_checker_sets_1 [.int .i64 y, .pointer (some (adr b1))] _ _ _
        refine c_verify_checker_sets_1 y (adr b1) ?_
        unfold v_verify_checker_sets_1
        have hE' := hE13'.trans hE fun _ _ h => h
        refine Ld_ptr (cb hE') ?_
        simp only [NilCk_some, adr_add]
        refine Ld_sl (s := ksl) (((hck hE').ck.cell 2).trans rfl) ?_
        rw [(hck hE').kds.rn.len]
        exact hK' _ (.refl _ _)
      · have hE14' := hE13'.trans hE14 fun _ _ h => h
        refine Br.mk (fun hb => ?_) fun hb => ?_
        · refine Ld_ptr (cb hE14') ?_
          simp only [NilCk_some, adr_add]
          have hall := hck hE14'
          have hnr : n < rts.length := by rw [h.rlen]; omega
          refine Ld_sl (s := rsl) ((hall.ck.cell 3).trans rfl) (IxA_rn' rtV_len hall.rt (by omega) (j := n) rfl hnr fun a ha => Ld_int (n := ((rts[n]!).at' : Nat)) ha.1 ?_)
          rw [(h.rts' n hnr).at_]
          refine s_vfault fun H15 g hg hE15 hrow => hk _ _ ((hE1.trans hE14' fun _ _ h => h).trans hE15 fun _ _ h => h) ?_
          have hbad : setsBad ks (ss[n]!) = true := by
            rw [hxe]; exact List.any_eq_true.2 ⟨q, List.mem_range.2 hq3, hb⟩
          have : (List.range ss.length).find? (fun i => setsBad ks (ss[i]!)) = some n := by
            rw [List.find?_range_eq_some]
            exact ⟨hbad, List.mem_range.2 hn3, fun j hj => by rw [hno j hj]; rfl⟩
          unfold setsO
          rw [this]
          have z1 := hE1.size
          have z14 := hE14'.size
          exact ⟨g, rfl, by omega, hrow⟩
        · refine Lt.mk (u := ((q + 1 : Nat) : Int)) (by rw [wrap_i64_id] <;> omega) (hnext2 _ _ ⟨q + 1, rfl, hq3, hE13.trans hE14 fun _ _ h => h, fun e he => ?_⟩ (by omega))
          rcases Nat.lt_or_ge e q with g | g
          · exact hq2 e g
          · have : e = q := by omega
            subst this; exact hb
    · refine Lt.mk (u := ((n + 1 : Nat) : Int)) (by rw [wrap_i64_id] <;> omega) (hnext _ _ ⟨n + 1, rfl, hn3, hE13', fun j hj => ?_⟩ (by omega))
      rcases Nat.lt_or_ge j n with g | g
      · exact hno j g
      · have : j = n := by omega
        subst this
        rw [hxe]
        exact List.any_eq_false.2 fun e he => by rw [hq2 e (by have := List.mem_range.1 he; omega)]; simp
  · have hne : n = ss.length := by omega
    subst hne
    refine hk _ _ (hE1.trans hE2 fun _ _ h => h) ?_
    have : (List.range ss.length).find? (fun i => setsBad ks (ss[i]!)) = none := by
      rw [List.find?_range_eq_none]
      intro j hj
      rw [hno j hj]; rfl
    unfold setsO
    rw [this]; rfl
end Go.Proofs.YtlkmmplgfjicjaaGreat
