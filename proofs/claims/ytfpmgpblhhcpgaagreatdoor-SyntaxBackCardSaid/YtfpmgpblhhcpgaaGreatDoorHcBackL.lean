/-
  A tree's tokens are read as that tree: statements.
-/
import Derived.Test.YtfpmgpblhhcpgaaGreatDoorHcBackE
import Derived.Test.YtfpmgpblhhcpgaaGreatDoorHcWf
namespace Go.Proofs.YtfpmgpblhhcpgaaGreatDoor.Hc.Syn
set_option linter.unusedVariables false
set_option linter.unusedSimpArgs false
set_option maxRecDepth 100000
section
open Go Hc Hc.Lex
variable {F : Nat}
def valK (v : Nd) : List KT := (1, v.tx) :: (3, [58]) :: exK (v.ks.headD .nil)
def partK (n : Nd) : List KT := (1, n.tx) :: (3, [123]) :: (comK true (n.ks.map valK) ++ [(3, [125])])
def simK : Nd → List KT
  | .nil => []
  | .mk op tx _ l _ =>
    if op = 10 then (1, [108, 101, 116]) :: (1, tx) :: (3, [61]) :: exK (l.headD .nil)
    else if op = 11 then (1, tx) :: (3, [61]) :: exK (l.headD .nil)
    else if op = 12 then (1, tx) :: (3, [46]) :: (1, (l.headD .nil).tx) :: (3, [61]) :: exK (l.tail.headD .nil)
    else if op = 16 then (1, [101, 109, 105, 116]) :: (exK (l.headD .nil) ++ ((3, [44]) :: exK (l.tail.headD .nil)))
    else if op = 17 then (1, [115, 112, 97, 119, 110]) :: comK true (l.map partK)
    else if op = 18 then (1, [97, 100, 100]) :: partK (l.headD .nil)
    else if op = 19 then [(1, [114, 101, 109, 111, 118, 101]), (1, tx)]
    else if op = 20 then [(1, [100, 105, 101])]
    else if op = 21 then [(1, [115, 116, 111, 112])]
    else if op = 22 then (1, [114, 101, 116, 117, 114, 110]) :: exK (l.headD .nil)
    else []
mutual
def stK : Nd → List KT
  | .nil => []
  | .mk op tx nm l a =>
    if op = 13 then (match l with
      | c :: b :: [] => (1, [105, 102]) :: (exK c ++ blkK b)
      | c :: b :: e :: _ => (1, [105, 102]) :: (exK c ++ (blkK b ++ ((1, [101, 108, 115, 101]) :: (if e.op = 13 then stK e else blkK e))))
      | _ => [])
    else if op = 14 then (match l with
      | c :: b :: _ => (1, [119, 104, 105, 108, 101]) :: (exK c ++ blkK b)
      | _ => [])
    else if op = 15 then (match l with
      | c :: b :: _ => (1, [114, 101, 112, 101, 97, 116]) :: (exK c ++ blkK b)
      | _ => [])
    else simK (.mk op tx nm l a) ++ [(3, [59])]
def blkK : Nd → List KT
  | .nil => []
  | .mk _ _ _ l _ => (3, [123]) :: (stsK l ++ [(3, [125])])
def stsK : List Nd → List KT
  | [] => []
  | n :: ns => stK n ++ stsK ns
end
theorem sk13 (tx : Txt) (nm : Int) (c b : Nd) (a : Int) : stK (.mk 13 tx nm [c, b] a) = (1, [105, 102]) :: (exK c ++ blkK b) := by
  conv => lhs; unfold stK
  rfl
theorem sk13e (tx : Txt) (nm : Int) (c b e : Nd) (a : Int) : stK (.mk 13 tx nm [c, b, e] a) = (1, [105, 102]) :: (exK c ++ (blkK b ++ ((1, [101, 108, 115, 101]) :: (if e.op = 13 then stK e else blkK e)))) := by
  conv => lhs; unfold stK
  rfl
theorem sk14 (tx : Txt) (nm : Int) (c b : Nd) (a : Int) : stK (.mk 14 tx nm [c, b] a) = (1, [119, 104, 105, 108, 101]) :: (exK c ++ blkK b) := by
  conv => lhs; unfold stK
  rfl
theorem sk15 (tx : Txt) (nm : Int) (c b : Nd) (a : Int) : stK (.mk 15 tx nm [c, b] a) = (1, [114, 101, 112, 101, 97, 116]) :: (exK c ++ blkK b) := by
  conv => lhs; unfold stK
  rfl
theorem sks {op : Int} (tx : Txt) (nm : Int) (l : List Nd) (a : Int) (h1 : op ≠ 13) (h2 : op ≠ 14) (h3 : op ≠ 15) : stK (.mk op tx nm l a) = simK (.mk op tx nm l a) ++ [(3, [59])] := by
  conv => lhs; unfold stK
  rw [if_neg h1, if_neg h2, if_neg h3]
theorem cp_partL : ∀ (f : Nat) (l acc : List Nd) (b : Bool) (s : PS) (R : List KT) (d m : Int), okL l → nmL l → (∀ n ∈ l, n.op = 24) → (b = true ∨ l = []) → At s (comK b (l.map valK) ++ ((3, [125]) :: R)) d m → d + ndL l ≤ 20 →
    Cp (partL F f acc s) fun l' s' => eraL l' = eraL acc ++ eraL l ∧ At s' ((3, [125]) :: R) d m
  | 0, _, _, _, _, _, _, _, _, _, _, _, _, _ => by left; rw [partL]
  | f + 1, [], acc, b, s, R, d, m, _, _, _, _, hat, hd => by
    rw [partL]
    have hat : At s ((3, [125]) :: R) d m := hat
    rw [hat.yes (.inr rfl)]
    exact Cp.ret ⟨by simp [eraL], hat⟩
  | f + 1, n :: l, acc, b, s, R, d, m, hk, hz, ho, hb, hat, hd => by
    rcases hb with rfl | hb
    · rw [partL]
      obtain ⟨op, tx, nm, k, a, rfl⟩ := hk.1.op
      have h24 : op = 24 := ho _ (List.mem_cons_self ..)
      subst h24
      obtain ⟨hn, x, rfl, hx, hxe⟩ := ok24 hk.1
      have h0 : nm = 0 := by rcases hz.1.1.2 with g | g; · cases g
                             · exact g
      subst h0
      have hat : At s ((1, tx) :: (3, [58]) :: (exK x ++ (comK false (l.map valK) ++ ((3, [125]) :: R)))) d m := by simpa [comK, valK, Nd.tx, Nd.ks, List.append_assoc] using hat
      simp only [ndL] at hd
      rw [ndo _ _ _ _ (by decide) (by decide) (by decide), if_neg (by decide)] at hd
      simp only [ndL] at hd
      rw [hat.no (nm_ne hn (by decide))]
      refine (cp_name hat hn).bind fun t s1 ⟨et, h1⟩ => (cp_must h1 (.inr rfl)).bind fun _ s2 ⟨_, h2⟩ => ?_
      refine (cp_ex hx hz.1.2.1 hxe h2 ?_ (by omega)).bind fun x' s3 ⟨ex, h3⟩ => ?_
      · cases l with
        | nil => exact nx_end 0
        | cons n' l => exact nx_end 0
      · have fin : ∀ s4, At s4 (comK true (l.map valK) ++ ((3, [125]) :: R)) d m → Cp (partL F f (acc ++ [texted 24 t [x']]) s4) fun l' s' => eraL l' = eraL acc ++ eraL (Nd.mk 24 tx 0 [x] a :: l) ∧ At s' ((3, [125]) :: R) d m := fun s4 h4 =>
          (cp_partL f l _ true s4 R d m hk.2 hz.2 (fun n hn => ho n (List.mem_cons_of_mem _ hn)) (.inl rfl) h4 (by omega)).mono fun l' s' ⟨e2, h5⟩ => ⟨by rw [e2, eraL_app]; simp [eraL, era, ex, et], h5⟩
        cases l with
        | nil =>
          have h3 : At s3 ((3, [125]) :: R) d m := h3
          rw [h3.yes (.inr rfl)]
          exact (Cp.ret (Q := fun _ s' => s' = s3) rfl).bind fun _ s4 e4 => fin s4 (by rw [e4]; exact h3)
        | cons n' l =>
          obtain ⟨op', tx', nm', k', a', rfl⟩ := hk.2.1.op
          have h24' : op' = 24 := ho (.mk op' tx' nm' k' a') (List.mem_cons_of_mem _ (List.mem_cons_self ..))
          subst h24'
          have hn' := (ok24 hk.2.1).1
          have h3 : At s3 ((3, [44]) :: (1, tx') :: ((3, [58]) :: exK (k'.headD .nil) ++ (comK false (l.map valK) ++ ((3, [125]) :: R)))) d m := by simpa [comK, valK, Nd.tx, Nd.ks, List.append_assoc] using h3
          rw [h3.no (by decide)]
          refine Cp.bind (P := fun _ s' => At s' ((1, tx') :: ((3, [58]) :: exK (k'.headD .nil) ++ (comK false (l.map valK) ++ ((3, [125]) :: R)))) d m) ?_ fun _ s4 h4 => fin s4 (by simpa [comK, valK, Nd.tx, Nd.ks, List.append_assoc] using h4)
          refine (cp_must h3 (.inr rfl)).bind fun _ s5 ⟨_, h5⟩ => ?_
          have : namedB s5 = true := by unfold namedB; rw [h5.hd.1, h5.hd.2, hn']; rfl
          rw [if_pos this]
          exact Cp.ret h5
    · cases hb
theorem cp_part {n : Nd} (hk : okN n) (hz : nmN n) (ho : n.op = 23) {s : PS} {R : List KT} {d m : Int} (hat : At s (partK n ++ R) d m) (hd : d + ndN n ≤ 20) : Cp (partP F s) (Ex n R d m) := by
  obtain ⟨op, tx, nm, l, a, rfl⟩ := hk.op
  have ho : op = 23 := ho
  subst ho
  obtain ⟨hn, hl⟩ := ok23 hk
  have h0 : nm = 0 := by rcases hz.1.2 with g | g; · cases g
                         · exact g
  subst h0
  have hat : At s ((1, tx) :: (3, [123]) :: (comK true (l.map valK) ++ ((3, [125]) :: R))) d m := by simpa [partK, Nd.tx, Nd.ks, List.append_assoc] using hat
  rw [ndo _ _ _ _ (by decide) (by decide) (by decide), if_pos (.inr (.inr rfl))] at hd
  unfold partP
  refine (cp_name hat hn).bind fun t s1 ⟨et, h1⟩ => (cp_down h1 (.inr rfl) (by omega)).bind fun _ s2 ⟨_, h2⟩ => ?_
  refine (cp_partL F l [] true s2 R (d + 1) m hk.2 hz.2 (fun n hn => (hl n hn).2) (.inl rfl) h2 (by omega)).bind fun l' s3 ⟨e3, h3⟩ => (cp_up h3 (.inr rfl)).bind fun _ s4 h4 => Cp.ret ⟨?_, h4⟩
  simp only [era, e3, et]; rfl
theorem cp_end {n : Nd} {s : PS} {R : List KT} {d m : Int} (hat : At s ((3, [59]) :: R) d m) : Cp (endP n s) fun n' s' => n' = n ∧ At s' R d m := by
  unfold endP
  exact (cp_must hat (.inr rfl)).bind fun _ s1 ⟨_, h1⟩ => Cp.ret ⟨rfl, h1⟩
theorem cp_spawnL : ∀ (f : Nat) (l acc : List Nd) (s : PS) (R : List KT) (d m : Int), okL l → nmL l → (∀ n ∈ l, n.op = 23) → At s (comK false (l.map partK) ++ ((3, [59]) :: R)) d m → d + ndL l ≤ 20 →
    Cp (spawnL F f acc s) fun l' s' => eraL l' = eraL acc ++ eraL l ∧ At s' ((3, [59]) :: R) d m
  | 0, _, _, _, _, _, _, _, _, _, _, _ => by left; rw [spawnL]
  | f + 1, [], acc, s, R, d, m, _, _, _, hat, hd => by
    rw [spawnL]
    have hat : At s ((3, [59]) :: R) d m := hat
    rw [hat.no (by decide)]
    exact Cp.ret ⟨by simp [eraL], hat⟩
  | f + 1, n :: l, acc, s, R, d, m, hk, hz, ho, hat, hd => by
    rw [spawnL]
    have hat : At s ((3, [44]) :: (partK n ++ (comK false (l.map partK) ++ ((3, [59]) :: R)))) d m := by simpa [comK, List.append_assoc] using hat
    rw [hat.yes (.inr rfl)]
    simp only [ndL] at hd
    refine (cp_part hk.1 hz.1 (ho n (by simp)) hat.take (by omega)).bind fun n' s1 ⟨e1, h1⟩ => ?_
    refine (cp_spawnL f l _ s1 R d m hk.2 hz.2 (fun n hn => ho n (List.mem_cons_of_mem _ hn)) h1 (by omega)).mono fun l' s' ⟨e2, h2⟩ => ⟨?_, h2⟩
    rw [e2, eraL_app]; simp [eraL, e1]
section
variable {tx : Txt} {nm a : Int} {l : List Nd} {s : PS} {R : List KT} {d m : Int}
theorem nm_zero {op : Int} (hz : nmN (.mk op tx nm l a)) (h : op ≠ 30) : nm = 0 := by
  rcases hz.1.2 with g | g
  · exact absurd g h
  · exact g
theorem cs10 (hk : okN (.mk 10 tx nm l a)) (hz : nmN (.mk 10 tx nm l a)) (hat : At s (simK (.mk 10 tx nm l a) ++ ((3, [59]) :: R)) d m) (hd : d + ndN (.mk 10 tx nm l a) ≤ 20) : Cp (letP F s) (Ex (.mk 10 tx nm l a) R d m) := by
  obtain ⟨hn, x, rfl, hx, hxe⟩ := ok10 hk
  obtain rfl := nm_zero hz (by decide)
  have hat : At s ((1, [108, 101, 116]) :: (1, tx) :: (3, [61]) :: (exK x ++ ((3, [59]) :: R))) d m := by simpa [simK] using hat
  rw [ndo _ _ _ _ (by decide) (by decide) (by decide), if_neg (by decide)] at hd
  simp only [ndL] at hd
  unfold letP
  refine (cp_name hat.take hn).bind fun t s1 ⟨et, h1⟩ => (cp_must h1 (.inr rfl)).bind fun _ s2 ⟨_, h2⟩ => (cp_ex hx hz.2.1 hxe h2 (nx_end 0) (by omega)).bind fun x' s3 ⟨ex, h3⟩ => (cp_end h3).mono fun n' s4 ⟨e4, h4⟩ => ⟨?_, h4⟩
  rw [e4]; simp [era, eraL, ex, et]
theorem cs11 (hk : okN (.mk 11 tx nm l a)) (hz : nmN (.mk 11 tx nm l a)) (hat : At s (simK (.mk 11 tx nm l a) ++ ((3, [59]) :: R)) d m) (hd : d + ndN (.mk 11 tx nm l a) ≤ 20) : Cp (setP F s) (Ex (.mk 11 tx nm l a) R d m) := by
  obtain ⟨hn, x, rfl, hx, hxe⟩ := ok11 hk
  obtain rfl := nm_zero hz (by decide)
  have hat : At s ((1, tx) :: (3, [61]) :: (exK x ++ ((3, [59]) :: R))) d m := by simpa [simK] using hat
  rw [ndo _ _ _ _ (by decide) (by decide) (by decide), if_neg (by decide)] at hd
  simp only [ndL] at hd
  unfold setP
  have et := hat.hd.2
  rw [hat.take.no (by decide)]
  refine (cp_must hat.take (.inr rfl)).bind fun _ s2 ⟨_, h2⟩ => (cp_ex hx hz.2.1 hxe h2 (nx_end 0) (by omega)).bind fun x' s3 ⟨ex, h3⟩ => (cp_end h3).mono fun n' s4 ⟨e4, h4⟩ => ⟨?_, h4⟩
  rw [e4]; simp [era, eraL, ex, et]
theorem cs12 (hk : okN (.mk 12 tx nm l a)) (hz : nmN (.mk 12 tx nm l a)) (hat : At s (simK (.mk 12 tx nm l a) ++ ((3, [59]) :: R)) d m) (hd : d + ndN (.mk 12 tx nm l a) ≤ 20) : Cp (setP F s) (Ex (.mk 12 tx nm l a) R d m) := by
  obtain ⟨hn, u, x, rfl, hu, hx, huo, hxe⟩ := ok12 hk
  obtain rfl := nm_zero hz (by decide)
  obtain ⟨op, ux, un, ul, ua, rfl⟩ := hu.op
  have huo : op = 31 := huo
  subst huo
  obtain ⟨hun, rfl⟩ := ok31 hu
  obtain rfl := nm_zero hz.2.1 (by decide)
  have hat : At s ((1, tx) :: (3, [46]) :: (1, ux) :: (3, [61]) :: (exK x ++ ((3, [59]) :: R))) d m := by simpa [simK, Nd.tx] using hat
  rw [ndo _ _ _ _ (by decide) (by decide) (by decide), if_neg (by decide)] at hd
  simp only [ndL] at hd
  unfold setP
  have et := hat.hd.2
  rw [hat.take.yes (.inr rfl)]
  refine (cp_name hat.take.take hun).bind fun t s1 ⟨eu, h1⟩ => (cp_must h1 (.inr rfl)).bind fun _ s2 ⟨_, h2⟩ => (cp_ex hx hz.2.2.1 hxe h2 (nx_end 0) (by omega)).bind fun x' s3 ⟨ex, h3⟩ => (cp_end h3).mono fun n' s4 ⟨e4, h4⟩ => ⟨?_, h4⟩
  rw [e4]; simp [era, eraL, ex, et, eu]
theorem cs16 (hk : okN (.mk 16 tx nm l a)) (hz : nmN (.mk 16 tx nm l a)) (hat : At s (simK (.mk 16 tx nm l a) ++ ((3, [59]) :: R)) d m) (hd : d + ndN (.mk 16 tx nm l a) ≤ 20) : Cp (emitP F s) (Ex (.mk 16 tx nm l a) R d m) := by
  obtain ⟨rfl, x, y, rfl, hx, hy, hxe, hye⟩ := ok16 hk
  obtain rfl := nm_zero hz (by decide)
  have hat : At s ((1, [101, 109, 105, 116]) :: (exK x ++ ((3, [44]) :: (exK y ++ ((3, [59]) :: R))))) d m := by simpa [simK, List.append_assoc] using hat
  rw [ndo _ _ _ _ (by decide) (by decide) (by decide), if_neg (by decide)] at hd
  simp only [ndL] at hd
  unfold emitP
  refine (cp_ex hx hz.2.1 hxe hat.take (nx_end 0) (by omega)).bind fun x' s1 ⟨ex, h1⟩ => (cp_must h1 (.inr rfl)).bind fun _ s2 ⟨_, h2⟩ => (cp_ex hy hz.2.2.1 hye h2 (nx_end 0) (by omega)).bind fun y' s3 ⟨ey, h3⟩ => (cp_end h3).mono fun n' s4 ⟨e4, h4⟩ => ⟨?_, h4⟩
  rw [e4]; simp [era, eraL, ex, ey]
theorem cs17 (hk : okN (.mk 17 tx nm l a)) (hz : nmN (.mk 17 tx nm l a)) (hat : At s (simK (.mk 17 tx nm l a) ++ ((3, [59]) :: R)) d m) (hd : d + ndN (.mk 17 tx nm l a) ≤ 20) : Cp (spawnP F s) (Ex (.mk 17 tx nm l a) R d m) := by
  obtain ⟨rfl, hl⟩ := ok17 hk
  obtain rfl := nm_zero hz (by decide)
  rw [ndo _ _ _ _ (by decide) (by decide) (by decide), if_neg (by decide)] at hd
  unfold spawnP
  cases l with
  | nil =>
    have hat : At s ((1, [115, 112, 97, 119, 110]) :: (3, [59]) :: R) d m := by simpa [simK, comK] using hat
    rw [hat.take.yes (.inr rfl)]
    exact Cp.ret ⟨rfl, hat.take.take⟩
  | cons n l =>
    have hat : At s ((1, [115, 112, 97, 119, 110]) :: (partK n ++ (comK false (l.map partK) ++ ((3, [59]) :: R)))) d m := by simpa [simK, comK, List.append_assoc] using hat
    simp only [ndL] at hd
    have hno : nextB [59] s.take = false := by
      obtain ⟨op, ux, un, ul, ua, rfl⟩ := hk.2.1.op
      have h23 : op = 23 := (hl _ (List.mem_cons_self ..)).2
      subst h23
      have hh : At s.take ((1, ux) :: ((3, [123]) :: (comK true (ul.map valK) ++ [(3, [125])]) ++ (comK false (l.map partK) ++ ((3, [59]) :: R)))) d m := hat.take
      exact hh.no (nm_ne (ok23 hk.2.1).1 (by decide))
    rw [hno]
    refine (cp_part hk.2.1 hz.2.1 (hl n (by simp)).2 hat.take (by omega)).bind fun n' s1 ⟨e1, h1⟩ => ?_
    refine (cp_spawnL F l [n'] s1 R d m hk.2.2 hz.2.2 (fun n hn => (hl n (List.mem_cons_of_mem _ hn)).2) h1 (by omega)).bind fun l' s2 ⟨e2, h2⟩ => (cp_end h2).mono fun n' s4 ⟨e4, h4⟩ => ⟨?_, h4⟩
    rw [e4]; simp [era, eraL, e2, e1]
theorem cs18 (hk : okN (.mk 18 tx nm l a)) (hz : nmN (.mk 18 tx nm l a)) (hat : At s (simK (.mk 18 tx nm l a) ++ ((3, [59]) :: R)) d m) (hd : d + ndN (.mk 18 tx nm l a) ≤ 20) : Cp (addP F s) (Ex (.mk 18 tx nm l a) R d m) := by
  obtain ⟨rfl, x, rfl, hx, hxo⟩ := ok18 hk
  obtain rfl := nm_zero hz (by decide)
  have hat : At s ((1, [97, 100, 100]) :: (partK x ++ ((3, [59]) :: R))) d m := by simpa [simK] using hat
  rw [ndo _ _ _ _ (by decide) (by decide) (by decide), if_neg (by decide)] at hd
  simp only [ndL] at hd
  unfold addP
  refine (cp_part hx hz.2.1 hxo hat.take (by omega)).bind fun x' s1 ⟨ex, h1⟩ => (cp_end h1).mono fun n' s4 ⟨e4, h4⟩ => ⟨?_, h4⟩
  rw [e4]; simp [era, eraL, ex]
theorem cs19 (hk : okN (.mk 19 tx nm l a)) (hz : nmN (.mk 19 tx nm l a)) (hat : At s (simK (.mk 19 tx nm l a) ++ ((3, [59]) :: R)) d m) : Cp (removeP s) (Ex (.mk 19 tx nm l a) R d m) := by
  obtain ⟨hn, rfl⟩ := ok19 hk
  obtain rfl := nm_zero hz (by decide)
  have hat : At s ((1, [114, 101, 109, 111, 118, 101]) :: (1, tx) :: (3, [59]) :: R) d m := by simpa [simK] using hat
  unfold removeP
  refine (cp_name hat.take hn).bind fun t s1 ⟨et, h1⟩ => (cp_end h1).mono fun n' s4 ⟨e4, h4⟩ => ⟨?_, h4⟩
  rw [e4]; simp [era, eraL, et]
theorem cs20 (hk : okN (.mk 20 tx nm l a)) (hz : nmN (.mk 20 tx nm l a)) (hat : At s (simK (.mk 20 tx nm l a) ++ ((3, [59]) :: R)) d m) : Cp (shortP s) (Ex (.mk 20 tx nm l a) R d m) := by
  obtain ⟨rfl, rfl⟩ := ok20 hk
  obtain rfl := nm_zero hz (by decide)
  have hat : At s ((1, [100, 105, 101]) :: (3, [59]) :: R) d m := by simpa [simK] using hat
  unfold shortP
  rw [hat.yes (.inl rfl)]
  exact (cp_end hat.take).mono fun n' s4 ⟨e4, h4⟩ => ⟨by rw [e4]; rfl, h4⟩
theorem cs21 (hk : okN (.mk 21 tx nm l a)) (hz : nmN (.mk 21 tx nm l a)) (hat : At s (simK (.mk 21 tx nm l a) ++ ((3, [59]) :: R)) d m) : Cp (shortP s) (Ex (.mk 21 tx nm l a) R d m) := by
  obtain ⟨rfl, rfl⟩ := ok21 hk
  obtain rfl := nm_zero hz (by decide)
  have hat : At s ((1, [115, 116, 111, 112]) :: (3, [59]) :: R) d m := by simpa [simK] using hat
  unfold shortP
  rw [hat.no (by decide)]
  exact (cp_end hat.take).mono fun n' s4 ⟨e4, h4⟩ => ⟨by rw [e4]; rfl, h4⟩
theorem cs22 (hk : okN (.mk 22 tx nm l a)) (hz : nmN (.mk 22 tx nm l a)) (hat : At s (simK (.mk 22 tx nm l a) ++ ((3, [59]) :: R)) d m) (hd : d + ndN (.mk 22 tx nm l a) ≤ 20) : Cp (answerP F s) (Ex (.mk 22 tx nm l a) R d m) := by
  obtain ⟨rfl, x, rfl, hx, hxe⟩ := ok22 hk
  obtain rfl := nm_zero hz (by decide)
  have hat : At s ((1, [114, 101, 116, 117, 114, 110]) :: (exK x ++ ((3, [59]) :: R))) d m := by simpa [simK] using hat
  rw [ndo _ _ _ _ (by decide) (by decide) (by decide), if_neg (by decide)] at hd
  simp only [ndL] at hd
  unfold answerP
  refine (cp_ex hx hz.2.1 hxe hat.take (nx_end 0) (by omega)).bind fun x' s3 ⟨ex, h3⟩ => (cp_end h3).mono fun n' s4 ⟨e4, h4⟩ => ⟨?_, h4⟩
  rw [e4]; simp [era, eraL, ex]
end
theorem stL_zero : ∀ {l : List Nd}, (∀ n ∈ l, stN n = 0) → stL l = 0
  | [], _ => rfl
  | n :: l, h => by simp only [stL]; rw [h n (List.mem_cons_self ..), stL_zero fun m hm => h m (List.mem_cons_of_mem _ hm)]
theorem cnt_mem : ∀ {l : List Nd} {x : Nd}, x ∈ l → cnt x ≤ cntL l
  | y :: l, x, hx => by
    simp only [cntL]
    rcases List.mem_cons.1 hx with rfl | hx
    · omega
    · have := cnt_mem hx; omega
theorem stE_aux : ∀ (k : Nat) (n : Nd), cnt n ≤ k → okN n → isE n → stN n = 0
  | 0, n, hc, hk, _ => by have := cnt_pos hk; omega
  | k + 1, n, hc, hk, he => by
    obtain ⟨op, tx, nm, l, a, rfl⟩ := hk.op
    have he : 30 ≤ op ∧ op ≤ 38 := he
    simp only [cnt] at hc
    simp only [stN]
    rw [if_neg (by omega)]
    have key : ∀ x ∈ l, isE x := by
      have h9 : op = 30 ∨ op = 31 ∨ op = 32 ∨ op = 33 ∨ op = 34 ∨ op = 35 ∨ op = 36 ∨ op = 37 ∨ op = 38 := by omega
      rcases h9 with rfl | rfl | rfl | rfl | rfl | rfl | rfl | rfl | rfl
      · rw [(ok30 hk).2.2]; intro x hx; cases hx
      · rw [(ok31 hk).2]; intro x hx; cases hx
      · obtain ⟨_, x, rfl, _, ho⟩ := ok32 hk
        intro y hy; rw [List.mem_singleton.1 hy, isE, ho]; decide
      · obtain ⟨_, x, y, rfl, _, _, h1, h2⟩ := ok33 hk
        intro z hz; simp only [List.mem_cons, List.not_mem_nil, or_false] at hz
        rcases hz with rfl | rfl
        · exact h1
        · exact h2
      · obtain ⟨_, x, rfl, _, h1⟩ := ok34 hk
        intro y hy; rw [List.mem_singleton.1 hy]; exact h1
      · obtain ⟨_, x, y, z, rfl, _, _, _, h1, h2, h3⟩ := ok35 hk
        intro w hw; simp only [List.mem_cons, List.not_mem_nil, or_false] at hw
        rcases hw with rfl | rfl | rfl
        · exact h1
        · exact h2
        · exact h3
      · exact fun x hx => ((ok36 hk).2 x hx).2
      · rw [(ok37 hk).2]; intro x hx; cases hx
      · rw [(ok38 hk).2]; intro x hx; cases hx
    rw [stL_zero fun x hx => stE_aux k x (by have := cnt_mem hx; omega) (okL_all hk.2 x hx) (key x hx)]
theorem stE_zero {n : Nd} (hk : okN n) (he : isE n) : stN n = 0 := stE_aux (cnt n) n (Nat.le_refl _) hk he
theorem stL_parts {l : List Nd} (h : ∀ n ∈ l, okN n ∧ n.op = 23) : stL l = 0 := stL_zero fun n hn => by
  obtain ⟨hk, ho⟩ := h n hn
  obtain ⟨op, tx, nm, k, a, rfl⟩ := hk.op
  have ho : op = 23 := ho
  subst ho
  simp only [stN]
  rw [if_neg (by decide), stL_zero]
  intro v hv
  obtain ⟨hkv, hov⟩ := (ok23 hk).2 v hv
  obtain ⟨op, tx, nm, k, a, rfl⟩ := hkv.op
  have ho : op = 24 := hov
  subst ho
  obtain ⟨_, x, rfl, hx, hxe⟩ := ok24 hkv
  simp [stN, stL, stE_zero hx hxe]
theorem starts_name {t : Txt} (h : isNameB t = true) : startsN t = 0 := by
  have h2 : ∀ c : Txt, isNameB c = false → t ≠ c := fun c hc => nm_ne h hc
  unfold startsN
  rw [if_neg (h2 _ (by decide)), if_neg (h2 _ (by decide)), if_neg (by rintro (g | g); exact h2 _ (by decide) g; exact h2 _ (by decide) g), if_neg (h2 _ (by decide)), if_neg (h2 _ (by decide)), if_neg (h2 _ (by decide)), if_neg (h2 _ (by decide)),
    if_neg (by rintro (g | g); exact h2 _ (by decide) g; exact h2 _ (by decide) g), if_neg (h2 _ (by decide))]
theorem stK_hd {n : Nd} (hk : okN n) (ho : 10 ≤ n.op ∧ n.op ≤ 22) : ∃ w K, stK n = (1, w) :: K ∧ w ≠ [125] ∧ w ≠ [101, 108, 115, 101] := by
  obtain ⟨op, tx, nm, l, a, rfl⟩ := hk.op
  have ho : 10 ≤ op ∧ op ≤ 22 := ho
  have h13 : op = 10 ∨ op = 11 ∨ op = 12 ∨ op = 13 ∨ op = 14 ∨ op = 15 ∨ op = 16 ∨ op = 17 ∨ op = 18 ∨ op = 19 ∨ op = 20 ∨ op = 21 ∨ op = 22 := by omega
  rcases h13 with rfl | rfl | rfl | rfl | rfl | rfl | rfl | rfl | rfl | rfl | rfl | rfl | rfl
  · rw [sks _ _ _ _ (by decide) (by decide) (by decide)]; exact ⟨_, _, rfl, by decide, by decide⟩
  · rw [sks _ _ _ _ (by decide) (by decide) (by decide)]; exact ⟨_, _, rfl, nm_ne (ok11 hk).1 (by decide), nm_ne (ok11 hk).1 (by decide)⟩
  · rw [sks _ _ _ _ (by decide) (by decide) (by decide)]; exact ⟨_, _, rfl, nm_ne (ok12 hk).1 (by decide), nm_ne (ok12 hk).1 (by decide)⟩
  · obtain ⟨_, c, b, _, _, _, _, rfl | ⟨e, rfl, _⟩⟩ := ok13 hk
    · rw [sk13]; exact ⟨_, _, rfl, by decide, by decide⟩
    · rw [sk13e]; exact ⟨_, _, rfl, by decide, by decide⟩
  · obtain ⟨_, c, b, rfl, _⟩ := ok14 hk
    rw [sk14]; exact ⟨_, _, rfl, by decide, by decide⟩
  · obtain ⟨_, c, b, rfl, _⟩ := ok15 hk
    rw [sk15]; exact ⟨_, _, rfl, by decide, by decide⟩
  · rw [sks _ _ _ _ (by decide) (by decide) (by decide)]; exact ⟨_, _, rfl, by decide, by decide⟩
  · rw [sks _ _ _ _ (by decide) (by decide) (by decide)]; exact ⟨_, _, rfl, by decide, by decide⟩
  · rw [sks _ _ _ _ (by decide) (by decide) (by decide)]; exact ⟨_, _, rfl, by decide, by decide⟩
  · rw [sks _ _ _ _ (by decide) (by decide) (by decide)]; exact ⟨_, _, rfl, by decide, by decide⟩
  · rw [sks _ _ _ _ (by decide) (by decide) (by decide)]; exact ⟨_, _, rfl, by decide, by decide⟩
  · rw [sks _ _ _ _ (by decide) (by decide) (by decide)]; exact ⟨_, _, rfl, by decide, by decide⟩
  · rw [sks _ _ _ _ (by decide) (by decide) (by decide)]; exact ⟨_, _, rfl, by decide, by decide⟩
def Nr (R : List KT) : Prop := ∃ k w R', R = (k, w) :: R' ∧ w ≠ [101, 108, 115, 101]
theorem At.more {s : PS} {K : List KT} {d m : Int} (h : At s K d m) : At s.more K d (m + 1) := ⟨h.t, h.d, by show s.stmts + 1 = m + 1; rw [h.m]⟩
abbrev St (n : Nd) (R : List KT) (d m : Int) : Nd → PS → Prop := fun n' s' => era n' = era n ∧ At s' R d m
structure BS (F : Nat) (n : Nd) : Prop where
  block : n.op = 5 → ∀ (f : Nat) (s : PS) (R : List KT) (d m : Int), At s (blkK n ++ R) d m → d + ndN n ≤ 20 → m + stN n ≤ 200 → Cp (blockP F f s) (St n R d (m + stN n))
  stmt : 10 ≤ n.op → n.op ≤ 22 → ∀ (f : Nat) (s : PS) (R : List KT) (d m : Int), At s (stK n ++ R) d m → Nr R → d + ndN n ≤ 20 → m + stN n ≤ 200 → Cp (stmtP F f s) (St n R d (m + stN n))
  branch : n.op = 13 → ∀ (f : Nat) (s : PS) (R : List KT) (d m : Int), At s (stK n ++ R) d m → Nr R → d + ndN n ≤ 20 → m + stN n ≤ 201 → Cp (branchP F f s) (St n R d (m + stN n - 1))
theorem cp_stmts {n' : Nat} : ∀ (f : Nat) (l acc : List Nd) (s : PS) (R : List KT) (d m : Int), (∀ n ∈ l, BS F n) → okL l → (∀ n ∈ l, 10 ≤ n.op ∧ n.op ≤ 22) → At s (stsK l ++ ((3, [125]) :: R)) d m → d + ndL l ≤ 20 → m + stL l ≤ 200 →
    Cp (stmtsL F f acc s) fun l' s' => eraL l' = eraL acc ++ eraL l ∧ At s' ((3, [125]) :: R) d (m + stL l)
  | 0, _, _, _, _, _, _, _, _, _, _, _, _ => by left; rw [stmtsL]
  | f + 1, [], acc, s, R, d, m, _, _, _, hat, hd, hm => by
    rw [stmtsL]
    have hat : At s ((3, [125]) :: R) d m := hat
    rw [hat.yes (.inr rfl)]
    exact Cp.ret ⟨by simp [eraL], by simpa [stL] using hat⟩
  | f + 1, n :: l, acc, s, R, d, m, hb, hk, ho, hat, hd, hm => by
    rw [stmtsL]
    have hat : At s (stK n ++ (stsK l ++ ((3, [125]) :: R))) d m := by simpa [stsK, List.append_assoc] using hat
    obtain ⟨w, K, e, h1, h2⟩ := stK_hd hk.1 (ho n (by simp))
    have hat' := hat
    rw [e] at hat'
    rw [hat'.no h1]
    simp only [ndL] at hd
    simp only [stL] at hm ⊢
    have hnr : Nr (stsK l ++ ((3, [125]) :: R)) := by
      cases l with
      | nil => exact ⟨3, [125], R, rfl, by decide⟩
      | cons n2 l =>
        obtain ⟨w, K, e, _, h2⟩ := stK_hd hk.2.1 (ho n2 (by simp))
        exact ⟨1, w, K ++ stsK l ++ ((3, [125]) :: R), by rw [stsK, e]; simp, h2⟩
    refine ((hb n (by simp)).stmt (ho n (by simp)).1 (ho n (by simp)).2 f s _ d m hat hnr (by omega) (by omega)).bind fun n2 s1 ⟨e1, h1⟩ => ?_
    refine (cp_stmts (n' := n') f l _ s1 R d (m + stN n) (fun x hx => hb x (List.mem_cons_of_mem _ hx)) hk.2 (fun x hx => ho x (List.mem_cons_of_mem _ hx)) h1 (by omega) (by omega)).mono fun l' s' ⟨e2, h2⟩ => ⟨?_, ?_⟩
    · rw [e2, eraL_app]; simp [eraL, e1]
    · rw [show m + ((stN n + stL l : Nat) : Int) = m + stN n + stL l by omega]; exact h2
theorem bs_main (F : Nat) : ∀ (k : Nat) (n : Nd), cnt n ≤ k → okN n → nmN n → BS F n
  | 0, n, hc, hk, _ => by have := cnt_pos hk; omega
  | k + 1, n, hc, hk, hz => by
    obtain ⟨op, tx, nm, l, a, rfl⟩ := hk.op
    simp only [cnt] at hc
    have hcl : ∀ x ∈ l, cnt x ≤ cntL l := by
      intro x hx
      clear hc hk hz
      induction l with
      | nil => cases hx
      | cons y l ih =>
        simp only [cntL]
        rcases List.mem_cons.1 hx with rfl | hx
        · omega
        · have := ih hx; omega
    have ih : ∀ x ∈ l, BS F x := fun x hx => bs_main F k x (by have := hcl x hx; omega) (okL_all hk.2 x hx) (nmL_all hz.2 x hx)
    have hbr : op = 13 → ∀ (f : Nat) (s : PS) (R : List KT) (d m : Int), At s (stK (.mk op tx nm l a) ++ R) d m → Nr R → d + ndN (.mk op tx nm l a) ≤ 20 → m + stN (.mk op tx nm l a) ≤ 201 → Cp (branchP F f s) (St (.mk op tx nm l a) R d (m + stN (.mk op tx nm l a) - 1)) := by
      intro ho f s R d m hat hnr hd hm
      subst ho
      obtain rfl := nm_zero hz (by decide)
      obtain ⟨rfl, c, b, hc', hce, hb', hbo, hl⟩ := ok13 hk
      rw [ndo _ _ _ _ (by decide) (by decide) (by decide), if_neg (by decide)] at hd
      have hst : stN (.mk 13 [] 0 l a) = 1 + stL l := by simp only [stN]; rw [if_pos (by decide)]
      rw [hst] at hm ⊢
      have hbhd : ∃ R2, ∀ X : List KT, blkK b ++ X = (3, [123]) :: (R2 ++ X) := by
        obtain ⟨o, t, q, u, v, rfl⟩ := hb'.op
        exact ⟨stsK u ++ [(3, [125])], fun X => by simp [blkK]⟩
      obtain ⟨R2, hR2⟩ := hbhd
      have sc : ∀ {x : Nd}, okN x → isE x → stN x = 0 := fun {x} hx he => stE_zero hx he
      cases f with
      | zero => left; rw [branchP]
      | succ f =>
      rw [branchP]
      rcases hl with rfl | ⟨e, rfl, he', heo⟩
      · have hat : At s ((1, [105, 102]) :: (exK c ++ (blkK b ++ R))) d m := by rw [sk13] at hat; simpa [List.append_assoc] using hat
        simp only [ndL] at hd
        simp only [stL, sc hc' hce] at hm ⊢
        refine (cp_ex hc' hz.2.1 hce hat.take (by rw [hR2]; exact nx_end 0) (by omega)).bind fun c' s1 ⟨ec, h1⟩ => ?_
        refine ((ih b (by simp)).block hbo f s1 R d m h1 (by omega) (by omega)).bind fun b' s2 ⟨eb, h2⟩ => ?_
        obtain ⟨k0, w0, R0, rfl, hw0⟩ := hnr
        rw [h2.no hw0]
        refine Cp.ret ⟨?_, ?_⟩
        · simp [era, eraL, ec, eb]
        · rw [show m + ((1 + (0 + (stN b + 0)) : Nat) : Int) - 1 = m + stN b by omega]; exact h2
      · have hat : At s ((1, [105, 102]) :: (exK c ++ (blkK b ++ ((1, [101, 108, 115, 101]) :: ((if e.op = 13 then stK e else blkK e) ++ R))))) d m := by rw [sk13e] at hat; simpa [List.append_assoc] using hat
        simp only [ndL] at hd
        simp only [stL, sc hc' hce] at hm ⊢
        refine (cp_ex hc' hz.2.1 hce hat.take (by rw [hR2]; exact nx_end 0) (by omega)).bind fun c' s1 ⟨ec, h1⟩ => ?_
        refine ((ih b (by simp)).block hbo f s1 _ d m h1 (by omega) (by omega)).bind fun b' s2 ⟨eb, h2⟩ => ?_
        rw [h2.yes (.inl rfl)]
        have h3 := h2.take
        rw [if_pos rfl]
        rcases heo with heo | heo
        · rw [if_neg (by omega)] at h3
          have hno : nextB [105, 102] s2.take = false := by
            obtain ⟨o, t, q, u, v, rfl⟩ := he'.op
            have h3' : At s2.take ((3, [123]) :: ((stsK u ++ [(3, [125])]) ++ R)) d (m + stN b) := h3
            exact h3'.no (by decide)
          rw [hno]
          refine ((ih e (by simp)).block heo f s2.take R d (m + stN b) h3 (by omega) (by omega)).bind fun e' s4 ⟨ee, h4⟩ => Cp.ret ⟨?_, ?_⟩
          · simp [era, eraL, ec, eb, ee]
          · rw [show m + ((1 + (0 + (stN b + (stN e + 0))) : Nat) : Int) - 1 = m + stN b + stN e by omega]; exact h4
        · rw [if_pos heo] at h3
          have hse : 1 ≤ stN e := by
            obtain ⟨o, t, q, u, v, rfl⟩ := he'.op
            have : o = 13 := heo
            subst this
            simp only [stN]; rw [if_pos (by decide)]; omega
          have hy : nextB [105, 102] s2.take = true := by
            obtain ⟨o, t, q, u, v, rfl⟩ := he'.op
            have : o = 13 := heo
            subst this
            obtain ⟨_, c2, b2, _, _, _, _, hl2⟩ := ok13 he'
            rcases hl2 with rfl | ⟨e2, rfl, _⟩
            · rw [sk13] at h3
              have h3' : At s2.take ((1, [105, 102]) :: ((exK c2 ++ blkK b2) ++ R)) d (m + stN b) := h3
              exact h3'.yes (.inl rfl)
            · rw [sk13e] at h3
              have h3' : At s2.take ((1, [105, 102]) :: ((exK c2 ++ (blkK b2 ++ ((1, [101, 108, 115, 101]) :: (if e2.op = 13 then stK e2 else blkK e2)))) ++ R)) d (m + stN b) := h3
              exact h3'.yes (.inl rfl)
          rw [hy, if_pos rfl]
          have hlim : limitP s2.stmts 200 s2.take = retP () s2.take := by unfold limitP; rw [if_neg (by rw [h2.m]; omega)]
          rw [hlim]
          show Cp (((branchP F f s2.take.more).bind fun e s4 => retP (node 13 s.hd [c', b', e]) s4)) _
          refine ((ih e (by simp)).branch heo f s2.take.more R d (m + stN b + 1) h3.more hnr (by omega) (by omega)).bind fun e' s4 ⟨ee, h4⟩ => Cp.ret ⟨?_, ?_⟩
          · simp [era, eraL, ec, eb, ee]
          · rw [show m + ((1 + (0 + (stN b + (stN e + 0))) : Nat) : Int) - 1 = m + stN b + 1 + stN e - 1 by omega]; exact h4
    refine ⟨fun ho => ?_, fun ho1 ho2 => ?_, hbr⟩
    · have ho : op = 5 := ho
      subst ho
      intro f s R d m hat hd hm
      obtain ⟨rfl, hl⟩ := ok5 hk
      obtain rfl := nm_zero hz (by decide)
      have hat : At s ((3, [123]) :: (stsK l ++ ((3, [125]) :: R))) d m := by simpa [blkK, List.append_assoc] using hat
      rw [ndo _ _ _ _ (by decide) (by decide) (by decide), if_pos (.inr (.inl rfl))] at hd
      have hst : stN (.mk 5 [] 0 l a) = stL l := by simp only [stN]; rw [if_neg (by decide)]; omega
      rw [hst] at hm ⊢
      cases f with
      | zero => left; rw [blockP]
      | succ f =>
        rw [blockP]
        refine (cp_down hat (.inr rfl) (by omega)).bind fun t s1 ⟨_, h1⟩ => ?_
        refine (cp_stmts (n' := 0) f l [] s1 R (d + 1) m ih hk.2 (fun n hn => (hl n hn).2) h1 (by omega) hm).bind fun l' s2 ⟨e2, h2⟩ => (cp_up h2 (.inr rfl)).bind fun _ s3 h3 => Cp.ret ⟨?_, h3⟩
        simp only [era, e2]; rfl
    · intro f s R d m hat hnr hd hm
      have ho1 : 10 ≤ op := ho1
      have ho2 : op ≤ 22 := ho2
      cases f with
      | zero => left; rw [stmtP]
      | succ f =>
        rw [stmtP]
        have hst : stN (.mk op tx nm l a) = 1 + stL l := by simp only [stN]; rw [if_pos ⟨ho1, ho2⟩]
        have hlim : limitP s.stmts 200 s = retP () s := by unfold limitP; rw [if_neg (by rw [hat.m]; omega)]
        rw [hlim]
        have go : ∀ {w : Txt} {K : List KT} (j : Nat), stK (.mk op tx nm l a) = (1, w) :: K → startsN w = j → (j ≠ 0 ∨ isNameB w = true) → ∀ {Q : Nd → PS → Prop},
            Cp (match j with
              | 161 => letP F s.more
              | 162 => branchP F f s.more
              | 163 => turnsP F f s.more
              | 164 => emitP F s.more
              | 165 => spawnP F s.more
              | 166 => addP F s.more
              | 167 => removeP s.more
              | 168 => shortP s.more
              | 169 => answerP F s.more
              | _ => setP F s.more) Q →
            Cp (if s.hd.kind ≠ 1 ∨ (startsN s.hd.text = 0 ∧ namedB s = false) then failP 100 s else (retP () s).bind fun _ s =>
              match startsN s.hd.text with
              | 161 => letP F s.more
              | 162 => branchP F f s.more
              | 163 => turnsP F f s.more
              | 164 => emitP F s.more
              | 165 => spawnP F s.more
              | 166 => addP F s.more
              | 167 => removeP s.more
              | 168 => shortP s.more
              | 169 => answerP F s.more
              | _ => setP F s.more) Q := by
          intro w K j e hj hn Q hq
          rw [e] at hat
          have hat : At s ((1, w) :: (K ++ R)) d m := hat
          have e1 := hat.hd.1
          have e2 := hat.hd.2
          rw [if_neg]
          · show Cp (match startsN s.hd.text with
              | 161 => letP F s.more
              | 162 => branchP F f s.more
              | 163 => turnsP F f s.more
              | 164 => emitP F s.more
              | 165 => spawnP F s.more
              | 166 => addP F s.more
              | 167 => removeP s.more
              | 168 => shortP s.more
              | 169 => answerP F s.more
              | _ => setP F s.more) Q
            rw [e2, hj]; exact hq
          · rintro (g | ⟨g1, g2⟩)
            · exact g e1
            · rw [e2, hj] at g1
              rcases hn with h | h
              · exact h g1
              · unfold namedB at g2; rw [e1, e2, h] at g2; cases g2
        have sim : op ≠ 13 → op ≠ 14 → op ≠ 15 → At s.more (simK (.mk op tx nm l a) ++ ((3, [59]) :: R)) d (m + 1) := fun g1 g2 g3 => by
          have := hat.more
          rw [sks _ _ _ _ g1 g2 g3] at this
          simpa [List.append_assoc] using this
        have skm : op ≠ 13 → op ≠ 14 → op ≠ 15 → stL l = 0 → ∀ {r : Go.Proofs.YtfpmgpblhhcpgaaGreatDoor.Hc.Syn.R Nd}, Cp r (Ex (.mk op tx nm l a) R d (m + 1)) → Cp r (St (.mk op tx nm l a) R d (m + stN (.mk op tx nm l a))) := fun g1 g2 g3 hs r hr => by
          rw [hst, hs]; exact hr
        have turns : ∀ (w : Txt) (c b : Nd), okN c → nmN c → isE c → okN b → b.op = 5 → l = [c, b] → At s ((1, w) :: (exK c ++ (blkK b ++ R))) d m → d + ndL l ≤ 20 → Cp (turnsP F f s.more) fun n' s' => era n' = Nd.mk (if nextB [119, 104, 105, 108, 101] s then 14 else 15) [] 0 (eraL [c, b]) 0 ∧ At s' R d (m + (1 + stL l : Nat)) := by
          intro w c b hc' hzc hce hb' hbo hl hat2 hd2
          subst hl
          simp only [ndL] at hd2
          have hst' : stL [c, b] = stN b := by simp only [stL, stE_zero hc' hce]; omega
          rw [hst, hst'] at hm
          cases f with
          | zero => left; rw [turnsP]
          | succ f =>
            rw [turnsP]
            have hbhd : ∃ R2, ∀ X : List KT, blkK b ++ X = (3, [123]) :: (R2 ++ X) := by
              obtain ⟨o, t, q, u, v, rfl⟩ := hb'.op
              exact ⟨stsK u ++ [(3, [125])], fun X => by simp [blkK]⟩
            obtain ⟨R2, hR2⟩ := hbhd
            have h0 : At s.more.take (exK c ++ (blkK b ++ R)) d (m + 1) := hat2.more.take
            have hnx : Nx 0 (blkK b ++ R) := by rw [hR2]; exact nx_end 0
            refine (cp_ex hc' hzc hce h0 hnx (by omega)).bind fun c' s1 ⟨ec, h1⟩ => ?_
            refine ((ih b (by simp)).block hbo f s1 R d (m + 1) h1 (by omega) (by omega)).bind fun b' s2 ⟨eb, h2⟩ => Cp.ret ⟨?_, ?_⟩
            · simp only [era, eraL, ec, eb]; rfl
            · rw [hst', show m + ((1 + stN b : Nat) : Int) = m + 1 + stN b by omega]; exact h2
        have h13 : op = 10 ∨ op = 11 ∨ op = 12 ∨ op = 13 ∨ op = 14 ∨ op = 15 ∨ op = 16 ∨ op = 17 ∨ op = 18 ∨ op = 19 ∨ op = 20 ∨ op = 21 ∨ op = 22 := by omega
        rcases h13 with rfl | rfl | rfl | rfl | rfl | rfl | rfl | rfl | rfl | rfl | rfl | rfl | rfl
        · obtain ⟨_, x, hl, hx, hxe⟩ := ok10 hk
          exact go 161 (sks _ _ _ _ (by decide) (by decide) (by decide)) (by decide) (.inl (by decide)) (skm (by decide) (by decide) (by decide) (by rw [hl]; simp [stL, stE_zero hx hxe]) (cs10 hk hz (sim (by decide) (by decide) (by decide)) hd))
        · obtain ⟨hn, x, hl, hx, hxe⟩ := ok11 hk
          exact go 0 (sks _ _ _ _ (by decide) (by decide) (by decide)) (starts_name hn) (.inr hn) (skm (by decide) (by decide) (by decide) (by rw [hl]; simp [stL, stE_zero hx hxe]) (cs11 hk hz (sim (by decide) (by decide) (by decide)) hd))
        · obtain ⟨hn, u, x, hl, hu, hx, huo, hxe⟩ := ok12 hk
          exact go 0 (sks _ _ _ _ (by decide) (by decide) (by decide)) (starts_name hn) (.inr hn) (skm (by decide) (by decide) (by decide) (by rw [hl]; simp [stL, stE_zero hx hxe, stE_zero hu (by rw [isE, huo]; decide)]) (cs12 hk hz (sim (by decide) (by decide) (by decide)) hd))
        · obtain ⟨w, K, e, _⟩ := stK_hd hk (by show (10 : Int) ≤ 13 ∧ (13 : Int) ≤ 22; decide)
          have hw : w = [105, 102] := by
            obtain ⟨_, c, b, _, _, _, _, rfl | ⟨e2, rfl, _⟩⟩ := ok13 hk
            · rw [sk13] at e; simp only [List.cons.injEq, Prod.mk.injEq] at e; exact e.1.2.symm
            · rw [sk13e] at e; simp only [List.cons.injEq, Prod.mk.injEq] at e; exact e.1.2.symm
          subst hw
          refine go 162 e (by decide) (.inl (by decide)) ?_
          have := hbr rfl f s.more R d (m + 1) hat.more hnr hd (by omega)
          rw [show m + 1 + (stN (.mk 13 tx nm l a) : Int) - 1 = m + stN (.mk 13 tx nm l a) by omega] at this
          exact this
        · obtain ⟨rfl, c, b, hl, hc', hce, hb', hbo⟩ := ok14 hk
          obtain rfl := nm_zero hz (by decide)
          rw [ndo _ _ _ _ (by decide) (by decide) (by decide), if_neg (by decide)] at hd
          have hsk : stK (.mk 14 [] 0 l a) = (1, [119, 104, 105, 108, 101]) :: (exK c ++ blkK b) := by rw [hl, sk14]
          have hat' : At s ((1, [119, 104, 105, 108, 101]) :: (exK c ++ (blkK b ++ R))) d m := by rw [hsk] at hat; simpa [List.append_assoc] using hat
          refine go 163 hsk (by decide) (.inl (by decide)) ?_
          refine (turns _ c b hc' (nmL_all hz.2 c (by rw [hl]; simp)) hce hb' hbo hl hat' (by omega)).mono fun n' s' ⟨e1, h1⟩ => ⟨?_, by rw [hst]; exact h1⟩
          rw [e1, hat'.yes (.inl rfl), hl]; rfl
        · obtain ⟨rfl, c, b, hl, hc', hce, hb', hbo⟩ := ok15 hk
          obtain rfl := nm_zero hz (by decide)
          rw [ndo _ _ _ _ (by decide) (by decide) (by decide), if_neg (by decide)] at hd
          have hsk : stK (.mk 15 [] 0 l a) = (1, [114, 101, 112, 101, 97, 116]) :: (exK c ++ blkK b) := by rw [hl, sk15]
          have hat' : At s ((1, [114, 101, 112, 101, 97, 116]) :: (exK c ++ (blkK b ++ R))) d m := by rw [hsk] at hat; simpa [List.append_assoc] using hat
          refine go 163 hsk (by decide) (.inl (by decide)) ?_
          refine (turns _ c b hc' (nmL_all hz.2 c (by rw [hl]; simp)) hce hb' hbo hl hat' (by omega)).mono fun n' s' ⟨e1, h1⟩ => ⟨?_, by rw [hst]; exact h1⟩
          rw [e1, hat'.no (by decide), hl]; rfl
        · obtain ⟨_, x, y, hl, hx, hy, hxe, hye⟩ := ok16 hk
          exact go 164 (sks _ _ _ _ (by decide) (by decide) (by decide)) (by decide) (.inl (by decide)) (skm (by decide) (by decide) (by decide) (by rw [hl]; simp [stL, stE_zero hx hxe, stE_zero hy hye]) (cs16 hk hz (sim (by decide) (by decide) (by decide)) hd))
        · exact go 165 (sks _ _ _ _ (by decide) (by decide) (by decide)) (by decide) (.inl (by decide)) (skm (by decide) (by decide) (by decide) (stL_parts (ok17 hk).2) (cs17 hk hz (sim (by decide) (by decide) (by decide)) hd))
        · obtain ⟨_, x, hl, hx, hxo⟩ := ok18 hk
          exact go 166 (sks _ _ _ _ (by decide) (by decide) (by decide)) (by decide) (.inl (by decide)) (skm (by decide) (by decide) (by decide) (by rw [hl]; exact stL_parts fun n hn => by rw [List.mem_singleton.1 hn]; exact ⟨hx, hxo⟩) (cs18 hk hz (sim (by decide) (by decide) (by decide)) hd))
        · exact go 167 (sks _ _ _ _ (by decide) (by decide) (by decide)) (by decide) (.inl (by decide)) (skm (by decide) (by decide) (by decide) (by rw [(ok19 hk).2]; rfl) (cs19 hk hz (sim (by decide) (by decide) (by decide))))
        · exact go 168 (sks _ _ _ _ (by decide) (by decide) (by decide)) (by decide) (.inl (by decide)) (skm (by decide) (by decide) (by decide) (by rw [(ok20 hk).2]; rfl) (cs20 hk hz (sim (by decide) (by decide) (by decide))))
        · exact go 168 (sks _ _ _ _ (by decide) (by decide) (by decide)) (by decide) (.inl (by decide)) (skm (by decide) (by decide) (by decide) (by rw [(ok21 hk).2]; rfl) (cs21 hk hz (sim (by decide) (by decide) (by decide))))
        · obtain ⟨_, x, hl, hx, hxe⟩ := ok22 hk
          exact go 169 (sks _ _ _ _ (by decide) (by decide) (by decide)) (by decide) (.inl (by decide)) (skm (by decide) (by decide) (by decide) (by rw [hl]; simp [stL, stE_zero hx hxe]) (cs22 hk hz (sim (by decide) (by decide) (by decide)) hd))
end
section
open Go Hc Hc.Lex
variable {F : Nat}
def nmK (n : Nd) : List KT := [(1, n.tx)]
def namesK (l : List Nd) : List KT := comK true (l.map nmK)
def clauseK : Nd → List KT
  | .nil => []
  | .mk _ tx _ l _ => if l.isEmpty then [] else (1, tx) :: namesK l
def thingK : Nd → List KT
  | .nil => []
  | .mk op tx _ l _ =>
    (if op = 4 then (1, [102, 117, 110, 99]) :: (1, tx) :: (3, [40]) :: (namesK (l.headD .nil).ks ++ [(3, [41])])
     else (1, [115, 121, 115, 116, 101, 109]) :: (1, tx) :: (l.take 4).flatMap clauseK) ++ blkK (l.getLastD .nil)
theorem ck_eq (op : Int) (tx : Txt) (nm : Int) (l : List Nd) (a : Int) : clauseK (.mk op tx nm l a) = if l.isEmpty then [] else (1, tx) :: namesK l := rfl
theorem tk_eq (op : Int) (tx : Txt) (nm : Int) (l : List Nd) (a : Int) : thingK (.mk op tx nm l a) = (if op = 4 then (1, [102, 117, 110, 99]) :: (1, tx) :: (3, [40]) :: (namesK (l.headD .nil).ks ++ [(3, [41])])
     else (1, [115, 121, 115, 116, 101, 109]) :: (1, tx) :: (l.take 4).flatMap clauseK) ++ blkK (l.getLastD .nil) := rfl
def progK (n : Nd) : List KT := n.ks.flatMap thingK
theorem era31 {t : Tk} {n : Nd} (hk : okN n) (hz : nmN n) (ho : n.op = 31) (ht : t.text = n.tx) : era (texted 31 t []) = era n := by
  obtain ⟨op, tx, nm, l, a, rfl⟩ := hk.op
  have ho : op = 31 := ho
  subst ho
  obtain ⟨_, rfl⟩ := ok31 hk
  obtain rfl := nm_zero hz (by decide)
  have ht : t.text = tx := ht
  simp [era, eraL, ht]
theorem cp_names {most : Int} : ∀ (f : Nat) (n : Nd) (l acc : List Nd) (s : PS) (R : List KT) (d m : Int), okL (n :: l) → nmL (n :: l) → (∀ x ∈ n :: l, x.op = 31) → At s ((1, n.tx) :: (comK false (l.map nmK) ++ R)) d m → (∃ k w R', R = (k, w) :: R' ∧ w ≠ [44]) →
    ((acc.length + l.length : Nat) < most ∨ most < 0) → Cp (namesL most f acc s) fun l' s' => eraL l' = eraL acc ++ eraL (n :: l) ∧ At s' R d m
  | 0, _, _, _, _, _, _, _, _, _, _, _, _, _ => by left; rw [namesL]
  | f + 1, n, l, acc, s, R, d, m, hk, hz, ho, hat, hR, hm => by
    rw [namesL]
    have hno := ho n (by simp)
    have hn : isNameB n.tx = true := by
      obtain ⟨op, tx, nm, k, a, rfl⟩ := hk.1.op
      have hno : op = 31 := hno
      subst hno
      exact (ok31 hk.1).1
    have hnm : namedB s = true := by unfold namedB; rw [hat.hd.1, hat.hd.2, hn]; rfl
    have et := hat.hd.2
    rw [hnm, if_pos rfl]
    have hlim : limitP ((acc.length : Nat) : Int) most s = retP () s := by unfold limitP; rw [if_neg (by omega)]
    rw [hlim]
    show Cp (if nextB [44] s.take then namesL most f (acc ++ [texted 31 s.hd []]) s.take.take else retP (acc ++ [texted 31 s.hd []]) s.take) _
    have e1 := era31 (t := s.hd) hk.1 hz.1 hno et
    cases l with
    | nil =>
      obtain ⟨k, w, R', rfl, hw⟩ := hR
      have h1 : At s.take ((k, w) :: R') d m := hat.take
      rw [h1.no hw]
      refine Cp.ret ⟨?_, h1⟩
      rw [eraL_app]; simp [eraL, e1]
    | cons n2 l =>
      have h1 : At s.take ((3, [44]) :: (1, n2.tx) :: (comK false (l.map nmK) ++ R)) d m := by
        have := hat.take
        simpa [comK, nmK, List.append_assoc] using this
      rw [h1.yes (.inr rfl), if_pos rfl]
      refine (cp_names f n2 l _ s.take.take R d m hk.2 hz.2 (fun x hx => ho x (List.mem_cons_of_mem _ hx)) h1.take hR (by simp only [List.length_append, List.length_cons, List.length_nil] at hm ⊢; omega)).mono fun l' s' ⟨e2, h2⟩ => ⟨?_, h2⟩
      rw [e2, eraL_app]; simp [eraL, e1]
theorem clause_hd : ∀ (ws : List Txt) (cs : List Nd), cs.map Nd.tx = ws → (∀ c ∈ cs, c.op = 3) → ∀ (R : List KT), ∃ k w R', cs.flatMap clauseK ++ ((3, [123]) :: R) = (k, w) :: R' ∧ (w ∈ ws ∨ w = [123])
  | [], [], _, _, R => ⟨3, [123], R, rfl, .inr rfl⟩
  | w :: ws, c :: cs, h, ho, R => by
    simp only [List.map_cons, List.cons.injEq] at h
    obtain ⟨k, w', R', e, hw⟩ := clause_hd ws cs h.2 (fun c hc => ho c (List.mem_cons_of_mem _ hc)) R
    cases c with
    | nil => exact absurd (ho .nil (List.mem_cons_self ..)) (by show ¬ ((0 : Int) = 3); decide)
    | mk op tx nm l a =>
      have htx : tx = w := h.1
      by_cases hl : l.isEmpty = true
      · refine ⟨k, w', R', ?_, ?_⟩
        · rw [List.flatMap_cons]; rw [ck_eq, if_pos hl]; exact e
        · rcases hw with g | g
          · exact .inl (List.mem_cons_of_mem _ g)
          · exact .inr g
      · refine ⟨1, tx, namesK l ++ (cs.flatMap clauseK ++ ((3, [123]) :: R)), ?_, .inl (by rw [htx]; exact List.mem_cons_self ..)⟩
        rw [List.flatMap_cons]
        have : clauseK (.mk op tx nm l a) = (1, tx) :: namesK l := by rw [ck_eq, if_neg hl]
        rw [this]; simp [List.append_assoc]
theorem cp_clauses : ∀ (ws : List Txt) (cs acc : List Nd) (s : PS) (R : List KT) (d m : Int), cs.map Nd.tx = ws → ws.Nodup → (∀ w ∈ ws, w ∈ clauseW) → okL cs → nmL cs → (∀ c ∈ cs, c.op = 3) → At s (cs.flatMap clauseK ++ ((3, [123]) :: R)) d m →
    Cp (clausesP F ws acc s) fun l' s' => eraL l' = eraL acc ++ eraL cs ∧ At s' ((3, [123]) :: R) d m
  | [], [], acc, s, R, d, m, _, _, _, _, _, _, hat => by
    rw [clausesP]
    exact Cp.ret ⟨by simp [eraL], hat⟩
  | w :: ws, c :: cs, acc, s, R, d, m, h, hnd, hin, hk, hz, ho, hat => by
    simp only [List.map_cons, List.cons.injEq] at h
    rw [List.nodup_cons] at hnd
    have hw := hin w (List.mem_cons_self ..)
    have hw123 : w ≠ [123] ∧ w ≠ [44] := by
      simp only [clauseW, List.mem_cons, List.not_mem_nil, or_false] at hw
      rcases hw with rfl | rfl | rfl | rfl <;> decide
    rw [clausesP]
    obtain ⟨op, tx, nm, l, a, rfl⟩ := hk.1.op
    have hop : op = 3 := ho (.mk op tx nm l a) (List.mem_cons_self ..)
    subst hop
    obtain rfl := nm_zero hz.1 (by decide)
    have htx : tx = w := h.1
    subst htx
    obtain ⟨k1, w1, R1, e1, hw1⟩ := clause_hd ws cs h.2 (fun c hc => ho c (List.mem_cons_of_mem _ hc)) R
    have hne1 : w1 ≠ tx := by
      rintro rfl
      rcases hw1 with g | g
      · exact hnd.1 g
      · exact hw123.1 g
    have rec' : ∀ (acc' : List Nd) (s1 : PS), At s1 (cs.flatMap clauseK ++ ((3, [123]) :: R)) d m → Cp (clausesP F ws acc' s1) fun l' s' => eraL l' = eraL acc' ++ eraL cs ∧ At s' ((3, [123]) :: R) d m := fun acc' s1 h1 => cp_clauses ws cs acc' s1 R d m h.2 hnd.2 (fun w hw => hin w (List.mem_cons_of_mem _ hw)) hk.2 hz.2 (fun c hc => ho c (List.mem_cons_of_mem _ hc)) h1
    cases l with
    | nil =>
      have hat : At s (cs.flatMap clauseK ++ ((3, [123]) :: R)) d m := by simpa [clauseK] using hat
      have hat' := hat
      rw [e1] at hat'
      rw [hat'.no hne1, if_neg (by decide)]
      refine (rec' (acc ++ [Nd.mk 3 tx 0 [] (-1)]) s hat).mono fun l' s' ⟨e2, h2⟩ => ⟨?_, h2⟩
      rw [e2, eraL_app]; simp [eraL, era]
    | cons n l =>
      have hat : At s ((1, tx) :: (1, n.tx) :: (comK false (l.map nmK) ++ (cs.flatMap clauseK ++ ((3, [123]) :: R)))) d m := by
        have : clauseK (.mk 3 tx 0 (n :: l) a) = (1, tx) :: namesK (n :: l) := by rw [ck_eq, if_neg (by simp)]
        rw [List.flatMap_cons, this] at hat
        simpa [namesK, nmK, comK, List.append_assoc] using hat
      rw [hat.yes (.inl rfl), if_pos rfl]
      have h44 : w1 ≠ [44] := by
        rcases hw1 with g | g
        · have := hin w1 (List.mem_cons_of_mem _ g)
          simp only [clauseW, List.mem_cons, List.not_mem_nil, or_false] at this
          rcases this with rfl | rfl | rfl | rfl <;> decide
        · rw [g]; decide
      refine (cp_names (most := -1) F n l [] s.take (cs.flatMap clauseK ++ ((3, [123]) :: R)) d m hk.1.2 hz.1.2 (fun x hx => ((ok3 hk.1).2 x hx).2) hat.take ⟨k1, w1, R1, e1, h44⟩ (.inr (by decide))).bind fun c' s1 ⟨ec, h1⟩ => ?_
      refine (rec' _ s1 h1).mono fun l' s' ⟨e2, h2⟩ => ⟨?_, h2⟩
      rw [e2, eraL_app]; simp only [eraL, era, ec]; simp [eraL]
theorem era_fix (a : Int) (n : Nd) : era (Nd.fix a n) = era n := by
  cases n with
  | nil => rfl
  | mk op tx nm l b => rw [fix_eq]; rfl
theorem eraL_fix (a : Int) (l : List Nd) : eraL (l.map (Nd.fix a)) = eraL l := by
  rw [eraL_map, eraL_map, List.map_map]; congr 1; funext n; exact era_fix a n
theorem blk_hd {b : Nd} (h : okN b) : ∃ R2, ∀ X : List KT, blkK b ++ X = (3, [123]) :: (R2 ++ X) := by
  obtain ⟨o, t, q, u, v, rfl⟩ := h.op
  exact ⟨stsK u ++ [(3, [125])], fun X => by simp [blkK]⟩
theorem stL_clauses {l : List Nd} (hk : okL l) (ho : ∀ c ∈ l, c.op = 3) : stL l = 0 := stL_zero fun n hn => by
  have hkn := okL_all hk n hn
  have := ho n hn
  obtain ⟨op, tx, nm, k, a, rfl⟩ := hkn.op
  have : op = 3 := this
  subst this
  simp only [stN]
  rw [if_neg (by decide), stL_zero]
  intro v hv
  obtain ⟨hkv, hov⟩ := (ok3 hkn).2 v hv
  exact stE_zero hkv (by rw [isE, hov]; decide)
theorem cp_system {n : Nd} (hk : okN n) (hz : nmN n) (ho : n.op = 2) {s : PS} {R : List KT} {d m : Int} (hat : At s (thingK n ++ R) d m) (hd : d + ndN n ≤ 20) (hm : m + stN n ≤ 200) : Cp (systemP F s) (St n R d (m + stN n)) := by
  obtain ⟨op, tx, nm, l, a, rfl⟩ := hk.op
  have ho : op = 2 := ho
  subst ho
  obtain rfl := nm_zero hz (by decide)
  obtain ⟨hn, c1, c2, c3, c4, b, rfl, hcs, hcw, hb, hbo⟩ := ok2 hk
  obtain ⟨R2, hR2⟩ := blk_hd hb
  have hat : At s ((1, [115, 121, 115, 116, 101, 109]) :: (1, tx) :: ([c1, c2, c3, c4].flatMap clauseK ++ ((3, [123]) :: (R2 ++ R)))) d m := by
    have e : thingK (.mk 2 tx 0 [c1, c2, c3, c4, b] a) = (1, [115, 121, 115, 116, 101, 109]) :: (1, tx) :: ([c1, c2, c3, c4].flatMap clauseK ++ blkK b) := by
      rw [tk_eq, if_neg (by decide)]; rfl
    rw [e] at hat
    rw [← hR2]
    simpa [List.append_assoc] using hat
  rw [ndo _ _ _ _ (by decide) (by decide) (by decide), if_neg (by decide)] at hd
  have hdb : ndN b ≤ ndL [c1, c2, c3, c4, b] := nd_mem (by simp)
  have hst : stN (.mk 2 tx 0 [c1, c2, c3, c4, b] a) = stN b := by
    have h4 : stL [c1, c2, c3, c4] = 0 := stL_clauses (l := [c1, c2, c3, c4]) ⟨(hcs _ (by simp)).1, (hcs _ (by simp)).1, (hcs _ (by simp)).1, (hcs _ (by simp)).1, trivial⟩ fun c hc => (hcs c hc).2
    simp only [stN, stL] at h4 ⊢
    rw [if_neg (by decide)]; omega
  rw [hst] at hm ⊢
  unfold systemP
  refine (cp_name hat.take hn).bind fun t s1 ⟨et, h1⟩ => ?_
  refine (cp_clauses clauseW [c1, c2, c3, c4] [] s1 (R2 ++ R) d m hcw (by decide) (fun w hw => hw) ⟨(hcs _ (by simp)).1, (hcs _ (by simp)).1, (hcs _ (by simp)).1, (hcs _ (by simp)).1, trivial⟩ ⟨hz.2.1, hz.2.2.1, hz.2.2.2.1, hz.2.2.2.2.1, trivial⟩ (fun c hc => (hcs c hc).2) h1).bind fun l' s2 ⟨e2, h2⟩ => ?_
  rw [← hR2] at h2
  refine ((bs_main F (cnt b) b (Nat.le_refl _) hb hz.2.2.2.2.2.1).block hbo F s2 R d m h2 (by omega) hm).bind fun b' s3 ⟨e3, h3⟩ => Cp.ret ⟨?_, h3⟩
  simp only [era, et]
  rw [eraL_app, eraL_fix, e2]
  simp [eraL, e3]
theorem cp_function {n : Nd} (hk : okN n) (hz : nmN n) (ho : n.op = 4) (hp : (n.ks.headD .nil).ks.length ≤ 4) {s : PS} {R : List KT} {d m : Int} (hat : At s (thingK n ++ R) d m) (hd : d + ndN n ≤ 20) (hm : m + stN n ≤ 200) : Cp (functionP F s) (St n R d (m + stN n)) := by
  obtain ⟨op, tx, nm, l, a, rfl⟩ := hk.op
  have ho : op = 4 := ho
  subst ho
  obtain rfl := nm_zero hz (by decide)
  obtain ⟨hn, c, b, rfl, hc, hco, hct, hb, hbo⟩ := ok4 hk
  obtain ⟨cop, ctx, cnm, cl, ca, rfl⟩ := hc.op
  have hco : cop = 3 := hco
  have hct : ctx = [102, 117, 110, 99] := hct
  subst hco hct
  obtain rfl := nm_zero hz.2.1 (by decide)
  have hp : cl.length ≤ 4 := hp
  have hat : At s ((1, [102, 117, 110, 99]) :: (1, tx) :: (3, [40]) :: (namesK cl ++ ((3, [41]) :: (blkK b ++ R)))) d m := by
    have e : thingK (.mk 4 tx 0 [.mk 3 [102, 117, 110, 99] 0 cl ca, b] a) = (1, [102, 117, 110, 99]) :: (1, tx) :: (3, [40]) :: (namesK cl ++ ((3, [41]) :: blkK b)) := by
      rw [tk_eq, if_pos rfl]
      show ((1, [102, 117, 110, 99]) :: (1, tx) :: (3, [40]) :: (namesK cl ++ [(3, [41])])) ++ blkK b = _
      simp
    rw [e] at hat
    simpa [List.append_assoc] using hat
  rw [ndo _ _ _ _ (by decide) (by decide) (by decide), if_neg (by decide)] at hd
  have hdb : ndN b ≤ ndL [Nd.mk 3 [102, 117, 110, 99] 0 cl ca, b] := nd_mem (by simp)
  have hst : stN (.mk 4 tx 0 [.mk 3 [102, 117, 110, 99] 0 cl ca, b] a) = stN b := by
    have h4 : stL [Nd.mk 3 [102, 117, 110, 99] 0 cl ca] = 0 := stL_clauses ⟨hc, trivial⟩ fun c hc => by rw [List.mem_singleton.1 hc]; rfl
    simp only [stN, stL] at h4 ⊢
    rw [if_neg (by decide), if_neg (by decide)]; rw [if_neg (by decide)] at h4; omega
  rw [hst] at hm ⊢
  unfold functionP
  refine (cp_name hat.take hn).bind fun t s1 ⟨et, h1⟩ => (cp_must h1 (.inr rfl)).bind fun u s2 ⟨_, h2⟩ => ?_
  refine Cp.bind (P := fun l' s' => eraL l' = eraL cl ∧ At s' ((3, [41]) :: (blkK b ++ R)) d m) ?_ fun c' s3 ⟨e3, h3⟩ => ?_
  · cases cl with
    | nil =>
      have h2 : At s2 ((3, [41]) :: (blkK b ++ R)) d m := h2
      rw [h2.yes (.inr rfl), if_pos rfl]
      exact Cp.ret ⟨rfl, h2⟩
    | cons x cl =>
      have hx31 := ((ok3 hc).2 x (by simp)).2
      have hxn : isNameB x.tx = true := by
        obtain ⟨op, tx, nm, k, a, rfl⟩ := hc.2.1.op
        have hx31 : op = 31 := hx31
        subst hx31
        exact (ok31 hc.2.1).1
      have h2 : At s2 ((1, x.tx) :: (comK false (cl.map nmK) ++ ((3, [41]) :: (blkK b ++ R)))) d m := by simpa [namesK, nmK, comK] using h2
      rw [h2.no (nm_ne hxn (by decide)), if_neg (by decide)]
      refine (cp_names (most := 4) F x cl [] s2 _ d m hc.2 hz.2.1.2 (fun y hy => ((ok3 hc).2 y hy).2) h2 ⟨3, [41], _, rfl, by decide⟩ (.inl (by simp only [List.length_cons, List.length_nil] at hp ⊢; omega))).mono fun l' s' ⟨e, h⟩ => ⟨by rw [e]; rfl, h⟩
  · refine (cp_must h3 (.inr rfl)).bind fun _ s4 ⟨_, h4⟩ => ?_
    refine ((bs_main F (cnt b) b (Nat.le_refl _) hb hz.2.2.1).block hbo F s4 R d m h4 (by omega) hm).bind fun b' s5 ⟨e5, h5⟩ => Cp.ret ⟨?_, h5⟩
    simp only [era, eraL, et, e3, e5]
theorem cp_programL : ∀ (f : Nat) (l acc : List Nd) (a b : Int) (s : PS) (m : Int), okL l → nmL l → (∀ n ∈ l, n.op = 2 ∨ n.op = 4) → (∀ n ∈ l, n.op = 4 → (n.ks.headD .nil).ks.length ≤ 4) → At s (l.flatMap thingK ++ [(0, [])]) 0 m → ndL l ≤ 20 → m + stL l ≤ 200 → a + cop 2 l ≤ 16 → b + cop 4 l ≤ 16 →
    Cp (programL F f a b acc s) fun l' s' => eraL l' = eraL acc ++ eraL l
  | 0, _, _, _, _, _, _, _, _, _, _, _, _, _, _, _ => by left; rw [programL]
  | f + 1, [], acc, a, b, s, m, hk, hz, ho, hp, hat, hd, hm, ha, hb => by
    rw [programL]
    have hat : At s [(0, [])] 0 m := hat
    rw [if_pos hat.hd.1]
    exact Cp.ret (by simp [eraL])
  | f + 1, n :: l, acc, a, b, s, m, hk, hz, ho, hp, hat, hd, hm, ha, hb => by
    rw [programL]
    have hat : At s (thingK n ++ (l.flatMap thingK ++ [(0, [])])) 0 m := by simpa [List.append_assoc] using hat
    simp only [ndL] at hd
    simp only [stL] at hm
    rcases ho n (by simp) with h2 | h4
    · have e2 : cop 2 (n :: l) = 1 + cop 2 l := by simp [cop, List.filter_cons, h2]; omega
      have e4 : cop 4 (n :: l) = cop 4 l := by simp [cop, List.filter_cons, h2]
      have hhd : ∃ K, thingK n = (1, [115, 121, 115, 116, 101, 109]) :: K := by
        obtain ⟨op, tx, nm, k, q, rfl⟩ := hk.1.op
        have h2 : op = 2 := h2
        subst h2
        rw [tk_eq, if_neg (by decide)]; exact ⟨_, rfl⟩
      obtain ⟨K, hK⟩ := hhd
      have hat' := hat
      rw [hK] at hat'
      have hat' : At s ((1, [115, 121, 115, 116, 101, 109]) :: (K ++ (l.flatMap thingK ++ [(0, [])]))) 0 m := hat'
      rw [if_neg (by rw [hat'.hd.1]; decide), if_pos (hat'.yes (.inl rfl))]
      have hlim : limitP a 16 s = retP () s := by unfold limitP; rw [if_neg (by omega)]
      rw [hlim]
      show Cp ((systemP F s).bind fun n s => programL F f (a + 1) b (acc ++ [n]) s) _
      refine (cp_system hk.1 hz.1 h2 hat (by omega) (by omega)).bind fun n' s1 ⟨en, h1⟩ => ?_
      refine (cp_programL f l _ (a + 1) b s1 (m + stN n) hk.2 hz.2 (fun x hx => ho x (List.mem_cons_of_mem _ hx)) (fun x hx => hp x (List.mem_cons_of_mem _ hx)) h1 (by omega) (by omega) (by omega) (by omega)).mono fun l' s' e => ?_
      rw [e, eraL_app]; simp [eraL, en]
    · have e2 : cop 2 (n :: l) = cop 2 l := by simp [cop, List.filter_cons, h4]
      have e4 : cop 4 (n :: l) = 1 + cop 4 l := by simp [cop, List.filter_cons, h4]; omega
      have hhd : ∃ K, thingK n = (1, [102, 117, 110, 99]) :: K := by
        obtain ⟨op, tx, nm, k, q, rfl⟩ := hk.1.op
        have h4 : op = 4 := h4
        subst h4
        rw [tk_eq, if_pos rfl]; exact ⟨_, rfl⟩
      obtain ⟨K, hK⟩ := hhd
      have hat' := hat
      rw [hK] at hat'
      have hat' : At s ((1, [102, 117, 110, 99]) :: (K ++ (l.flatMap thingK ++ [(0, [])]))) 0 m := hat'
      rw [if_neg (by rw [hat'.hd.1]; decide), hat'.no (by decide), hat'.yes (.inl rfl), if_neg (by decide), if_pos rfl]
      have hlim : limitP b 16 s = retP () s := by unfold limitP; rw [if_neg (by omega)]
      rw [hlim]
      show Cp ((functionP F s).bind fun n s => programL F f a (b + 1) (acc ++ [n]) s) _
      refine (cp_function hk.1 hz.1 h4 (hp n (by simp) h4) hat (by omega) (by omega)).bind fun n' s1 ⟨en, h1⟩ => ?_
      refine (cp_programL f l _ a (b + 1) s1 (m + stN n) hk.2 hz.2 (fun x hx => ho x (List.mem_cons_of_mem _ hx)) (fun x hx => hp x (List.mem_cons_of_mem _ hx)) h1 (by omega) (by omega) (by omega) (by omega)).mono fun l' s' e => ?_
      rw [e, eraL_app]; simp [eraL, en]
theorem parse_back {n : Nd} (h : WfT n) {ts : List Tk} (ht : ts.map kt = progK n ++ [(0, [])]) (hlen : ts.length ≤ 9000) : ∃ n' s', parseT ts = some (.ok (n', s')) ∧ era n' = era n := by
  obtain ⟨op, tx, nm, l, a, rfl⟩ := h.ok.op
  have h1 : op = 1 := h.op
  subst h1
  obtain ⟨rfl, hl⟩ := ok1 h.ok
  obtain rfl := nm_zero h.i (by decide)
  have hst := h.st
  have hnd := h.nd
  rw [ndo _ _ _ _ (by decide) (by decide) (by decide), if_neg (by decide)] at hnd
  simp only [stN] at hst
  rw [if_neg (by decide)] at hst
  have hs : cop 2 l ≤ 16 := h.sys
  have hf : cop 4 l ≤ 16 := h.fun'
  have key : Cp (parseT ts) fun n' s' => era n' = era (.mk 1 [] 0 l a) := by
    unfold parseT programP
    refine (cp_programL fuelP l [] 0 0 ⟨ts, 0, 0⟩ 0 h.ok.2 h.i.2 (fun n hn => (hl n hn).2) h.par ⟨ht, rfl, rfl⟩ (by omega) (by omega) (by omega) (by omega)).bind fun l' s' e => Cp.ret ?_
    simp only [era, e]; rfl
  rcases key with g | ⟨n', s', g, e⟩
  · exact absurd g (parseT_ne hlen)
  · exact ⟨n', s', g, e⟩
end
section
open Go Hc Hc.Lex
def Lx (u v : Bs) (K : List KT) : Prop := ∀ p, ∃ ts, ts.map kt = K ∧ lexL p (u ++ v) = pre ts (lexL (p + u.length) v)
theorem Lx.nil (v : Bs) : Lx [] v [] := fun p => ⟨[], rfl, by rw [pre_nil]; rfl⟩
theorem Lx.app {u u' v : Bs} {K K' : List KT} (h : Lx u (u' ++ v) K) (h' : Lx u' v K') : Lx (u ++ u') v (K ++ K') := fun p => by
  obtain ⟨ts, e, hl⟩ := h p
  obtain ⟨ts', e', hl'⟩ := h' (p + u.length)
  refine ⟨ts ++ ts', by rw [List.map_append, e, e'], ?_⟩
  rw [List.append_assoc, hl, hl', pre_pre, List.length_append, Nat.add_assoc]
theorem Lx.cons {c : UInt8} {u' v : Bs} {K K' : List KT} (h : Lx [c] (u' ++ v) K) (h' : Lx u' v K') : Lx (c :: u') v (K ++ K') := Lx.app (u := [c]) h h'
theorem Lx.blank {b : UInt8} (v : Bs) (h : blankC b = true) : Lx [b] v [] := fun p => by
  refine ⟨[], rfl, ?_⟩
  rw [pre_nil]
  show lexL p (b :: v) = _
  rw [lexL_cons, ev_blank h]
  rfl
theorem Lx.tok {u v : Bs} {k : Nat} (h : Lex.evL (u ++ v) = .tok k u.length) (hu : u ≠ []) : Lx u v [(k, u)] := fun p => by
  cases u with
  | nil => exact absurd rfl hu
  | cons c t =>
    refine ⟨[⟨k, c :: t, p⟩], rfl, ?_⟩
    rw [List.cons_append] at h ⊢
    rw [lexL_cons, h]
    dsimp only
    have e1 : (c :: (t ++ v)).take (c :: t).length = c :: t := by rw [← List.cons_append]; exact List.take_left
    have e2 : (t ++ v).drop ((c :: t).length - 1) = v := by rw [List.length_cons, Nat.add_sub_cancel]; exact List.drop_left
    rw [e1, e2]
def NW (v : Bs) : Prop := v = [] ∨ ∃ c t, v = c :: t ∧ wordC c = false
theorem nw {c : UInt8} {t : Bs} (h : wordC c = false := by decide) : NW (c :: t) := .inr ⟨c, t, rfl, h⟩
theorem runL_app {p : UInt8 → Bool} : ∀ {u v : Bs}, (∀ c ∈ u, p c = true) → (v = [] ∨ ∃ c t, v = c :: t ∧ p c = false) → runL p (u ++ v) = u.length
  | [], v, _, hv => by
    rcases hv with rfl | ⟨c, t, rfl, h⟩
    · rfl
    · show runL p (c :: t) = 0
      unfold runL; rw [h]; rfl
  | c :: u, v, hu, hv => by
    rw [List.cons_append]
    unfold runL
    rw [hu c (List.mem_cons_self ..), runL_app (fun x hx => hu x (List.mem_cons_of_mem _ hx)) hv]
    rfl
theorem wl {c : UInt8} (h : wordC c = false) : digitC c = false ∧ (letterC c || c == 95) = false := by
  unfold wordC at h
  simp only [Bool.or_eq_false_iff] at h
  exact ⟨h.1.2, by rw [h.1.1, h.2]; rfl⟩
theorem letter_facts {c : UInt8} (h : letterC c = true) : blankC c = false ∧ c ≠ 47 := by
  unfold letterC at h
  simp only [Bool.or_eq_true, Bool.and_eq_true, decide_eq_true_eq] at h
  have hb : ∀ d : UInt8, d.toNat < 65 → c ≠ d := fun d hd e => by rw [e] at h; omega
  refine ⟨?_, hb 47 (by decide)⟩
  unfold blankC
  have h1 : (c == 32) = false := beq_eq_false_iff_ne.2 (hb 32 (by decide))
  have h2 : (c == 9) = false := beq_eq_false_iff_ne.2 (hb 9 (by decide))
  have h3 : (c == 10) = false := beq_eq_false_iff_ne.2 (hb 10 (by decide))
  have h4 : (c == 13) = false := beq_eq_false_iff_ne.2 (hb 13 (by decide))
  rw [h1, h2, h3, h4]; rfl
theorem digit_facts {c : UInt8} (h : digitC c = true) : blankC c = false ∧ c ≠ 47 ∧ letterC c = false := by
  unfold digitC at h
  simp only [Bool.and_eq_true, decide_eq_true_eq] at h
  have hb : ∀ d : UInt8, d.toNat < 48 → c ≠ d := fun d hd e => by rw [e] at h; omega
  refine ⟨?_, hb 47 (by decide), ?_⟩
  · unfold blankC
    have h1 : (c == 32) = false := beq_eq_false_iff_ne.2 (hb 32 (by decide))
    have h2 : (c == 9) = false := beq_eq_false_iff_ne.2 (hb 9 (by decide))
    have h3 : (c == 10) = false := beq_eq_false_iff_ne.2 (hb 10 (by decide))
    have h4 : (c == 13) = false := beq_eq_false_iff_ne.2 (hb 13 (by decide))
    rw [h1, h2, h3, h4]; rfl
  · unfold letterC; simp; omega
theorem ev_of {c : UInt8} {t : Bs} (h1 : blankC c = false) (h2 : remL (c :: t) = .no) : Lex.evL (c :: t) = tokE (c :: t) := by
  unfold Lex.evL; dsimp only; rw [h1, h2]; rfl
def wordOk (u : Txt) : Bool := decide (u.length ≤ 16) && shapeB u
theorem name_word {u : Txt} (h : isNameB u = true) : wordOk u = true := by
  unfold isNameB at h; unfold wordOk
  simp only [Bool.and_eq_true] at h ⊢
  exact ⟨h.1.1, h.2⟩
theorem lx_word {u v : Bs} (hu : wordOk u = true) (hv : NW v) : Lx u v [(1, u)] := by
  unfold wordOk at hu
  simp only [Bool.and_eq_true, decide_eq_true_eq] at hu
  obtain ⟨h16, hs⟩ := hu
  cases u with
  | nil => cases hs
  | cons c t =>
    have hs : (letterC c && t.all wordC) = true := hs
    simp only [Bool.and_eq_true, List.all_eq_true] at hs
    obtain ⟨hc, ht⟩ := hs
    obtain ⟨hb, h47⟩ := letter_facts hc
    refine Lx.tok ?_ (by simp)
    have hrun := runL_app (p := wordC) (u := c :: t) (v := v) (fun x hx => by
      rcases List.mem_cons.1 hx with rfl | hx
      · simp [wordC, hc]
      · exact ht x hx) hv
    rw [List.cons_append] at hrun ⊢
    rw [ev_of hb (remL_head h47)]
    unfold tokE
    dsimp only
    rw [if_pos hc, hrun, if_neg (by omega)]
theorem lx_num {nm : Int} {v : Bs} (h0 : 0 ≤ nm) (h1 : nm ≤ 9223372036854775807) (hv : NW v) : Lx (digs10 nm) v [(2, digs10 nm)] := by
  obtain ⟨hd, ha, c, t, e, hz, hz0⟩ := dig_facts nm.toNat
  have e : digs10 nm = c :: t := e
  have ha : ∀ x ∈ digs10 nm, digitC x = true := ha
  have hd : decL 0 (digs10 nm) = nm.toNat := hd
  rw [e] at ha hd ⊢
  obtain ⟨hb, h47, hl⟩ := digit_facts (ha c (List.mem_cons_self ..))
  refine Lx.tok ?_ (by simp)
  have hrun := runL_app (p := digitC) (u := c :: t) (v := v) ha (by
    rcases hv with rfl | ⟨x, y, rfl, h⟩
    · exact .inl rfl
    · exact .inr ⟨x, y, rfl, (wl h).1⟩)
  have htk : (c :: (t ++ v)).take (c :: t).length = c :: t := by rw [← List.cons_append]; exact List.take_left
  have hdr : (c :: (t ++ v)).drop (c :: t).length = v := by rw [← List.cons_append]; exact List.drop_left
  rw [List.cons_append] at hrun ⊢
  rw [ev_of hb (remL_head h47)]
  unfold tokE
  dsimp only
  rw [if_neg (by rw [hl]; decide), if_pos (ha c (List.mem_cons_self ..)), hrun, htk, hdr, hd]
  rw [if_neg (by
    rintro (g | ⟨g1, g2⟩)
    · omega
    · refine hz (fun g => ?_) g2
      rw [g] at g1; simp at g1)]
  rw [if_neg]
  rcases hv with rfl | ⟨x, y, rfl, h⟩
  · decide
  · show ¬ ((letterC x || x == 95) = true)
    rw [(wl h).2]; decide
theorem lx_sign {c : UInt8} {v : Bs} (h : c ∈ ([40, 41, 123, 125, 44, 59, 58, 63, 46, 45] : Bs)) : Lx [c] v [(3, [c])] := by
  refine Lx.tok ?_ (by simp)
  show Lex.evL (c :: v) = .tok 3 1
  have key : blankC c = false ∧ c ≠ 47 ∧ letterC c = false ∧ digitC c = false ∧ c ∈ ones ∧ ∀ s ∈ twos, s.headD 0 ≠ c := by
    simp only [List.mem_cons, List.not_mem_nil, or_false] at h
    rcases h with rfl | rfl | rfl | rfl | rfl | rfl | rfl | rfl | rfl | rfl <;> decide
  obtain ⟨hb, h47, hl, hd, h1, h2⟩ := key
  rw [ev_of hb (remL_head h47)]
  have hs : signL (c :: v) = 1 := by
    unfold signL
    rw [if_neg]
    · dsimp only; rw [if_pos h1]
    · intro hany
      obtain ⟨x, hx, hp⟩ := List.any_eq_true.1 hany
      have := h2 x hx
      simp only [twos, List.mem_cons, List.not_mem_nil, or_false] at hx
      rcases hx with rfl | rfl | rfl | rfl | rfl | rfl <;> (simp only [Lib.hasPrefix, List.isPrefixOf, Bool.and_eq_true, beq_iff_eq] at hp; exact this hp.1)
  unfold tokE
  dsimp only
  rw [if_neg (by rw [hl]; decide), if_neg (by rw [hd]; decide), hs, if_neg (by decide)]
theorem lx_not {v : Bs} (h : ∃ c t, v = c :: t ∧ c ≠ 61) : Lx [33] v [(3, [33])] := by
  obtain ⟨d, t, rfl, hd⟩ := h
  refine Lx.tok ?_ (by simp)
  show Lex.evL (33 :: d :: t) = .tok 3 1
  rw [ev_of (by decide) (remL_head (by decide))]
  have hs : signL (33 :: d :: t) = 1 := by
    unfold signL
    rw [if_neg]
    · rfl
    · intro hany
      obtain ⟨x, hx, hp⟩ := List.any_eq_true.1 hany
      simp only [twos, List.mem_cons, List.not_mem_nil, or_false] at hx
      rcases hx with rfl | rfl | rfl | rfl | rfl | rfl <;> (simp only [Lib.hasPrefix, List.isPrefixOf, Bool.and_eq_true, beq_iff_eq] at hp)
      · exact absurd hp.1 (by decide)
      · exact hd hp.2.1.symm
      · exact absurd hp.1 (by decide)
      · exact absurd hp.1 (by decide)
      · exact absurd hp.1 (by decide)
      · exact absurd hp.1 (by decide)
  unfold tokE
  dsimp only
  rw [if_neg (by decide), if_neg (by decide), hs, if_neg (by decide)]
theorem lx_ahead {u v : Bs} {k : Nat} {b : UInt8} (h : Lex.evL u = .tok k u.length) (hb : blankC b = true) (hu : u ≠ []) : Lx u (b :: v) [(k, u)] := by
  refine Lx.tok ?_ hu
  have := tok_ctx (v := v) h hb
  rwa [List.take_length] at this
theorem level_ev {t : Txt} (h : 0 < levelI t) : Lex.evL t = .tok 3 t.length ∧ t ≠ [] := by
  unfold levelI at h
  split at h
  · rename_i e; subst e; decide
  split at h
  · rename_i e; subst e; decide
  split at h
  · rename_i e; rcases e with rfl | rfl <;> decide
  split at h
  · rename_i e; rcases e with rfl | rfl | rfl | rfl <;> decide
  split at h
  · rename_i e; rcases e with rfl | rfl <;> decide
  split at h
  · rename_i e; rcases e with rfl | rfl | rfl <;> decide
  · omega
theorem lx_mid {t : Txt} {v : Bs} (h : Lex.evL t = .tok 3 t.length) (ht : t ≠ []) : Lx (32 :: (t ++ [32])) v [(3, t)] :=
  Lx.cons (K := []) (Lx.blank _ (by decide)) (by
    have := Lx.app (u' := [32]) (v := v) (K' := []) (lx_ahead (b := 32) (v := v) h (by decide) ht) (Lx.blank _ (by decide))
    simpa using this)
theorem Lx.eq {u u' v : Bs} {K K' : List KT} (h : Lx u v K) (e : u = u') (eK : K = K') : Lx u' v K' := by subst e eK; exact h
theorem exT_hd : ∀ {n : Nd}, okN n → isE n → ∃ c t, exT n = c :: t ∧ c ≠ 61
  | .nil, h, _ => h.elim
  | .mk op tx nm l a, h, he => by
    have he : 30 ≤ op ∧ op ≤ 38 := he
    have h9 : op = 30 ∨ op = 31 ∨ op = 32 ∨ op = 33 ∨ op = 34 ∨ op = 35 ∨ op = 36 ∨ op = 37 ∨ op = 38 := by omega
    have nb : ∀ t : Txt, wordOk t = true → ∀ v : Bs, ∃ c u, t ++ v = c :: u ∧ c ≠ 61 := fun t ht v => by
      unfold wordOk at ht
      simp only [Bool.and_eq_true] at ht
      cases t with
      | nil => cases ht.2
      | cons c t =>
        have h2 : (letterC c && t.all wordC) = true := ht.2
        simp only [Bool.and_eq_true] at h2
        exact ⟨c, t ++ v, rfl, fun e => by rw [e] at h2; exact absurd h2.1 (by decide)⟩
    have nb0 : ∀ t : Txt, wordOk t = true → ∃ c u, t = c :: u ∧ c ≠ 61 := fun t ht => by
      have := nb t ht []
      rwa [List.append_nil] at this
    unfold exT
    rcases h9 with rfl | rfl | rfl | rfl | rfl | rfl | rfl | rfl | rfl
    · rw [if_pos rfl]
      obtain ⟨_, ha, c, t, e, _⟩ := dig_facts nm.toNat
      have e : digs10 nm = c :: t := e
      refine ⟨c, t, e, fun e2 => ?_⟩
      have := ha c (by show c ∈ digs10 nm; rw [e]; exact List.mem_cons_self ..)
      rw [e2] at this; exact absurd this (by decide)
    · exact nb0 _ (name_word (ok31 h).1)
    · rw [if_neg (by decide), if_pos rfl]
      obtain ⟨hn, x, rfl, _⟩ := ok32 h
      exact nb _ (name_word hn) _
    · obtain ⟨_, x, y, rfl, hx, _, hxe, _⟩ := ok33 h
      obtain ⟨c, t, e, hc⟩ := exT_hd hx hxe
      rw [if_neg (by decide), if_neg (by decide), if_pos rfl]
      show ∃ c u, par (needP (levelI tx) false x) (exT x) ++ _ = c :: u ∧ c ≠ 61
      unfold par
      split
      · exact ⟨40, _, rfl, by decide⟩
      · rw [e]; exact ⟨c, _, rfl, hc⟩
    · obtain ⟨ht, x, rfl, _⟩ := ok34 h
      rw [if_neg (by decide), if_neg (by decide), if_neg (by decide), if_pos rfl]
      show ∃ c u, tx ++ _ = c :: u ∧ c ≠ 61
      rcases ht with rfl | rfl
      · exact ⟨45, _, rfl, by decide⟩
      · exact ⟨33, _, rfl, by decide⟩
    · obtain ⟨_, x, y, z, rfl, hx, _, _, hxe, _⟩ := ok35 h
      obtain ⟨c, t, e, hc⟩ := exT_hd hx hxe
      rw [if_neg (by decide), if_neg (by decide), if_neg (by decide), if_neg (by decide), if_pos rfl]
      show ∃ c u, par (needP 0 false x) (exT x) ++ _ = c :: u ∧ c ≠ 61
      unfold par
      split
      · exact ⟨40, _, rfl, by decide⟩
      · rw [e]; exact ⟨c, _, rfl, hc⟩
    · rw [if_neg (by decide), if_neg (by decide), if_neg (by decide), if_neg (by decide), if_neg (by decide), if_pos rfl]
      rcases (ok36 h).1 with g | g
      · exact nb _ (name_word g) _
      · rw [List.contains_iff_mem] at g
        simp only [builtinL, List.mem_cons, List.not_mem_nil, or_false] at g
        rcases g with rfl | rfl | rfl | rfl | rfl <;> exact nb _ (by decide) _
    · rw [if_neg (by decide), if_neg (by decide), if_neg (by decide), if_neg (by decide), if_neg (by decide), if_neg (by decide), if_pos rfl]
      exact ⟨104, _, rfl, by decide⟩
    · rw [if_neg (by decide), if_neg (by decide), if_neg (by decide), if_neg (by decide), if_neg (by decide), if_neg (by decide), if_neg (by decide)]
      exact nb0 _ (by rcases (ok38 h).1 with rfl | rfl <;> decide)
abbrev LxE (n : Nd) : Prop := ∀ v, NW v → Lx (exT n) v (exK n)
theorem lx_par {n : Nd} (h : LxE n) (b : Bool) {v : Bs} (hv : NW v) : Lx (par b (exT n)) v (parK b (exK n)) := by
  cases b with
  | false => exact h v hv
  | true =>
    refine Lx.cons (K := [(3, [40])]) (lx_sign (by decide)) (Lx.app (h _ nw) (lx_sign (by decide)))
theorem lx_com {f : Nd → Txt} {g : Nd → List KT} : ∀ (l : List Nd) (b : Bool) (v : Bs), (∀ n ∈ l, ∀ v, NW v → Lx (f n) v (g n)) → NW v → Lx (comF b (l.map f)) v (comK b (l.map g))
  | [], b, v, _, _ => Lx.nil v
  | n :: l, b, v, h, hv => by
    have hrest := lx_com l false v (fun m hm => h m (List.mem_cons_of_mem _ hm)) hv
    have hn : Lx (f n ++ comF false (l.map f)) v (g n ++ comK false (l.map g)) := by
      refine Lx.app (h n (List.mem_cons_self ..) _ ?_) hrest
      cases l with
      | nil => exact hv
      | cons m l => exact nw
    cases b with
    | true => exact hn
    | false => exact Lx.cons (K := [(3, [44])]) (lx_sign (by decide)) (Lx.cons (K := []) (Lx.blank _ (by decide)) hn)
theorem exTs_map : ∀ l : List Nd, exTs l = l.map exT
  | [] => rfl
  | n :: l => by simp only [exTs, List.map_cons, exTs_map l]
theorem exKs_map : ∀ l : List Nd, exKs l = l.map exK
  | [] => rfl
  | n :: l => by simp only [exKs, List.map_cons, exKs_map l]
theorem lx_aux : ∀ (k : Nat) (n : Nd), cnt n ≤ k → okN n → i64N n → isE n → LxE n
  | 0, n, hc, hk, _, _ => by have := cnt_pos hk; omega
  | k + 1, n, hc, hk, hi, he => by
    obtain ⟨op, tx, nm, l, a, rfl⟩ := hk.op
    simp only [cnt] at hc
    have ih : ∀ x ∈ l, isE x → LxE x := fun x hx hex => lx_aux k x (by have := cnt_mem hx; omega) (okL_all hk.2 x hx) (i64L_all hi.2 x hx) hex
    have he : 30 ≤ op ∧ op ≤ 38 := he
    have h9 : op = 30 ∨ op = 31 ∨ op = 32 ∨ op = 33 ∨ op = 34 ∨ op = 35 ∨ op = 36 ∨ op = 37 ∨ op = 38 := by omega
    intro v hv
    unfold exT
    rcases h9 with rfl | rfl | rfl | rfl | rfl | rfl | rfl | rfl | rfl
    · rw [if_pos rfl, ek30]
      exact lx_num (ok30 hk).2.1 hi.1.2 hv
    · rw [ek31]
      exact lx_word (name_word (ok31 hk).1) hv
    · rw [if_neg (by decide), if_pos rfl]
      obtain ⟨hn, x, rfl, hx, hxo⟩ := ok32 hk
      rw [ek32]
      have hxn : isNameB x.tx = true := by
        obtain ⟨op, ux, un, ul, ua, rfl⟩ := hx.op
        have hxo : op = 31 := hxo
        subst hxo; exact (ok31 hx).1
      exact Lx.app (K := [(1, tx)]) (lx_word (name_word hn) nw) (Lx.cons (K := [(3, [46])]) (lx_sign (by decide)) (lx_word (name_word hxn) hv))
    · obtain ⟨ht, x, y, rfl, hx, hy, hxe, hye⟩ := ok33 hk
      rw [if_neg (by decide), if_neg (by decide), if_pos rfl, ek33]
      obtain ⟨hev, hne⟩ := level_ev ht
      refine Lx.app (lx_par (ih x (by simp) hxe) _ nw) ?_
      have h1 := lx_mid (v := par (needP (levelI tx) true y) (exT y) ++ v) hev hne
      have h2 := Lx.app h1 (lx_par (ih y (by simp) hye) (needP (levelI tx) true y) hv)
      exact h2.eq (by simp) rfl
    · obtain ⟨ht, x, rfl, hx, hxe⟩ := ok34 hk
      rw [if_neg (by decide), if_neg (by decide), if_neg (by decide), if_pos rfl, ek34]
      refine Lx.app (K := [(3, tx)]) ?_ (lx_par (ih x (by simp) hxe) _ hv)
      rcases ht with rfl | rfl
      · exact lx_sign (by decide)
      · refine lx_not ?_
        obtain ⟨c, t, e, hc⟩ := exT_hd hx hxe
        unfold par
        split
        · exact ⟨40, _, rfl, by decide⟩
        · rw [e]; exact ⟨c, _, rfl, hc⟩
    · obtain ⟨_, x, y, z, rfl, hx, hy, hz, hxe, hye, hze⟩ := ok35 hk
      rw [if_neg (by decide), if_neg (by decide), if_neg (by decide), if_neg (by decide), if_pos rfl, ek35]
      refine Lx.app (lx_par (ih x (by simp) hxe) _ nw) ?_
      refine Lx.app (K := [(3, [63])]) ?_ (Lx.app (ih y (by simp) hye _ nw) (Lx.app (K := [(3, [58])]) ?_ (ih z (by simp) hze _ hv)))
      · exact lx_mid (t := [63]) (by decide) (by decide)
      · exact lx_mid (t := [58]) (by decide) (by decide)
    · rw [if_neg (by decide), if_neg (by decide), if_neg (by decide), if_neg (by decide), if_neg (by decide), if_pos rfl, ek36]
      have hw : wordOk tx = true := by
        rcases (ok36 hk).1 with g | g
        · exact name_word g
        · rw [List.contains_iff_mem] at g
          simp only [builtinL, List.mem_cons, List.not_mem_nil, or_false] at g
          rcases g with rfl | rfl | rfl | rfl | rfl <;> decide
      refine Lx.app (K := [(1, tx)]) (lx_word hw nw) (Lx.cons (K := [(3, [40])]) (lx_sign (by decide)) (Lx.app ?_ (lx_sign (by decide))))
      rw [exTs_map, exKs_map]
      exact lx_com l true _ (fun n hn => ih n hn ((ok36 hk).2 n hn).2) nw
    · rw [if_neg (by decide), if_neg (by decide), if_neg (by decide), if_neg (by decide), if_neg (by decide), if_neg (by decide), if_pos rfl, ek37]
      have h1 : Lx [104, 97, 115] ((40 :: (tx ++ [41])) ++ v) [(1, [104, 97, 115])] := lx_word (by decide) nw
      exact (Lx.app h1 (Lx.cons (K := [(3, [40])]) (lx_sign (by decide)) (Lx.app (K := [(1, tx)]) (lx_word (name_word (ok37 hk).1) nw) (lx_sign (by decide))))).eq rfl rfl
    · rw [if_neg (by decide), if_neg (by decide), if_neg (by decide), if_neg (by decide), if_neg (by decide), if_neg (by decide), if_neg (by decide), ek38]
      exact lx_word (by rcases (ok38 hk).1 with rfl | rfl <;> decide) hv
theorem lx_ex {n : Nd} (hk : okN n) (hi : i64N n) (he : isE n) : LxE n := lx_aux (cnt n) n (Nat.le_refl _) hk hi he
end
end Go.Proofs.YtfpmgpblhhcpgaaGreatDoor.Hc.Syn
