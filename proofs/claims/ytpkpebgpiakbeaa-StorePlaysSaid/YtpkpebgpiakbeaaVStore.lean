import Derived.Test.YtpkpebgpiakbeaaHcFun
import Derived.KernelRfl
import Derived.Test.YtpkpebgpiakbeaaProg
namespace Go.Proofs.Ytpkpebgpiakbeaa
set_option linter.unusedVariables false
set_option linter.unusedSimpArgs false
open Go.Proofs.Ytpkpebgpiakbeaa.Hc
noncomputable abbrev Pg : Program := Try.prog
abbrev T_hindcastlaw03_Op : TypeId := 71
abbrev T_hindcastlaw03_hold : TypeId := 114
abbrev T_hindcastlaw03_pair : TypeId := 111
abbrev T_hindcastref03_Store : TypeId := 135
abbrev T_store_Store : TypeId := 104
abbrev T_uint8 : TypeId := 5
abbrev f_hindcastlaw03_StoreLasts : FuncId := 6
abbrev f_hindcastlaw03_StoreFuses : FuncId := 7
abbrev f_hindcastlaw03_StorePlays : FuncId := 8
abbrev f_hindcastlaw03_shown : FuncId := 25
abbrev f_store_New : FuncId := 26
abbrev f_hindcastlaw03_pick : FuncId := 27
abbrev f_store_Store_Append : FuncId := 28
abbrev f_store_Store_Sync : FuncId := 29
abbrev f_store_Store_Crash : FuncId := 30
abbrev f_store_Store_Bytes : FuncId := 31
abbrev f_store_Store_Restart : FuncId := 32
abbrev f_store_Store_State : FuncId := 33
abbrev f_store_Store_Fuse : FuncId := 34
abbrev f_hindcastlaw03_made : FuncId := 35
abbrev f_hindcastlaw03_pair_step : FuncId := 36
abbrev f_hindcastlaw03_pair_looks : FuncId := 37
abbrev f_store_copied : FuncId := 60
abbrev f_store_Store_fail : FuncId := 61
abbrev f_hindcastlaw03_lent : FuncId := 62
abbrev f_hindcastlaw03_back : FuncId := 63
abbrev f_hindcastref03_New : FuncId := 64
abbrev f_hindcastref03_Store_Append : FuncId := 65
abbrev f_hindcastref03_Store_Sync : FuncId := 66
abbrev f_store_Store_Cut : FuncId := 67
abbrev f_hindcastref03_Store_Cut : FuncId := 68
abbrev f_hindcastref03_Store_Bytes : FuncId := 69
abbrev f_hindcastlaw03_pair_keep : FuncId := 70
abbrev f_hindcastref03_Store_Fuse : FuncId := 71
abbrev f_hindcastref03_Store_Crash : FuncId := 72
abbrev f_hindcastref03_Store_Restart : FuncId := 73
abbrev f_hindcastref03_Store_State : FuncId := 74
abbrev f_hindcastref03_joined : FuncId := 91
abbrev f_hindcastref03_Store_size : FuncId := 92
abbrev f_hindcastref03_Store_fails : FuncId := 93
theorem Pg_mixed : Pg.follows .mixedOrders = true := by kernel_rfl
/-- hindcast/hindcastlaw03.StoreLasts -/
def v_hindcastlaw03_StoreLasts (t0_ : Sl) (t1_ : Sl) (H : Heap) (k : Bool → Heap → Prop) : Prop :=
    CallT Pg f_hindcastlaw03_shown [] (.one (.c .bool)) H fun (r1 : Bool) H1 =>
    Jn (σ := Sl) /- t0 -/ (fun kk1 =>
      Br (decide ((t0_.len : Int) > 1000)) (
        SlA 1 t0_ 0 1000 (t0_.cap : Nat) fun l1 =>
        kk1 l1 H1) (
        kk1 t0_ H1)) fun j1 H2 =>
    CallT Pg f_store_New [.slice j1.a j1.len j1.cap] (.tup [(.c .ptr), (.c (.int .i64))]) H2 fun (r2 : Option Addr × Int) H3 =>
    Jn (σ := Bool) /- t41 -/ (fun kk2 =>
      Br (!r1) (
        kk2 true H3) (
        Br r2.1.isNone (
          kk2 true H3) (
          kk2 (r2.2 != 0) H3))) fun j2 H4 =>
    Br j2 (
      k false H4) (
      App T_uint8 1 1 #[.int .u8 0] ⟨none, 0, 0⟩ j1 H4 fun l2 H5 =>
      LoopT (σ := Sl × Sl × Int) /- t8, t9, t10 -/ (fun next1 s1 H6 =>
        Jn (σ := Bool) /- t52 -/ (fun kk3 =>
          Br (decide (s1.2.2 < (t1_.len : Int))) (
            kk3 (decide (s1.2.2 < 300)) H6) (
            kk3 false H6)) fun j3 H7 =>
        Br j3 (
          LoopT (σ := Sl × Int) /- t11, t12 -/ (fun next2 s2 H8 =>
            IxA 3 t1_ s1.2.2 fun a1 =>
            IxR 1 3 a1 0 fun a2 =>
            Ld (.int .i64) a2 H8 fun (x1 : Int) =>
            CallT Pg f_hindcastlaw03_pick [.int .i64 x1, .int .i64 40] (.one (.c (.int .i64))) H8 fun (r3 : Int) H9 =>
            Br (decide (s2.2 < r3)) (
              IxA 3 t1_ s1.2.2 fun a3 =>
              IxR 1 3 a3 1 fun a4 =>
              Ld (.int .i64) a4 H9 fun (x2 : Int) =>
              CallT Pg f_hindcastlaw03_pick [.int .i64 x2, .int .i64 26] (.one (.c (.int .i64))) H9 fun (r4 : Int) H10 =>
              Lt (IntKind.wrap .i64 (97 + r4)) fun t1 =>
              Nw #[.int .u8 (IntKind.wrap .u8 t1)] T_uint8 H10 fun b1 H11 =>
              App T_uint8 1 1 #[.int .u8 0] s2.1 ⟨some (adr b1), 1, 1⟩ H11 fun l3 H12 =>
              Lt (IntKind.wrap .i64 (s2.2 + 1)) fun t2 =>
              next2 (l3, t2) H12) (
              CallT Pg f_store_Store_Append [.pointer r2.1, .slice s2.1.a s2.1.len s2.1.cap] (.one (.c (.int .i64))) H9 fun (r5 : Int) H13 =>
              App T_uint8 1 1 #[.int .u8 0] s1.2.1 s2.1 H13 fun l4 H14 =>
              Br (r5 != 0) (
                k false H14) (
                IxA 3 t1_ s1.2.2 fun a5 =>
                IxR 1 3 a5 2 fun a6 =>
                Ld (.int .i64) a6 H14 fun (x3 : Int) =>
                CallT Pg f_hindcastlaw03_pick [.int .i64 x3, .int .i64 21] (.one (.c (.int .i64))) H14 fun (r6 : Int) H15 =>
                Jn (σ := Int × Sl × Sl) /- t7, t8, t9 -/ (fun kk4 =>
                  Jn (σ := Bool) /- t90 -/ (fun kk5 =>
                    Br (r6 == 0) (
                      kk5 true H15) (
                      Jn (σ := Bool) /- t90 -/ (fun kk6 =>
                        Br (r6 == 3) (
                          kk6 true H15) (
                          Jn (σ := Bool) /- t90 -/ (fun kk7 =>
                            Br (r6 == 6) (
                              kk7 true H15) (
                              Jn (σ := Bool) /- t90 -/ (fun kk8 =>
                                Br (r6 == 9) (
                                  kk8 true H15) (
                                  Jn (σ := Bool) /- t90 -/ (fun kk9 =>
                                    Br (r6 == 12) (
                                      kk9 true H15) (
                                      Jn (σ := Bool) /- t90 -/ (fun kk10 =>
                                        Br (r6 == 15) (
                                          kk10 true H15) (
                                          kk10 (r6 == 18) H15)) fun j10 H22 =>
                                      kk9 j10 H22)) fun j9 H21 =>
                                  kk8 j9 H21)) fun j8 H20 =>
                              kk7 j8 H20)) fun j7 H19 =>
                          kk6 j7 H19)) fun j6 H18 =>
                      kk5 j6 H18)) fun j5 H17 =>
                  Jn (σ := Int × Sl × Sl) /- t7, t8, t9 -/ (fun kk11 =>
                    Br j5 (
                      CallT Pg f_store_Store_Sync [.pointer r2.1] (.one (.c (.int .i64))) H17 fun (r7 : Int) H24 =>
                      App T_uint8 1 1 #[.int .u8 0] s1.1 l4 H24 fun l5 H25 =>
                      kk11 (r7, l5, ⟨none, 0, 0⟩) H25) (
                      Jn (σ := Bool) /- t103 -/ (fun kk12 =>
                        Br (r6 == 7) (
                          kk12 true H17) (
                          kk12 (r6 == 14) H17)) fun j12 H26 =>
                      Jn (σ := Int × Sl × Sl) /- t7, t8, t9 -/ (fun kk13 =>
                        Br j12 (
                          IxA 3 t1_ s1.2.2 fun a7 =>
                          IxR 1 3 a7 0 fun a8 =>
                          Ld (.int .i64) a8 H26 fun (x4 : Int) =>
                          CallT Pg f_hindcastlaw03_pick [.int .i64 x4, .int .i64 60] (.one (.c (.int .i64))) H26 fun (r8 : Int) H28 =>
                          IxA 3 t1_ s1.2.2 fun a9 =>
                          IxR 1 3 a9 1 fun a10 =>
                          Ld (.int .i64) a10 H28 fun (x5 : Int) =>
                          IxA 3 t1_ s1.2.2 fun a11 =>
                          IxR 1 3 a11 1 fun a12 =>
                          Ld (.int .i64) a12 H28 fun (x6 : Int) =>
                          (
                            Nw #[.int .u8 (IntKind.wrap .u8 x5), .int .u8 (IntKind.wrap .u8 s1.2.2)] T_uint8 H28 fun b2 H29 =>
                            Stab [(a12, .int .i64 x6), (a10, .int .i64 x5)] H29 <|
                            CallT Pg f_hindcastlaw03_pick [.int .i64 x6, .int .i64 3] (.one (.c (.int .i64))) H29 fun (r9 : Int) H30 =>
                            Stab [(a10, .int .i64 x5)] H30 <|
                            SlA 1 ⟨some (adr b2), 2, 2⟩ 0 r9 (2 : Nat) fun l6 =>
                            CallT Pg f_store_Store_Crash [.pointer r2.1, .int .i64 r8, .slice l6.a l6.len l6.cap] (.one (.c (.int .i64))) H30 fun (r10 : Int) H31 =>
                            Nw #[.int .u8 120] T_uint8 H31 fun b3 H32 =>
                            Mrk (adr b3) H32 fun H33 =>
                            CallT Pg f_store_Store_Append [.pointer r2.1, .slice (some (adr b3)) 1 1] (.one (.c (.int .i64))) H33 fun (r11 : Int) H34 =>
                            CallT Pg f_store_Store_Sync [.pointer r2.1] (.one (.c (.int .i64))) H34 fun (r12 : Int) H35 =>
                            Jn (σ := Bool) /- t149 -/ (fun kk14 =>
                              Br (r11 != 30) (
                                kk14 true H35) (
                                Br (r12 != 30) (
                                  kk14 true H35) (
                                  CallT Pg f_store_Store_Bytes [.pointer r2.1] (.one (.c .sl)) H35 fun (r13 : Sl) H37 =>
                                  kk14 ((r13.len : Int) != 0) H37))) fun j14 H36 =>
                            Br j14 (
                              k false H36) (
                              CallT Pg f_store_Store_Restart [.pointer r2.1] (.tup []) H36 fun (r14 : Unit) H38 =>
                              SlA 1 l4 0 (if (l4.len : Int) < r8 then (l4.len : Int) else r8) (l4.cap : Nat) fun l7 =>
                              App T_uint8 1 1 #[.int .u8 0] s1.1 l7 H38 fun l8 H39 =>
                              App T_uint8 1 1 #[.int .u8 0] l8 l6 H39 fun l9 H40 =>
                              kk13 (r10, l9, ⟨none, 0, 0⟩) H40)) ∧ (
                            CallT Pg f_hindcastlaw03_pick [.int .i64 x6, .int .i64 3] (.one (.c (.int .i64))) H28 fun (r15 : Int) H41 =>
                            Stab [(a10, .int .i64 x5)] H41 <|
                            Nw #[.int .u8 (IntKind.wrap .u8 x5), .int .u8 (IntKind.wrap .u8 s1.2.2)] T_uint8 H41 fun b4 H42 =>
                            Stab [(a12, .int .i64 x6), (a10, .int .i64 x5)] H42 <|
                            SlA 1 ⟨some (adr b4), 2, 2⟩ 0 r15 (2 : Nat) fun l10 =>
                            CallT Pg f_store_Store_Crash [.pointer r2.1, .int .i64 r8, .slice l10.a l10.len l10.cap] (.one (.c (.int .i64))) H42 fun (r16 : Int) H43 =>
                            Nw #[.int .u8 120] T_uint8 H43 fun b5 H44 =>
                            Mrk (adr b5) H44 fun H45 =>
                            CallT Pg f_store_Store_Append [.pointer r2.1, .slice (some (adr b5)) 1 1] (.one (.c (.int .i64))) H45 fun (r17 : Int) H46 =>
                            CallT Pg f_store_Store_Sync [.pointer r2.1] (.one (.c (.int .i64))) H46 fun (r18 : Int) H47 =>
                            Jn (σ := Bool) /- t149 -/ (fun kk15 =>
                              Br (r17 != 30) (
                                kk15 true H47) (
                                Br (r18 != 30) (
                                  kk15 true H47) (
                                  CallT Pg f_store_Store_Bytes [.pointer r2.1] (.one (.c .sl)) H47 fun (r19 : Sl) H49 =>
                                  kk15 ((r19.len : Int) != 0) H49))) fun j15 H48 =>
                            Br j15 (
                              k false H48) (
                              CallT Pg f_store_Store_Restart [.pointer r2.1] (.tup []) H48 fun (r20 : Unit) H50 =>
                              SlA 1 l4 0 (if (l4.len : Int) < r8 then (l4.len : Int) else r8) (l4.cap : Nat) fun l11 =>
                              App T_uint8 1 1 #[.int .u8 0] s1.1 l11 H50 fun l12 H51 =>
                              App T_uint8 1 1 #[.int .u8 0] l12 l10 H51 fun l13 H52 =>
                              kk13 (r16, l13, ⟨none, 0, 0⟩) H52)) ∧ True) (
                          kk13 (r5, s1.1, l4) H26)) fun j13 H27 =>
                      kk11 (j13.1, j13.2.1, j13.2.2) H27)) fun j11 H23 =>
                  kk4 (j11.1, j11.2.1, j11.2.2) H23) fun j4 H16 =>
                B2S j4.2.1 H16 fun y1 =>
                B2S j4.2.2 H16 fun y2 =>
                StrCat y1 y2 fun y3 =>
                CallT Pg f_store_Store_State [.pointer r2.1] (.tup [(.c (.int .i64)), (.c (.int .i64)), (.c .bool)]) H16 fun (r21 : Int × Int × Bool) H53 =>
                Jn (σ := Bool) /- t198 -/ (fun kk16 =>
                  Br (j4.1 != 0) (
                    kk16 true H53) (
                    CallT Pg f_store_Store_Bytes [.pointer r2.1] (.one (.c .sl)) H53 fun (r22 : Sl) H55 =>
                    B2S r22 H55 fun y4 =>
                    Br (!(y4.toList == y3.toList)) (
                      kk16 true H55) (
                      Br (r21.1 != (y3.size : Int)) (
                        kk16 true H55) (
                        Br (r21.2.1 != (j4.2.1.len : Int)) (
                          kk16 true H55) (
                          kk16 (!r21.2.2) H55))))) fun j16 H54 =>
                Br j16 (
                  k false H54) (
                  Lt (IntKind.wrap .i64 (s1.2.2 + 1)) fun t3 =>
                  next1 (j4.2.1, j4.2.2, t3) H54)))) (⟨none, 0, 0⟩, 0) H7) (
          k true H7)) (l2, ⟨none, 0, 0⟩, 0) H5)
def h_hindcastlaw03_StoreLasts : Hint := (.two .no (.two .no (.two (.two .no (.join [(0, (.c .sl))] .no)) (.two .no (.two (.two (.join [(41, (.c .bool))] .no) .no) (.two .no (.two .no (.two .no (.two (.two .no (.one (.loop [(8, (.c .sl)), (9, (.c .sl)), (10, (.c (.int .i64)))] (.two (.two (.join [(52, (.c .bool))] .no) .no) (.two (.one (.two .no (.two (.two .no (.one (.loop [(11, (.c .sl)), (12, (.c (.int .i64)))] .no))) (.two .no (.two .no (.two .no (.two (.two .no (.join [(7, (.c (.int .i64))), (8, (.c .sl)), (9, (.c .sl))] (.one (.two (.two .no (.join [(90, (.c .bool))] (.two .no (.two .no (.join [(90, (.c .bool))] (.two .no (.two .no (.join [(90, (.c .bool))] (.two .no (.two .no (.join [(90, (.c .bool))] (.two .no (.two .no (.join [(90, (.c .bool))] (.two .no (.two .no (.join [(90, (.c .bool))] .no))))))))))))))))) (.join [(7, (.c (.int .i64))), (8, (.c .sl)), (9, (.c .sl))] (.two .no (.two (.two .no (.join [(103, (.c .bool))] .no)) (.join [(7, (.c (.int .i64))), (8, (.c .sl)), (9, (.c .sl))] (.two (.two .no (.two .no (.two .no (.two .no (.two .no (.two (.two (.join [(149, (.c .bool))] .no) .no) .no)))))) .no))))))))) (.two .no (.two .no (.two (.join [(198, (.c .bool))] .no) .no)))))))))) .no))))) .no)))))))))
theorem e_hindcastlaw03_StoreLasts (t0_ : Sl) (t1_ : Sl) (H : Heap) (k : Bool → Heap → Prop) : EFun Pg Try.f6 h_hindcastlaw03_StoreLasts [.slice t0_.a t0_.len t0_.cap, .slice t1_.a t1_.len t1_.cap] (.one (.c .bool)) H k = v_hindcastlaw03_StoreLasts t0_ t1_ H k := by kernel_rfl
theorem c_hindcastlaw03_StoreLasts (t0_ : Sl) (t1_ : Sl) {H : Heap} {k : Bool → Heap → Prop} (h : v_hindcastlaw03_StoreLasts t0_ t1_ H k) : CallT Pg f_hindcastlaw03_StoreLasts [.slice t0_.a t0_.len t0_.cap, .slice t1_.a t1_.len t1_.cap] (.one (.c .bool)) H k :=
  call_of_E Pg_mixed Try.func6 (by kernel_rfl) (by kernel_rfl) (by kernel_rfl) (by kernel_rfl) ((e_hindcastlaw03_StoreLasts t0_ t1_ H k).symm ▸ h)
/-- hindcast/hindcastlaw03.StoreFuses -/
def v_hindcastlaw03_StoreFuses (t0_ : Int) (t1_ : Sl) (H : Heap) (k : Bool → Heap → Prop) : Prop :=
    CallT Pg f_hindcastlaw03_shown [] (.one (.c .bool)) H fun (r1 : Bool) H1 =>
    CallT Pg f_store_New [.slice none 0 0] (.tup [(.c .ptr), (.c (.int .i64))]) H1 fun (r2 : Option Addr × Int) H2 =>
    Jn (σ := Bool) /- t29 -/ (fun kk1 =>
      Br (!r1) (
        kk1 true H2) (
        Br r2.1.isNone (
          kk1 true H2) (
          kk1 (r2.2 != 0) H2))) fun j1 H3 =>
    Br j1 (
      k false H3) (
      CallT Pg f_hindcastlaw03_pick [.int .i64 t0_, .int .i64 2000] (.one (.c (.int .i64))) H3 fun (r3 : Int) H4 =>
      CallT Pg f_store_Store_Fuse [.pointer r2.1, .int .i64 r3] (.one (.c (.int .i64))) H4 fun (r4 : Int) H5 =>
      LoopT (σ := Int × Sl × Bool × Int) /- t7, t8, t9, t10 -/ (fun next1 s1 H6 =>
        Jn (σ := Bool) /- t46 -/ (fun kk2 =>
          Br (decide (s1.2.2.2 < (t1_.len : Int))) (
            Br (decide (s1.2.2.2 < 100)) (
              kk2 (s1.1 == 0) H6) (
              kk2 false H6)) (
            kk2 false H6)) fun j2 H7 =>
        Br j2 (
          IxA 1 t1_ s1.2.2.2 fun a1 =>
          Ld .sl a1 H7 fun (x1 : Sl) =>
          Jn (σ := Sl) /- t11 -/ (fun kk3 =>
            Br (decide ((x1.len : Int) > 100)) (
              SlA 1 x1 0 100 (x1.cap : Nat) fun l1 =>
              kk3 l1 H7) (
              kk3 x1 H7)) fun j3 H8 =>
          App T_uint8 1 1 #[.int .u8 0] s1.2.1 j3 H8 fun l2 H9 =>
          CallT Pg f_store_Store_Append [.pointer r2.1, .slice j3.a j3.len j3.cap] (.one (.c (.int .i64))) H9 fun (r5 : Int) H10 =>
          Jn (σ := Bool) /- t77 -/ (fun kk4 =>
            Br (!((r5 == 30) == (decide ((l2.len : Int) > r3)))) (
              kk4 true H10) (
              kk4 ((r5 == 0) == (decide ((l2.len : Int) > r3))) H10)) fun j4 H11 =>
          Br j4 (
            k false H11) (
            Lt (IntKind.wrap .i64 (s1.2.2.2 + 1)) fun t1 =>
            next1 ((r5, l2, decide ((l2.len : Int) > r3), t1)) H11)) (
          CallT Pg f_store_Store_State [.pointer r2.1] (.tup [(.c (.int .i64)), (.c (.int .i64)), (.c .bool)]) H7 fun (r6 : Int × Int × Bool) H12 =>
          CallT Pg f_store_Store_Restart [.pointer r2.1] (.tup []) H12 fun (r7 : Unit) H13 =>
          Jn (σ := Bool) /- t4 -/ (fun kk5 =>
            Br (!(r6.2.2 == s1.2.2.1)) (
              SlA 1 s1.2.1 0 (if (s1.2.1.len : Int) < r3 then (s1.2.1.len : Int) else r3) (s1.2.1.cap : Nat) fun l3 =>
              (
                CallT Pg f_store_Store_Bytes [.pointer r2.1] (.one (.c .sl)) H13 fun (r8 : Sl) H15 =>
                (
                  B2S r8 H15 fun y1 =>
                  B2S l3 H15 fun y2 =>
                  kk5 (y1.toList == y2.toList) H15) ∧ (
                  B2S l3 H15 fun y3 =>
                  B2S r8 H15 fun y4 =>
                  kk5 (y4.toList == y3.toList) H15) ∧ True) ∧ (
                B2S l3 H13 fun y5 =>
                CallT Pg f_store_Store_Bytes [.pointer r2.1] (.one (.c .sl)) H13 fun (r9 : Sl) H16 =>
                B2S r9 H16 fun y6 =>
                kk5 (y6.toList == y5.toList) H16) ∧ True) (
              (
                (
                  kk5 false H13) ∧ (
                  kk5 false H13) ∧ True) ∧ (
                kk5 false H13) ∧ True)) fun j5 H14 =>
          k j5 H14)) (r4, ⟨none, 0, 0⟩, false, 0) H5)
def h_hindcastlaw03_StoreFuses : Hint := (.two .no (.two .no (.two .no (.two (.two (.join [(29, (.c .bool))] .no) .no) (.two .no (.two .no (.two .no (.two .no (.two (.two .no (.one (.loop [(7, (.c (.int .i64))), (8, (.c .sl)), (9, (.c .bool)), (10, (.c (.int .i64)))] (.two (.two (.join [(46, (.c .bool))] .no) .no) (.two (.one (.two .no (.two (.two .no (.join [(11, (.c .sl))] .no)) (.two .no (.two .no (.two .no (.two (.join [(77, (.c .bool))] .no) .no))))))) .no))))) (.two .no (.two .no (.two (.join [(4, (.c .bool))] .no) .no))))))))))))
theorem e_hindcastlaw03_StoreFuses (t0_ : Int) (t1_ : Sl) (H : Heap) (k : Bool → Heap → Prop) : EFun Pg Try.f7 h_hindcastlaw03_StoreFuses [.int .i64 t0_, .slice t1_.a t1_.len t1_.cap] (.one (.c .bool)) H k = v_hindcastlaw03_StoreFuses t0_ t1_ H k := by kernel_rfl
theorem c_hindcastlaw03_StoreFuses (t0_ : Int) (t1_ : Sl) {H : Heap} {k : Bool → Heap → Prop} (h : v_hindcastlaw03_StoreFuses t0_ t1_ H k) : CallT Pg f_hindcastlaw03_StoreFuses [.int .i64 t0_, .slice t1_.a t1_.len t1_.cap] (.one (.c .bool)) H k :=
  call_of_E Pg_mixed Try.func7 (by kernel_rfl) (by kernel_rfl) (by kernel_rfl) (by kernel_rfl) ((e_hindcastlaw03_StoreFuses t0_ t1_ H k).symm ▸ h)
/-- hindcast/hindcastlaw03.StorePlays -/
def v_hindcastlaw03_StorePlays (t0_ : Sl) (t1_ : Sl) (t2_ : Sl) (H : Heap) (k : Bool → Heap → Prop) : Prop :=
    CallT Pg f_hindcastlaw03_shown [] (.one (.c .bool)) H fun (r1 : Bool) H1 =>
    CallT Pg f_hindcastlaw03_made [.slice t0_.a t0_.len t0_.cap] (.tup [(.c .ptr), (.c .bool)]) H1 fun (r2 : Option Addr × Bool) H2 =>
    CallT Pg f_hindcastlaw03_made [.slice t1_.a t1_.len t1_.cap] (.tup [(.c .ptr), (.c .bool)]) H2 fun (r3 : Option Addr × Bool) H3 =>
    Jn (σ := Bool) /- t36 -/ (fun kk1 =>
      Br (!r1) (
        kk1 true H3) (
        Br (!r2.2) (
          kk1 true H3) (
          kk1 (!r3.2) H3))) fun j1 H4 =>
    Br j1 (
      k false H4) (
      LoopT (σ := Int) /- t12 -/ (fun next1 s1 H5 =>
        Jn (σ := Bool) /- t44 -/ (fun kk2 =>
          Br (decide (s1 < (t2_.len : Int))) (
            kk2 (decide (s1 < 400)) H5) (
            kk2 false H5)) fun j2 H6 =>
        Br j2 (
          Jn (σ := Unit) /-  -/ (fun kk3 =>
            IxA 4 t2_ s1 fun a1 =>
            Ld (.int .i64) (a1.add 1) H6 fun (x1 : Int) =>
            Lt (bits .and .i64 x1 1) fun t1 =>
            Jn (σ := Option Addr) /- t13 -/ (fun kk4 =>
              Br (t1 == 1) (
                kk4 r3.1 H6) (
                kk4 r2.1 H6)) fun j4 H8 =>
            Br j4.isNone (
              kk3 () H8) (
              IxA 4 t2_ s1 fun a2 =>
              LdC [(.int .i64), (.int .i64), (.int .i64), .sl] a2 H8 fun (c1 : Int × Int × Int × Sl) =>
              CallT Pg f_hindcastlaw03_pair_step [.pointer j4, .agg #[.int .i64 c1.1, .int .i64 c1.2.1, .int .i64 c1.2.2.1, .slice c1.2.2.2.a c1.2.2.2.len c1.2.2.2.cap]] (.one (.c .bool)) H8 fun (r4 : Bool) H9 =>
              CallT Pg f_hindcastlaw03_pair_looks [.pointer j4] (.one (.c .bool)) H9 fun (r5 : Bool) H10 =>
              Jn (σ := Bool) /- t71 -/ (fun kk5 =>
                Br (!r4) (
                  kk5 true H10) (
                  kk5 (!r5) H10)) fun j5 H11 =>
              Br j5 (
                k false H11) (
                kk3 () H11))) fun j3 H7 =>
          Lt (IntKind.wrap .i64 (s1 + 1)) fun t2 =>
          next1 t2 H7) (
          k true H6)) 0 H4)
def h_hindcastlaw03_StorePlays : Hint := (.two .no (.two .no (.two .no (.two .no (.two (.two (.join [(36, (.c .bool))] .no) .no) (.two (.two .no (.one (.loop [(12, (.c (.int .i64)))] (.two (.two (.join [(44, (.c .bool))] .no) .no) (.two (.join [] (.one (.two .no (.two (.two .no (.join [(13, (.c .ptr))] .no)) (.two .no (.two .no (.two .no (.two (.join [(71, (.c .bool))] .no) .no)))))))) .no))))) .no))))))
theorem e_hindcastlaw03_StorePlays (t0_ : Sl) (t1_ : Sl) (t2_ : Sl) (H : Heap) (k : Bool → Heap → Prop) : EFun Pg Try.f8 h_hindcastlaw03_StorePlays [.slice t0_.a t0_.len t0_.cap, .slice t1_.a t1_.len t1_.cap, .slice t2_.a t2_.len t2_.cap] (.one (.c .bool)) H k = v_hindcastlaw03_StorePlays t0_ t1_ t2_ H k := by kernel_rfl
theorem c_hindcastlaw03_StorePlays (t0_ : Sl) (t1_ : Sl) (t2_ : Sl) {H : Heap} {k : Bool → Heap → Prop} (h : v_hindcastlaw03_StorePlays t0_ t1_ t2_ H k) : CallT Pg f_hindcastlaw03_StorePlays [.slice t0_.a t0_.len t0_.cap, .slice t1_.a t1_.len t1_.cap, .slice t2_.a t2_.len t2_.cap] (.one (.c .bool)) H k :=
  call_of_E Pg_mixed Try.func8 (by kernel_rfl) (by kernel_rfl) (by kernel_rfl) (by kernel_rfl) ((e_hindcastlaw03_StorePlays t0_ t1_ t2_ H k).symm ▸ h)
/-- hindcast/hindcastlaw03.shown -/
def v_hindcastlaw03_shown  (H : Heap) (k : Bool → Heap → Prop) : Prop :=
    Nw #[.int .u8 97, .int .u8 98] T_uint8 H fun b1 H1 =>
    Mrk (adr b1) H1 fun H2 =>
    CallT Pg f_store_New [.slice (some (adr b1)) 2 2] (.tup [(.c .ptr), (.c (.int .i64))]) H2 fun (r1 : Option Addr × Int) H3 =>
    Jn (σ := Bool) /- t22 -/ (fun kk1 =>
      Br r1.1.isNone (
        kk1 true H3) (
        kk1 (r1.2 != 0) H3)) fun j1 H4 =>
    Br j1 (
      k false H4) (
      Nw #[.int .u8 99, .int .u8 100, .int .u8 101] T_uint8 H4 fun b2 H5 =>
      Mrk (adr b2) H5 fun H6 =>
      CallT Pg f_store_Store_Append [.pointer r1.1, .slice (some (adr b2)) 3 3] (.one (.c (.int .i64))) H6 fun (r2 : Int) H7 =>
      CallT Pg f_store_Store_State [.pointer r1.1] (.tup [(.c (.int .i64)), (.c (.int .i64)), (.c .bool)]) H7 fun (r3 : Int × Int × Bool) H8 =>
      Nw #[.int .u8 120, .int .u8 121] T_uint8 H8 fun b3 H9 =>
      Mrk (adr b3) H9 fun H10 =>
      CallT Pg f_store_Store_Crash [.pointer r1.1, .int .i64 2, .slice (some (adr b3)) 2 2] (.one (.c (.int .i64))) H10 fun (r4 : Int) H11 =>
      CallT Pg f_store_Store_State [.pointer r1.1] (.tup [(.c (.int .i64)), (.c (.int .i64)), (.c .bool)]) H11 fun (r5 : Int × Int × Bool) H12 =>
      CallT Pg f_store_Store_Restart [.pointer r1.1] (.tup []) H12 fun (r6 : Unit) H13 =>
      Jn (σ := Bool) /- t0 -/ (fun kk2 =>
        Br (r2 == 0) (
          Br (r3.1 == 5) (
            Br (r3.2.1 == 2) (
              Br r3.2.2 (
                Br (r4 == 0) (
                  Br (!r5.2.2) (
                    CallT Pg f_store_Store_Bytes [.pointer r1.1] (.one (.c .sl)) H13 fun (r7 : Sl) H15 =>
                    B2S r7 H15 fun y1 =>
                    kk2 ((y1.toList == (⟨#[97, 98, 99, 100, 120, 121]⟩ : ByteArray).toList)) H15) (
                    kk2 false H13)) (
                  kk2 false H13)) (
                kk2 false H13)) (
              kk2 false H13)) (
            kk2 false H13)) (
          kk2 false H13)) fun j2 H14 =>
      k j2 H14)
def h_hindcastlaw03_shown : Hint := (.two .no (.two .no (.two (.two (.join [(22, (.c .bool))] .no) .no) (.two .no (.two .no (.two .no (.two .no (.two .no (.two (.join [(0, (.c .bool))] .no) .no)))))))))
theorem e_hindcastlaw03_shown  (H : Heap) (k : Bool → Heap → Prop) : EFun Pg Try.f25 h_hindcastlaw03_shown [] (.one (.c .bool)) H k = v_hindcastlaw03_shown  H k := by kernel_rfl
theorem c_hindcastlaw03_shown  {H : Heap} {k : Bool → Heap → Prop} (h : v_hindcastlaw03_shown  H k) : CallT Pg f_hindcastlaw03_shown [] (.one (.c .bool)) H k :=
  call_of_E Pg_mixed Try.func25 (by kernel_rfl) (by kernel_rfl) (by kernel_rfl) (by kernel_rfl) ((e_hindcastlaw03_shown  H k).symm ▸ h)
/-- hindcast/store.New -/
def v_store_New (b_ : Sl) (H : Heap) (k : Option Addr × Int → Heap → Prop) : Prop :=
    Br (decide ((b_.len : Int) > 16777216)) (
      k (none, 1) H) (
      CallT Pg f_store_copied [.slice b_.a b_.len b_.cap] (.one (.c .sl)) H fun (r1 : Sl) H1 =>
      Nw #[.slice r1.a r1.len r1.cap, .int .i64 (b_.len : Int), .bool false, .bool false, .int .i64 0] T_store_Store H1 fun b1 H2 =>
      k ((some (adr b1), 0)) H2)
def h_store_New : Hint := .no
theorem e_store_New (b_ : Sl) (H : Heap) (k : Option Addr × Int → Heap → Prop) : EFun Pg Try.f26 h_store_New [.slice b_.a b_.len b_.cap] (.tup [(.c .ptr), (.c (.int .i64))]) H k = v_store_New b_ H k := by kernel_rfl
theorem c_store_New (b_ : Sl) {H : Heap} {k : Option Addr × Int → Heap → Prop} (h : v_store_New b_ H k) : CallT Pg f_store_New [.slice b_.a b_.len b_.cap] (.tup [(.c .ptr), (.c (.int .i64))]) H k :=
  call_of_E Pg_mixed Try.func26 (by kernel_rfl) (by kernel_rfl) (by kernel_rfl) (by kernel_rfl) ((e_store_New b_ H k).symm ▸ h)
/-- hindcast/hindcastlaw03.pick -/
def v_hindcastlaw03_pick (c_ : Int) (n_ : Int) (H : Heap) (k : Int → Heap → Prop) : Prop :=
    Jn (σ := Int) /- c -/ (fun kk1 =>
      Br (decide (c_ < 0)) (
        Lt (IntKind.wrap .i64 (c_ + 1)) fun t1 =>
        kk1 (IntKind.wrap .i64 (0 - t1)) H) (
        kk1 c_ H)) fun j1 H1 =>
    Rem j1 n_ fun t2 =>
    k t2 H1
def h_hindcastlaw03_pick : Hint := (.two .no (.two (.two .no (.join [(0, (.c (.int .i64)))] .no)) .no))
theorem e_hindcastlaw03_pick (c_ : Int) (n_ : Int) (H : Heap) (k : Int → Heap → Prop) : EFun Pg Try.f27 h_hindcastlaw03_pick [.int .i64 c_, .int .i64 n_] (.one (.c (.int .i64))) H k = v_hindcastlaw03_pick c_ n_ H k := by kernel_rfl
theorem c_hindcastlaw03_pick (c_ : Int) (n_ : Int) {H : Heap} {k : Int → Heap → Prop} (h : v_hindcastlaw03_pick c_ n_ H k) : CallT Pg f_hindcastlaw03_pick [.int .i64 c_, .int .i64 n_] (.one (.c (.int .i64))) H k :=
  call_of_E Pg_mixed Try.func27 (by kernel_rfl) (by kernel_rfl) (by kernel_rfl) (by kernel_rfl) ((e_hindcastlaw03_pick c_ n_ H k).symm ▸ h)
/-- (*hindcast/store.Store).Append -/
def v_store_Store_Append (t0_ : Option Addr) (t1_ : Sl) (H : Heap) (k : Int → Heap → Prop) : Prop :=
    NilCk t0_ fun a1 =>
    Ld .bool (a1.add 2) H fun (x1 : Bool) =>
    Br x1 (
      k 30 H) (
      NilCk t0_ fun a2 =>
      Ld .sl a2 H fun (x2 : Sl) =>
      Lt (IntKind.wrap .i64 ((x2.len : Int) + (t1_.len : Int))) fun t1 =>
      Br (decide (t1 > 16777216)) (
        k 40 H) (
        Jn (σ := Bool) /- t20 -/ (fun kk1 =>
          NilCk t0_ fun a3 =>
          Ld .bool (a3.add 3) H fun (x3 : Bool) =>
          Br x3 (
            NilCk t0_ fun a4 =>
            Ld (.int .i64) (a4.add 4) H fun (x4 : Int) =>
            kk1 (decide ((t1_.len : Int) > x4)) H) (
            kk1 false H)) fun j1 H1 =>
        Br j1 (
          NilCk t0_ fun a5 =>
          Ld .sl a5 H1 fun (x5 : Sl) =>
          NilCk t0_ fun a6 =>
          Ld (.int .i64) (a6.add 4) H1 fun (x6 : Int) =>
          SlA 1 t1_ 0 x6 (t1_.cap : Nat) fun l1 =>
          App T_uint8 1 1 #[.int .u8 0] x5 l1 H1 fun l2 H2 =>
          Stab [(a6.add 4, .int .i64 x6)] H2 <|
          NilCk t0_ fun a7 =>
          St a7 (.slice l2.a l2.len l2.cap) H2 fun H3 =>
          CallT Pg f_store_Store_fail [.pointer t0_] (.tup []) H3 fun (r1 : Unit) H4 =>
          k 30 H4) (
          NilCk t0_ fun a8 =>
          Ld .sl a8 H1 fun (x7 : Sl) =>
          App T_uint8 1 1 #[.int .u8 0] x7 t1_ H1 fun l3 H5 =>
          NilCk t0_ fun a9 =>
          St a9 (.slice l3.a l3.len l3.cap) H5 fun H6 =>
          NilCk t0_ fun a10 =>
          Ld .bool (a10.add 3) H6 fun (x8 : Bool) =>
          Jn (σ := Unit) /-  -/ (fun kk2 =>
            Br x8 (
              NilCk t0_ fun a11 =>
              Ld (.int .i64) (a11.add 4) H6 fun (x9 : Int) =>
              Lt (IntKind.wrap .i64 (x9 - (t1_.len : Int))) fun t2 =>
              NilCk t0_ fun a12 =>
              St (a12.add 4) (.int .i64 t2) H6 fun H8 =>
              kk2 () H8) (
              kk2 () H6)) fun j2 H7 =>
          k 0 H7)))
def h_store_Store_Append : Hint := (.two .no (.two (.one (.two .no (.two .no (.two .no (.two .no (.two (.join [(20, (.c .bool))] .no) .no)))))) (.two .no (.two (.two .no (.join [] .no)) .no))))
theorem e_store_Store_Append (t0_ : Option Addr) (t1_ : Sl) (H : Heap) (k : Int → Heap → Prop) : EFun Pg Try.f28 h_store_Store_Append [.pointer t0_, .slice t1_.a t1_.len t1_.cap] (.one (.c (.int .i64))) H k = v_store_Store_Append t0_ t1_ H k := by kernel_rfl
theorem c_store_Store_Append (t0_ : Option Addr) (t1_ : Sl) {H : Heap} {k : Int → Heap → Prop} (h : v_store_Store_Append t0_ t1_ H k) : CallT Pg f_store_Store_Append [.pointer t0_, .slice t1_.a t1_.len t1_.cap] (.one (.c (.int .i64))) H k :=
  call_of_E Pg_mixed Try.func28 (by kernel_rfl) (by kernel_rfl) (by kernel_rfl) (by kernel_rfl) ((e_store_Store_Append t0_ t1_ H k).symm ▸ h)
/-- (*hindcast/store.Store).Sync -/
def v_store_Store_Sync (s_ : Option Addr) (H : Heap) (k : Int → Heap → Prop) : Prop :=
    NilCk s_ fun a1 =>
    Ld .bool (a1.add 2) H fun (x1 : Bool) =>
    Br x1 (
      k 30 H) (
      NilCk s_ fun a2 =>
      Ld .sl a2 H fun (x2 : Sl) =>
      NilCk s_ fun a3 =>
      St (a3.add 1) (.int .i64 (x2.len : Int)) H fun H1 =>
      k 0 H1)
def h_store_Store_Sync : Hint := .no
theorem e_store_Store_Sync (s_ : Option Addr) (H : Heap) (k : Int → Heap → Prop) : EFun Pg Try.f29 h_store_Store_Sync [.pointer s_] (.one (.c (.int .i64))) H k = v_store_Store_Sync s_ H k := by kernel_rfl
theorem c_store_Store_Sync (s_ : Option Addr) {H : Heap} {k : Int → Heap → Prop} (h : v_store_Store_Sync s_ H k) : CallT Pg f_store_Store_Sync [.pointer s_] (.one (.c (.int .i64))) H k :=
  call_of_E Pg_mixed Try.func29 (by kernel_rfl) (by kernel_rfl) (by kernel_rfl) (by kernel_rfl) ((e_store_Store_Sync s_ H k).symm ▸ h)
/-- (*hindcast/store.Store).Crash -/
def v_store_Store_Crash (s_ : Option Addr) (keep_ : Int) (junk_ : Sl) (H : Heap) (k : Int → Heap → Prop) : Prop :=
    NilCk s_ fun a1 =>
    Ld .bool (a1.add 2) H fun (x1 : Bool) =>
    Br x1 (
      k 30 H) (
      Br (decide (keep_ < 0)) (
        k 1 H) (
        NilCk s_ fun a2 =>
        Ld (.int .i64) (a2.add 1) H fun (x2 : Int) =>
        NilCk s_ fun a3 =>
        Ld .sl a3 H fun (x3 : Sl) =>
        NilCk s_ fun a4 =>
        Ld (.int .i64) (a4.add 1) H fun (x4 : Int) =>
        Lt (IntKind.wrap .i64 ((x3.len : Int) - x4)) fun t1 =>
        Lt (IntKind.wrap .i64 (x2 + (if t1 < keep_ then t1 else keep_))) fun t2 =>
        Lt (IntKind.wrap .i64 (t2 + (junk_.len : Int))) fun t3 =>
        Br (decide (t3 > 16777216)) (
          k 40 H) (
          NilCk s_ fun a5 =>
          Ld .sl a5 H fun (x5 : Sl) =>
          SlA 1 x5 0 t2 t2 fun l1 =>
          App T_uint8 1 1 #[.int .u8 0] l1 junk_ H fun l2 H1 =>
          NilCk s_ fun a6 =>
          St a6 (.slice l2.a l2.len l2.cap) H1 fun H2 =>
          CallT Pg f_store_Store_fail [.pointer s_] (.tup []) H2 fun (r1 : Unit) H3 =>
          k 0 H3)))
def h_store_Store_Crash : Hint := .no
theorem e_store_Store_Crash (s_ : Option Addr) (keep_ : Int) (junk_ : Sl) (H : Heap) (k : Int → Heap → Prop) : EFun Pg Try.f30 h_store_Store_Crash [.pointer s_, .int .i64 keep_, .slice junk_.a junk_.len junk_.cap] (.one (.c (.int .i64))) H k = v_store_Store_Crash s_ keep_ junk_ H k := by kernel_rfl
theorem c_store_Store_Crash (s_ : Option Addr) (keep_ : Int) (junk_ : Sl) {H : Heap} {k : Int → Heap → Prop} (h : v_store_Store_Crash s_ keep_ junk_ H k) : CallT Pg f_store_Store_Crash [.pointer s_, .int .i64 keep_, .slice junk_.a junk_.len junk_.cap] (.one (.c (.int .i64))) H k :=
  call_of_E Pg_mixed Try.func30 (by kernel_rfl) (by kernel_rfl) (by kernel_rfl) (by kernel_rfl) ((e_store_Store_Crash s_ keep_ junk_ H k).symm ▸ h)
/-- (*hindcast/store.Store).Bytes -/
def v_store_Store_Bytes (s_ : Option Addr) (H : Heap) (k : Sl → Heap → Prop) : Prop :=
    NilCk s_ fun a1 =>
    Ld .bool (a1.add 2) H fun (x1 : Bool) =>
    Br x1 (
      k ⟨none, 0, 0⟩ H) (
      NilCk s_ fun a2 =>
      Ld .sl a2 H fun (x2 : Sl) =>
      CallT Pg f_store_copied [.slice x2.a x2.len x2.cap] (.one (.c .sl)) H fun (r1 : Sl) H1 =>
      k r1 H1)
def h_store_Store_Bytes : Hint := .no
theorem e_store_Store_Bytes (s_ : Option Addr) (H : Heap) (k : Sl → Heap → Prop) : EFun Pg Try.f31 h_store_Store_Bytes [.pointer s_] (.one (.c .sl)) H k = v_store_Store_Bytes s_ H k := by kernel_rfl
theorem c_store_Store_Bytes (s_ : Option Addr) {H : Heap} {k : Sl → Heap → Prop} (h : v_store_Store_Bytes s_ H k) : CallT Pg f_store_Store_Bytes [.pointer s_] (.one (.c .sl)) H k :=
  call_of_E Pg_mixed Try.func31 (by kernel_rfl) (by kernel_rfl) (by kernel_rfl) (by kernel_rfl) ((e_store_Store_Bytes s_ H k).symm ▸ h)
/-- (*hindcast/store.Store).Restart -/
def v_store_Store_Restart (s_ : Option Addr) (H : Heap) (k : Unit → Heap → Prop) : Prop :=
    NilCk s_ fun a1 =>
    St (a1.add 2) (.bool false) H fun H1 =>
    NilCk s_ fun a2 =>
    St (a2.add 3) (.bool false) H1 fun H2 =>
    NilCk s_ fun a3 =>
    St (a3.add 4) (.int .i64 0) H2 fun H3 =>
    k () H3
def h_store_Store_Restart : Hint := .no
theorem e_store_Store_Restart (s_ : Option Addr) (H : Heap) (k : Unit → Heap → Prop) : EFun Pg Try.f32 h_store_Store_Restart [.pointer s_] (.tup []) H k = v_store_Store_Restart s_ H k := by kernel_rfl
theorem c_store_Store_Restart (s_ : Option Addr) {H : Heap} {k : Unit → Heap → Prop} (h : v_store_Store_Restart s_ H k) : CallT Pg f_store_Store_Restart [.pointer s_] (.tup []) H k :=
  call_of_E Pg_mixed Try.func32 (by kernel_rfl) (by kernel_rfl) (by kernel_rfl) (by kernel_rfl) ((e_store_Store_Restart s_ H k).symm ▸ h)
/-- (*hindcast/store.Store).State -/
def v_store_Store_State (s_ : Option Addr) (H : Heap) (k : Int × Int × Bool → Heap → Prop) : Prop :=
    NilCk s_ fun a1 =>
    Ld .sl a1 H fun (x1 : Sl) =>
    NilCk s_ fun a2 =>
    Ld (.int .i64) (a2.add 1) H fun (x2 : Int) =>
    NilCk s_ fun a3 =>
    Ld .bool (a3.add 2) H fun (x3 : Bool) =>
    k (((x1.len : Int), x2, !x3)) H
def h_store_Store_State : Hint := .no
theorem e_store_Store_State (s_ : Option Addr) (H : Heap) (k : Int × Int × Bool → Heap → Prop) : EFun Pg Try.f33 h_store_Store_State [.pointer s_] (.tup [(.c (.int .i64)), (.c (.int .i64)), (.c .bool)]) H k = v_store_Store_State s_ H k := by kernel_rfl
theorem c_store_Store_State (s_ : Option Addr) {H : Heap} {k : Int × Int × Bool → Heap → Prop} (h : v_store_Store_State s_ H k) : CallT Pg f_store_Store_State [.pointer s_] (.tup [(.c (.int .i64)), (.c (.int .i64)), (.c .bool)]) H k :=
  call_of_E Pg_mixed Try.func33 (by kernel_rfl) (by kernel_rfl) (by kernel_rfl) (by kernel_rfl) ((e_store_Store_State s_ H k).symm ▸ h)
/-- (*hindcast/store.Store).Fuse -/
def v_store_Store_Fuse (s_ : Option Addr) (n_ : Int) (H : Heap) (k : Int → Heap → Prop) : Prop :=
    NilCk s_ fun a1 =>
    Ld .bool (a1.add 2) H fun (x1 : Bool) =>
    Br x1 (
      k 30 H) (
      Br (decide (n_ < 0)) (
        k 1 H) (
        NilCk s_ fun a2 =>
        St (a2.add 3) (.bool true) H fun H1 =>
        NilCk s_ fun a3 =>
        St (a3.add 4) (.int .i64 n_) H1 fun H2 =>
        k 0 H2))
def h_store_Store_Fuse : Hint := .no
theorem e_store_Store_Fuse (s_ : Option Addr) (n_ : Int) (H : Heap) (k : Int → Heap → Prop) : EFun Pg Try.f34 h_store_Store_Fuse [.pointer s_, .int .i64 n_] (.one (.c (.int .i64))) H k = v_store_Store_Fuse s_ n_ H k := by kernel_rfl
theorem c_store_Store_Fuse (s_ : Option Addr) (n_ : Int) {H : Heap} {k : Int → Heap → Prop} (h : v_store_Store_Fuse s_ n_ H k) : CallT Pg f_store_Store_Fuse [.pointer s_, .int .i64 n_] (.one (.c (.int .i64))) H k :=
  call_of_E Pg_mixed Try.func34 (by kernel_rfl) (by kernel_rfl) (by kernel_rfl) (by kernel_rfl) ((e_store_Store_Fuse s_ n_ H k).symm ▸ h)
/-- hindcast/hindcastlaw03.made -/
def v_hindcastlaw03_made (b_ : Sl) (H : Heap) (k : Option Addr × Bool → Heap → Prop) : Prop :=
    CallT Pg f_hindcastlaw03_lent [.slice b_.a b_.len b_.cap] (.one (.c .sl)) H fun (r1 : Sl) H1 =>
    CallT Pg f_store_New [.slice r1.a r1.len r1.cap] (.tup [(.c .ptr), (.c (.int .i64))]) H1 fun (r2 : Option Addr × Int) H2 =>
    CallT Pg f_hindcastlaw03_back [.slice r1.a r1.len r1.cap, .slice b_.a b_.len b_.cap] (.one (.c .bool)) H2 fun (r3 : Bool) H3 =>
    CallT Pg f_hindcastref03_New [.slice b_.a b_.len b_.cap] (.tup [(.c .ptr), (.c (.int .i64))]) H3 fun (r4 : Option Addr × Int) H4 =>
    Jn (σ := Bool) /-  -/ (fun kk1 =>
      Br (!r3) (
        kk1 true H4) (
        Br (r2.2 != r4.2) (
          kk1 true H4) (
          kk1 (!(r2.1.isNone == r4.1.isNone)) H4))) fun j1 H5 =>
    Br j1 (
      k (none, false) H5) (
      Br r2.1.isNone (
        k (none, true) H5) (
        Nw #[.pointer r2.1, .pointer r4.1, .slice none 0 0, .int .i64 0] T_hindcastlaw03_pair H5 fun b1 H6 =>
        k ((some (adr b1), true)) H6))
def h_hindcastlaw03_made : Hint := (.two .no (.two .no (.two .no (.two .no (.two .no (.two (.two (.join [(38, (.c .bool))] .no) .no) .no))))))
theorem e_hindcastlaw03_made (b_ : Sl) (H : Heap) (k : Option Addr × Bool → Heap → Prop) : EFun Pg Try.f35 h_hindcastlaw03_made [.slice b_.a b_.len b_.cap] (.tup [(.c .ptr), (.c .bool)]) H k = v_hindcastlaw03_made b_ H k := by kernel_rfl
theorem c_hindcastlaw03_made (b_ : Sl) {H : Heap} {k : Option Addr × Bool → Heap → Prop} (h : v_hindcastlaw03_made b_ H k) : CallT Pg f_hindcastlaw03_made [.slice b_.a b_.len b_.cap] (.tup [(.c .ptr), (.c .bool)]) H k :=
  call_of_E Pg_mixed Try.func35 (by kernel_rfl) (by kernel_rfl) (by kernel_rfl) (by kernel_rfl) ((e_hindcastlaw03_made b_ H k).symm ▸ h)
/-- (*hindcast/hindcastlaw03.pair).step -/
def v_hindcastlaw03_pair_step (t0_ : Option Addr) (t1_ : Int × Int × Int × Sl) (H : Heap) (k : Bool → Heap → Prop) : Prop :=
    Nw #[.int .i64 t1_.1, .int .i64 t1_.2.1, .int .i64 t1_.2.2.1, .slice t1_.2.2.2.a t1_.2.2.2.len t1_.2.2.2.cap] T_hindcastlaw03_Op H fun b1 H1 =>
    Ld (.int .i64) (adr b1) H1 fun (x1 : Int) =>
    Jn (σ := Bool) /- t5 -/ (fun kk1 =>
      Jn (σ := Bool) /- t5 -/ (fun kk2 =>
        Br (x1 == 1) (
          Ld .sl ((adr b1).add 3) H1 fun (x2 : Sl) =>
          CallT Pg f_hindcastlaw03_lent [.slice x2.a x2.len x2.cap] (.one (.c .sl)) H1 fun (r1 : Sl) H4 =>
          NilCk t0_ fun a1 =>
          Ld .ptr a1 H4 fun (x3 : Option Addr) =>
          CallT Pg f_store_Store_Append [.pointer x3, .slice r1.a r1.len r1.cap] (.one (.c (.int .i64))) H4 fun (r2 : Int) H5 =>
          Ld .sl ((adr b1).add 3) H5 fun (x4 : Sl) =>
          CallT Pg f_hindcastlaw03_back [.slice r1.a r1.len r1.cap, .slice x4.a x4.len x4.cap] (.one (.c .bool)) H5 fun (r3 : Bool) H6 =>
          Jn (σ := Bool) /- t5 -/ (fun kk3 =>
            Br r3 (
              NilCk t0_ fun a2 =>
              Ld .ptr (a2.add 1) H6 fun (x5 : Option Addr) =>
              Ld .sl ((adr b1).add 3) H6 fun (x6 : Sl) =>
              CallT Pg f_hindcastref03_Store_Append [.pointer x5, .slice x6.a x6.len x6.cap] (.one (.c (.int .i64))) H6 fun (r4 : Int) H8 =>
              kk3 (r2 == r4) H8) (
              kk3 false H6)) fun j3 H7 =>
          Ld (.int .i64) ((adr b1).add 2) H7 fun (x7 : Int) =>
          Lt (bits .and .i64 x7 1) fun t1 =>
          Jn (σ := Bool) /- t5 -/ (fun kk4 =>
            Br (t1 == 1) (
              NilCk t0_ fun a3 =>
              Ld .ptr a3 H7 fun (x8 : Option Addr) =>
              CallT Pg f_store_Store_Append [.pointer x8, .slice r1.a r1.len r1.cap] (.one (.c (.int .i64))) H7 fun (r5 : Int) H10 =>
              Jn (σ := Bool) /- t5 -/ (fun kk5 =>
                Br j3 (
                  NilCk t0_ fun a4 =>
                  Ld .ptr (a4.add 1) H10 fun (x9 : Option Addr) =>
                  B2S r1 H10 fun y1 =>
                  Stab [(a4.add 1, .pointer x9)] H10 <|
                  S2B T_uint8 y1 H10 fun l1 H12 =>
                  Stab [(a4.add 1, .pointer x9)] H12 <|
                  CallT Pg f_hindcastref03_Store_Append [.pointer x9, .slice l1.a l1.len l1.cap] (.one (.c (.int .i64))) H12 fun (r6 : Int) H13 =>
                  kk5 (r5 == r6) H13) (
                  kk5 false H10)) fun j5 H11 =>
              kk4 j5 H11) (
              kk4 j3 H7)) fun j4 H9 =>
          kk2 j4 H9) (
          Jn (σ := Bool) /- t5 -/ (fun kk6 =>
            Br (x1 == 2) (
              NilCk t0_ fun a5 =>
              Ld .ptr a5 H1 fun (x10 : Option Addr) =>
              CallT Pg f_store_Store_Sync [.pointer x10] (.one (.c (.int .i64))) H1 fun (r7 : Int) H15 =>
              NilCk t0_ fun a6 =>
              Ld .ptr (a6.add 1) H15 fun (x11 : Option Addr) =>
              CallT Pg f_hindcastref03_Store_Sync [.pointer x11] (.one (.c (.int .i64))) H15 fun (r8 : Int) H16 =>
              kk6 (r7 == r8) H16) (
              Jn (σ := Bool) /- t5 -/ (fun kk7 =>
                Br (x1 == 3) (
                  NilCk t0_ fun a7 =>
                  Ld .ptr a7 H1 fun (x12 : Option Addr) =>
                  Ld (.int .i64) ((adr b1).add 2) H1 fun (x13 : Int) =>
                  CallT Pg f_store_Store_Cut [.pointer x12, .int .i64 x13] (.one (.c (.int .i64))) H1 fun (r9 : Int) H18 =>
                  NilCk t0_ fun a8 =>
                  Ld .ptr (a8.add 1) H18 fun (x14 : Option Addr) =>
                  Ld (.int .i64) ((adr b1).add 2) H18 fun (x15 : Int) =>
                  CallT Pg f_hindcastref03_Store_Cut [.pointer x14, .int .i64 x15] (.one (.c (.int .i64))) H18 fun (r10 : Int) H19 =>
                  kk7 (r9 == r10) H19) (
                  Jn (σ := Bool) /- t5 -/ (fun kk8 =>
                    Br (x1 == 4) (
                      NilCk t0_ fun a9 =>
                      Ld .ptr a9 H1 fun (x16 : Option Addr) =>
                      CallT Pg f_store_Store_Bytes [.pointer x16] (.one (.c .sl)) H1 fun (r11 : Sl) H21 =>
                      NilCk t0_ fun a10 =>
                      Ld .ptr a10 H21 fun (x17 : Option Addr) =>
                      CallT Pg f_store_Store_Bytes [.pointer x17] (.one (.c .sl)) H21 fun (r12 : Sl) H22 =>
                      NilCk t0_ fun a11 =>
                      Ld .ptr (a11.add 1) H22 fun (x18 : Option Addr) =>
                      CallT Pg f_hindcastref03_Store_Bytes [.pointer x18] (.one (.c .sl)) H22 fun (r13 : Sl) H23 =>
                      B2S r13 H23 fun y2 =>
                      Jn (σ := Bool) /- t5 -/ (fun kk9 =>
                        B2S r11 H23 fun y3 =>
                        Br (y3.toList == y2.toList) (
                          B2S r12 H23 fun y4 =>
                          kk9 (y4.toList == y2.toList) H23) (
                          kk9 false H23)) fun j9 H24 =>
                      CallT Pg f_hindcastlaw03_pair_keep [.pointer t0_, .slice r11.a r11.len r11.cap] (.tup []) H24 fun (r14 : Unit) H25 =>
                      Jn (σ := Bool) /- t5 -/ (fun kk10 =>
                        Br j9 (
                          B2S r12 H25 fun y5 =>
                          kk10 (y5.toList == y2.toList) H25) (
                          kk10 false H25)) fun j10 H26 =>
                      CallT Pg f_hindcastlaw03_pair_keep [.pointer t0_, .slice r12.a r12.len r12.cap] (.tup []) H26 fun (r15 : Unit) H27 =>
                      kk8 j10 H27) (
                      Jn (σ := Bool) /- t5 -/ (fun kk11 =>
                        Br (x1 == 5) (
                          NilCk t0_ fun a12 =>
                          Ld .ptr a12 H1 fun (x19 : Option Addr) =>
                          Ld (.int .i64) ((adr b1).add 2) H1 fun (x20 : Int) =>
                          CallT Pg f_store_Store_Fuse [.pointer x19, .int .i64 x20] (.one (.c (.int .i64))) H1 fun (r16 : Int) H29 =>
                          NilCk t0_ fun a13 =>
                          Ld .ptr (a13.add 1) H29 fun (x21 : Option Addr) =>
                          Ld (.int .i64) ((adr b1).add 2) H29 fun (x22 : Int) =>
                          CallT Pg f_hindcastref03_Store_Fuse [.pointer x21, .int .i64 x22] (.one (.c (.int .i64))) H29 fun (r17 : Int) H30 =>
                          kk11 (r16 == r17) H30) (
                          Jn (σ := Bool) /- t5 -/ (fun kk12 =>
                            Br (x1 == 6) (
                              Ld .sl ((adr b1).add 3) H1 fun (x23 : Sl) =>
                              CallT Pg f_hindcastlaw03_lent [.slice x23.a x23.len x23.cap] (.one (.c .sl)) H1 fun (r18 : Sl) H32 =>
                              NilCk t0_ fun a14 =>
                              Ld .ptr a14 H32 fun (x24 : Option Addr) =>
                              Ld (.int .i64) ((adr b1).add 2) H32 fun (x25 : Int) =>
                              CallT Pg f_store_Store_Crash [.pointer x24, .int .i64 x25, .slice r18.a r18.len r18.cap] (.one (.c (.int .i64))) H32 fun (r19 : Int) H33 =>
                              Ld .sl ((adr b1).add 3) H33 fun (x26 : Sl) =>
                              CallT Pg f_hindcastlaw03_back [.slice r18.a r18.len r18.cap, .slice x26.a x26.len x26.cap] (.one (.c .bool)) H33 fun (r20 : Bool) H34 =>
                              Jn (σ := Bool) /- t5 -/ (fun kk13 =>
                                Br r20 (
                                  NilCk t0_ fun a15 =>
                                  Ld .ptr (a15.add 1) H34 fun (x27 : Option Addr) =>
                                  Ld (.int .i64) ((adr b1).add 2) H34 fun (x28 : Int) =>
                                  Ld .sl ((adr b1).add 3) H34 fun (x29 : Sl) =>
                                  CallT Pg f_hindcastref03_Store_Crash [.pointer x27, .int .i64 x28, .slice x29.a x29.len x29.cap] (.one (.c (.int .i64))) H34 fun (r21 : Int) H36 =>
                                  kk13 (r19 == r21) H36) (
                                  kk13 false H34)) fun j13 H35 =>
                              kk12 j13 H35) (
                              Jn (σ := Unit) /-  -/ (fun kk14 =>
                                Br (x1 == 7) (
                                  NilCk t0_ fun a16 =>
                                  Ld .ptr a16 H1 fun (x30 : Option Addr) =>
                                  CallT Pg f_store_Store_Restart [.pointer x30] (.tup []) H1 fun (r22 : Unit) H38 =>
                                  NilCk t0_ fun a17 =>
                                  Ld .ptr (a17.add 1) H38 fun (x31 : Option Addr) =>
                                  CallT Pg f_hindcastref03_Store_Restart [.pointer x31] (.tup []) H38 fun (r23 : Unit) H39 =>
                                  kk14 () H39) (
                                  kk14 () H1)) fun j14 H37 =>
                              kk12 true H37)) fun j12 H31 =>
                          kk11 j12 H31)) fun j11 H28 =>
                      kk8 j11 H28)) fun j8 H20 =>
                  kk7 j8 H20)) fun j7 H17 =>
              kk6 j7 H17)) fun j6 H14 =>
          kk2 j6 H14)) fun j2 H3 =>
      kk1 j2 H3) fun j1 H2 =>
    NilCk t0_ fun a18 =>
    Ld .ptr a18 H2 fun (x32 : Option Addr) =>
    CallT Pg f_store_Store_State [.pointer x32] (.tup [(.c (.int .i64)), (.c (.int .i64)), (.c .bool)]) H2 fun (r24 : Int × Int × Bool) H40 =>
    NilCk t0_ fun a19 =>
    Ld .ptr (a19.add 1) H40 fun (x33 : Option Addr) =>
    CallT Pg f_hindcastref03_Store_State [.pointer x33] (.tup [(.c (.int .i64)), (.c (.int .i64)), (.c .bool)]) H40 fun (r25 : Int × Int × Bool) H41 =>
    Jn (σ := Bool) /- t4 -/ (fun kk15 =>
      Br j1 (
        Br (r24.1 == r25.1) (
          Br (r24.2.1 == r25.2.1) (
            kk15 (r24.2.2 == r25.2.2) H41) (
            kk15 false H41)) (
          kk15 false H41)) (
        kk15 false H41)) fun j15 H42 =>
    k j15 H42
def h_hindcastlaw03_pair_step : Hint := (.two .no (.two .no (.two (.two .no (.join [(5, (.c .bool))] (.one (.two .no (.join [(5, (.c .bool))] (.two (.two .no (.two .no (.two .no (.two (.join [(5, (.c .bool))] .no) (.two .no (.join [(5, (.c .bool))] (.two (.two .no (.join [(5, (.c .bool))] .no)) .no))))))) (.two .no (.join [(5, (.c .bool))] (.two .no (.two .no (.join [(5, (.c .bool))] (.two .no (.two .no (.join [(5, (.c .bool))] (.two (.two .no (.two .no (.two .no (.two (.join [(5, (.c .bool))] .no) (.two .no (.two (.join [(5, (.c .bool))] .no) .no)))))) (.two .no (.join [(5, (.c .bool))] (.two .no (.two .no (.join [(5, (.c .bool))] (.two (.two .no (.two .no (.two .no (.join [(5, (.c .bool))] .no)))) (.two .no (.join [] .no))))))))))))))))))))))) (.two .no (.two .no (.two (.join [(4, (.c .bool))] .no) .no))))))
theorem e_hindcastlaw03_pair_step (t0_ : Option Addr) (t1_ : Int × Int × Int × Sl) (H : Heap) (k : Bool → Heap → Prop) : EFun Pg Try.f36 h_hindcastlaw03_pair_step [.pointer t0_, .agg #[.int .i64 t1_.1, .int .i64 t1_.2.1, .int .i64 t1_.2.2.1, .slice t1_.2.2.2.a t1_.2.2.2.len t1_.2.2.2.cap]] (.one (.c .bool)) H k = v_hindcastlaw03_pair_step t0_ t1_ H k := by kernel_rfl
theorem c_hindcastlaw03_pair_step (t0_ : Option Addr) (t1_ : Int × Int × Int × Sl) {H : Heap} {k : Bool → Heap → Prop} (h : v_hindcastlaw03_pair_step t0_ t1_ H k) : CallT Pg f_hindcastlaw03_pair_step [.pointer t0_, .agg #[.int .i64 t1_.1, .int .i64 t1_.2.1, .int .i64 t1_.2.2.1, .slice t1_.2.2.2.a t1_.2.2.2.len t1_.2.2.2.cap]] (.one (.c .bool)) H k :=
  call_of_E Pg_mixed Try.func36 (by kernel_rfl) (by kernel_rfl) (by kernel_rfl) (by kernel_rfl) ((e_hindcastlaw03_pair_step t0_ t1_ H k).symm ▸ h)
/-- (*hindcast/hindcastlaw03.pair).looks -/
def v_hindcastlaw03_pair_looks (p_ : Option Addr) (H : Heap) (k : Bool → Heap → Prop) : Prop :=
    LoopT (σ := Int) /- i -/ (fun next1 s1 H1 =>
      NilCk p_ fun a1 =>
      Ld .sl (a1.add 2) H1 fun (x1 : Sl) =>
      Br (decide (s1 < (x1.len : Int))) (
        LoopT (σ := Int) /- k -/ (fun next2 s2 H2 =>
          NilCk p_ fun a2 =>
          Ld .sl (a2.add 2) H2 fun (x2 : Sl) =>
          IxA 2 x2 s1 fun a3 =>
          Ld .sl a3 H2 fun (x3 : Sl) =>
          Br (decide (s2 < (x3.len : Int))) (
            NilCk p_ fun a4 =>
            Ld .sl (a4.add 2) H2 fun (x4 : Sl) =>
            IxA 2 x4 s1 fun a5 =>
            Ld .sl a5 H2 fun (x5 : Sl) =>
            IxA 1 x5 s2 fun a6 =>
            Ld (.int .u8) a6 H2 fun (x6 : Int) =>
            NilCk p_ fun a7 =>
            Ld .sl (a7.add 2) H2 fun (x7 : Sl) =>
            IxA 2 x7 s1 fun a8 =>
            Ld (.int .u8) (a8.add 1) H2 fun (x8 : Int) =>
            Br (x6 != x8) (
              k false H2) (
              Lt (IntKind.wrap .i64 (s2 + 1)) fun t1 =>
              next2 t1 H2)) (
            Lt (IntKind.wrap .i64 (s1 + 1)) fun t2 =>
            next1 t2 H2)) 0 H1) (
        k true H1)) 0 H
def h_hindcastlaw03_pair_looks : Hint := (.two .no (.two (.two .no (.one (.loop [(3, (.c (.int .i64)))] (.two .no (.two (.one (.two .no (.one (.loop [(4, (.c (.int .i64)))] .no)))) .no))))) .no))
theorem e_hindcastlaw03_pair_looks (p_ : Option Addr) (H : Heap) (k : Bool → Heap → Prop) : EFun Pg Try.f37 h_hindcastlaw03_pair_looks [.pointer p_] (.one (.c .bool)) H k = v_hindcastlaw03_pair_looks p_ H k := by kernel_rfl
theorem c_hindcastlaw03_pair_looks (p_ : Option Addr) {H : Heap} {k : Bool → Heap → Prop} (h : v_hindcastlaw03_pair_looks p_ H k) : CallT Pg f_hindcastlaw03_pair_looks [.pointer p_] (.one (.c .bool)) H k :=
  call_of_E Pg_mixed Try.func37 (by kernel_rfl) (by kernel_rfl) (by kernel_rfl) (by kernel_rfl) ((e_hindcastlaw03_pair_looks p_ H k).symm ▸ h)
/-- hindcast/store.copied -/
def v_store_copied (b_ : Sl) (H : Heap) (k : Sl → Heap → Prop) : Prop :=
    Mks T_uint8 1 1 #[.int .u8 0] (b_.len : Int) (b_.len : Int) H fun l1 H1 =>
    Cpy 1 l1 b_ H1 fun n1 H2 =>
    k l1 H2
def h_store_copied : Hint := .no
theorem e_store_copied (b_ : Sl) (H : Heap) (k : Sl → Heap → Prop) : EFun Pg Try.f60 h_store_copied [.slice b_.a b_.len b_.cap] (.one (.c .sl)) H k = v_store_copied b_ H k := by kernel_rfl
theorem c_store_copied (b_ : Sl) {H : Heap} {k : Sl → Heap → Prop} (h : v_store_copied b_ H k) : CallT Pg f_store_copied [.slice b_.a b_.len b_.cap] (.one (.c .sl)) H k :=
  call_of_E Pg_mixed Try.func60 (by kernel_rfl) (by kernel_rfl) (by kernel_rfl) (by kernel_rfl) ((e_store_copied b_ H k).symm ▸ h)
/-- (*hindcast/store.Store).fail -/
def v_store_Store_fail (s_ : Option Addr) (H : Heap) (k : Unit → Heap → Prop) : Prop :=
    NilCk s_ fun a1 =>
    Ld .sl a1 H fun (x1 : Sl) =>
    NilCk s_ fun a2 =>
    St (a2.add 1) (.int .i64 (x1.len : Int)) H fun H1 =>
    NilCk s_ fun a3 =>
    St (a3.add 2) (.bool true) H1 fun H2 =>
    NilCk s_ fun a4 =>
    St (a4.add 3) (.bool false) H2 fun H3 =>
    NilCk s_ fun a5 =>
    St (a5.add 4) (.int .i64 0) H3 fun H4 =>
    k () H4
def h_store_Store_fail : Hint := .no
theorem e_store_Store_fail (s_ : Option Addr) (H : Heap) (k : Unit → Heap → Prop) : EFun Pg Try.f61 h_store_Store_fail [.pointer s_] (.tup []) H k = v_store_Store_fail s_ H k := by kernel_rfl
theorem c_store_Store_fail (s_ : Option Addr) {H : Heap} {k : Unit → Heap → Prop} (h : v_store_Store_fail s_ H k) : CallT Pg f_store_Store_fail [.pointer s_] (.tup []) H k :=
  call_of_E Pg_mixed Try.func61 (by kernel_rfl) (by kernel_rfl) (by kernel_rfl) (by kernel_rfl) ((e_store_Store_fail s_ H k).symm ▸ h)
/-- hindcast/hindcastlaw03.lent -/
def v_hindcastlaw03_lent (b_ : Sl) (H : Heap) (k : Sl → Heap → Prop) : Prop :=
    Lt (IntKind.wrap .i64 ((b_.len : Int) + 8)) fun t1 =>
    Mks T_uint8 1 1 #[.int .u8 0] t1 t1 H fun l1 H1 =>
    Cpy 1 l1 b_ H1 fun n1 H2 =>
    LoopT (σ := Int) /- i -/ (fun next1 s1 H3 =>
      Br (decide (s1 < (l1.len : Int))) (
        IxA 1 l1 s1 fun a1 =>
        St a1 (.int .u8 201) H3 fun H4 =>
        Lt (IntKind.wrap .i64 (s1 + 1)) fun t2 =>
        next1 t2 H4) (
        SlA 1 l1 0 (b_.len : Int) (l1.cap : Nat) fun l2 =>
        k l2 H3)) (b_.len : Int) H2
def h_hindcastlaw03_lent : Hint := (.two .no (.two .no (.two .no (.two (.two .no (.one (.loop [(4, (.c (.int .i64)))] .no))) .no))))
theorem e_hindcastlaw03_lent (b_ : Sl) (H : Heap) (k : Sl → Heap → Prop) : EFun Pg Try.f62 h_hindcastlaw03_lent [.slice b_.a b_.len b_.cap] (.one (.c .sl)) H k = v_hindcastlaw03_lent b_ H k := by kernel_rfl
theorem c_hindcastlaw03_lent (b_ : Sl) {H : Heap} {k : Sl → Heap → Prop} (h : v_hindcastlaw03_lent b_ H k) : CallT Pg f_hindcastlaw03_lent [.slice b_.a b_.len b_.cap] (.one (.c .sl)) H k :=
  call_of_E Pg_mixed Try.func62 (by kernel_rfl) (by kernel_rfl) (by kernel_rfl) (by kernel_rfl) ((e_hindcastlaw03_lent b_ H k).symm ▸ h)
/-- hindcast/hindcastlaw03.back -/
def v_hindcastlaw03_back (l_ : Sl) (b_ : Sl) (H : Heap) (k : Bool → Heap → Prop) : Prop :=
    Lt (IntKind.wrap .i64 ((b_.len : Int) + 8)) fun t1 =>
    SlA 1 l_ 0 t1 (l_.cap : Nat) fun l1 =>
    LoopT (σ := Bool × Int) /- ok, i -/ (fun next1 s1 H1 =>
      Br (decide (s1.2 < (l1.len : Int))) (
        Jn (σ := Bool) /- ok -/ (fun kk1 =>
          Br (decide (s1.2 < (b_.len : Int))) (
            Jn (σ := Bool) /- ok -/ (fun kk2 =>
              Br s1.1 (
                IxA 1 l1 s1.2 fun a1 =>
                Ld (.int .u8) a1 H1 fun (x1 : Int) =>
                IxA 1 b_ s1.2 fun a2 =>
                Ld (.int .u8) a2 H1 fun (x2 : Int) =>
                kk2 (x1 == x2) H1) (
                kk2 false H1)) fun j2 H3 =>
            kk1 j2 H3) (
            Jn (σ := Bool) /- ok -/ (fun kk3 =>
              Br s1.1 (
                IxA 1 l1 s1.2 fun a3 =>
                Ld (.int .u8) a3 H1 fun (x3 : Int) =>
                kk3 (x3 == 201) H1) (
                kk3 false H1)) fun j3 H4 =>
            kk1 j3 H4)) fun j1 H2 =>
        IxA 1 l1 s1.2 fun a4 =>
        St a4 (.int .u8 202) H2 fun H5 =>
        Lt (IntKind.wrap .i64 (s1.2 + 1)) fun t2 =>
        next1 (j1, t2) H5) (
        k s1.1 H1)) (true, 0) H
def h_hindcastlaw03_back : Hint := (.two .no (.two .no (.two .no (.two (.two .no (.one (.loop [(6, (.c .bool)), (7, (.c (.int .i64)))] (.two .no (.two (.one (.two (.two .no (.join [(6, (.c .bool))] (.two (.join [(6, (.c .bool))] .no) (.join [(6, (.c .bool))] .no)))) .no)) .no))))) .no))))
theorem e_hindcastlaw03_back (l_ : Sl) (b_ : Sl) (H : Heap) (k : Bool → Heap → Prop) : EFun Pg Try.f63 h_hindcastlaw03_back [.slice l_.a l_.len l_.cap, .slice b_.a b_.len b_.cap] (.one (.c .bool)) H k = v_hindcastlaw03_back l_ b_ H k := by kernel_rfl
theorem c_hindcastlaw03_back (l_ : Sl) (b_ : Sl) {H : Heap} {k : Bool → Heap → Prop} (h : v_hindcastlaw03_back l_ b_ H k) : CallT Pg f_hindcastlaw03_back [.slice l_.a l_.len l_.cap, .slice b_.a b_.len b_.cap] (.one (.c .bool)) H k :=
  call_of_E Pg_mixed Try.func63 (by kernel_rfl) (by kernel_rfl) (by kernel_rfl) (by kernel_rfl) ((e_hindcastlaw03_back l_ b_ H k).symm ▸ h)
/-- hindcast/hindcastref03.New -/
def v_hindcastref03_New (b_ : Sl) (H : Heap) (k : Option Addr × Int → Heap → Prop) : Prop :=
    Br (decide ((b_.len : Int) > 16777216)) (
      k (none, 1) H) (
      CallT Pg f_hindcastref03_joined [.slice b_.a b_.len b_.cap, .slice none 0 0] (.one (.c .sl)) H fun (r1 : Sl) H1 =>
      Nw #[.slice r1.a r1.len r1.cap, .slice none 0 0, .bool false, .int .i64 (-1)] T_hindcastref03_Store H1 fun b1 H2 =>
      k ((some (adr b1), 0)) H2)
def h_hindcastref03_New : Hint := .no
theorem e_hindcastref03_New (b_ : Sl) (H : Heap) (k : Option Addr × Int → Heap → Prop) : EFun Pg Try.f64 h_hindcastref03_New [.slice b_.a b_.len b_.cap] (.tup [(.c .ptr), (.c (.int .i64))]) H k = v_hindcastref03_New b_ H k := by kernel_rfl
theorem c_hindcastref03_New (b_ : Sl) {H : Heap} {k : Option Addr × Int → Heap → Prop} (h : v_hindcastref03_New b_ H k) : CallT Pg f_hindcastref03_New [.slice b_.a b_.len b_.cap] (.tup [(.c .ptr), (.c (.int .i64))]) H k :=
  call_of_E Pg_mixed Try.func64 (by kernel_rfl) (by kernel_rfl) (by kernel_rfl) (by kernel_rfl) ((e_hindcastref03_New b_ H k).symm ▸ h)
/-- (*hindcast/hindcastref03.Store).Append -/
def v_hindcastref03_Store_Append (t0_ : Option Addr) (t1_ : Sl) (H : Heap) (k : Int → Heap → Prop) : Prop :=
    NilCk t0_ fun a1 =>
    Ld .bool (a1.add 2) H fun (x1 : Bool) =>
    Br x1 (
      k 30 H) (
      CallT Pg f_hindcastref03_Store_size [.pointer t0_] (.one (.c (.int .i64))) H fun (r1 : Int) H1 =>
      Lt (IntKind.wrap .i64 (r1 + (t1_.len : Int))) fun t1 =>
      Br (decide (t1 > 16777216)) (
        k 40 H1) (
        NilCk t0_ fun a2 =>
        Ld (.int .i64) (a2.add 3) H1 fun (x2 : Int) =>
        Br (decide (x2 < 0)) (
          NilCk t0_ fun a3 =>
          Ld .sl (a3.add 1) H1 fun (x3 : Sl) =>
          CallT Pg f_hindcastref03_joined [.slice x3.a x3.len x3.cap, .slice t1_.a t1_.len t1_.cap] (.one (.c .sl)) H1 fun (r2 : Sl) H2 =>
          NilCk t0_ fun a4 =>
          St (a4.add 1) (.slice r2.a r2.len r2.cap) H2 fun H3 =>
          k 0 H3) (
          NilCk t0_ fun a5 =>
          Ld (.int .i64) (a5.add 3) H1 fun (x4 : Int) =>
          Br (decide ((t1_.len : Int) ≤ x4)) (
            NilCk t0_ fun a6 =>
            Ld .sl (a6.add 1) H1 fun (x5 : Sl) =>
            CallT Pg f_hindcastref03_joined [.slice x5.a x5.len x5.cap, .slice t1_.a t1_.len t1_.cap] (.one (.c .sl)) H1 fun (r3 : Sl) H4 =>
            NilCk t0_ fun a7 =>
            St (a7.add 1) (.slice r3.a r3.len r3.cap) H4 fun H5 =>
            NilCk t0_ fun a8 =>
            Ld (.int .i64) (a8.add 3) H5 fun (x6 : Int) =>
            Lt (IntKind.wrap .i64 (x6 - (t1_.len : Int))) fun t2 =>
            NilCk t0_ fun a9 =>
            St (a9.add 3) (.int .i64 t2) H5 fun H6 =>
            k 0 H6) (
            NilCk t0_ fun a10 =>
            Ld .sl (a10.add 1) H1 fun (x7 : Sl) =>
            NilCk t0_ fun a11 =>
            Ld (.int .i64) (a11.add 3) H1 fun (x8 : Int) =>
            SlA 1 t1_ 0 x8 (t1_.cap : Nat) fun l1 =>
            CallT Pg f_hindcastref03_joined [.slice x7.a x7.len x7.cap, .slice l1.a l1.len l1.cap] (.one (.c .sl)) H1 fun (r4 : Sl) H7 =>
            Stab [(a11.add 3, .int .i64 x8)] H7 <|
            NilCk t0_ fun a12 =>
            St (a12.add 1) (.slice r4.a r4.len r4.cap) H7 fun H8 =>
            NilCk t0_ fun a13 =>
            Ld .sl (a13.add 1) H8 fun (x9 : Sl) =>
            CallT Pg f_hindcastref03_Store_fails [.pointer t0_, .int .i64 (x9.len : Int), .slice none 0 0] (.tup []) H8 fun (r5 : Unit) H9 =>
            k 30 H9))))
def h_hindcastref03_Store_Append : Hint := .no
theorem e_hindcastref03_Store_Append (t0_ : Option Addr) (t1_ : Sl) (H : Heap) (k : Int → Heap → Prop) : EFun Pg Try.f65 h_hindcastref03_Store_Append [.pointer t0_, .slice t1_.a t1_.len t1_.cap] (.one (.c (.int .i64))) H k = v_hindcastref03_Store_Append t0_ t1_ H k := by kernel_rfl
theorem c_hindcastref03_Store_Append (t0_ : Option Addr) (t1_ : Sl) {H : Heap} {k : Int → Heap → Prop} (h : v_hindcastref03_Store_Append t0_ t1_ H k) : CallT Pg f_hindcastref03_Store_Append [.pointer t0_, .slice t1_.a t1_.len t1_.cap] (.one (.c (.int .i64))) H k :=
  call_of_E Pg_mixed Try.func65 (by kernel_rfl) (by kernel_rfl) (by kernel_rfl) (by kernel_rfl) ((e_hindcastref03_Store_Append t0_ t1_ H k).symm ▸ h)
/-- (*hindcast/hindcastref03.Store).Sync -/
def v_hindcastref03_Store_Sync (s_ : Option Addr) (H : Heap) (k : Int → Heap → Prop) : Prop :=
    NilCk s_ fun a1 =>
    Ld .bool (a1.add 2) H fun (x1 : Bool) =>
    Br x1 (
      k 30 H) (
      NilCk s_ fun a2 =>
      Ld .sl a2 H fun (x2 : Sl) =>
      NilCk s_ fun a3 =>
      Ld .sl (a3.add 1) H fun (x3 : Sl) =>
      CallT Pg f_hindcastref03_joined [.slice x2.a x2.len x2.cap, .slice x3.a x3.len x3.cap] (.one (.c .sl)) H fun (r1 : Sl) H1 =>
      NilCk s_ fun a4 =>
      St a4 (.slice r1.a r1.len r1.cap) H1 fun H2 =>
      NilCk s_ fun a5 =>
      St (a5.add 1) (.slice none 0 0) H2 fun H3 =>
      k 0 H3)
def h_hindcastref03_Store_Sync : Hint := .no
theorem e_hindcastref03_Store_Sync (s_ : Option Addr) (H : Heap) (k : Int → Heap → Prop) : EFun Pg Try.f66 h_hindcastref03_Store_Sync [.pointer s_] (.one (.c (.int .i64))) H k = v_hindcastref03_Store_Sync s_ H k := by kernel_rfl
theorem c_hindcastref03_Store_Sync (s_ : Option Addr) {H : Heap} {k : Int → Heap → Prop} (h : v_hindcastref03_Store_Sync s_ H k) : CallT Pg f_hindcastref03_Store_Sync [.pointer s_] (.one (.c (.int .i64))) H k :=
  call_of_E Pg_mixed Try.func66 (by kernel_rfl) (by kernel_rfl) (by kernel_rfl) (by kernel_rfl) ((e_hindcastref03_Store_Sync s_ H k).symm ▸ h)
/-- (*hindcast/store.Store).Cut -/
def v_store_Store_Cut (s_ : Option Addr) (n_ : Int) (H : Heap) (k : Int → Heap → Prop) : Prop :=
    NilCk s_ fun a1 =>
    Ld .bool (a1.add 2) H fun (x1 : Bool) =>
    Br x1 (
      k 30 H) (
      Jn (σ := Bool) /-  -/ (fun kk1 =>
        Br (decide (n_ < 0)) (
          kk1 true H) (
          NilCk s_ fun a2 =>
          Ld .sl a2 H fun (x2 : Sl) =>
          kk1 (decide (n_ > (x2.len : Int))) H)) fun j1 H1 =>
      Br j1 (
        k 1 H1) (
        NilCk s_ fun a3 =>
        Ld .sl a3 H1 fun (x3 : Sl) =>
        SlA 1 x3 0 n_ (x3.cap : Nat) fun l1 =>
        NilCk s_ fun a4 =>
        St a4 (.slice l1.a l1.len l1.cap) H1 fun H2 =>
        NilCk s_ fun a5 =>
        Ld (.int .i64) (a5.add 1) H2 fun (x4 : Int) =>
        NilCk s_ fun a6 =>
        St (a6.add 1) (.int .i64 (if n_ < x4 then n_ else x4)) H2 fun H3 =>
        k 0 H3))
def h_store_Store_Cut : Hint := (.two .no (.two (.one (.two .no (.two .no (.two (.join [(10, (.c .bool))] .no) .no)))) .no))
theorem e_store_Store_Cut (s_ : Option Addr) (n_ : Int) (H : Heap) (k : Int → Heap → Prop) : EFun Pg Try.f67 h_store_Store_Cut [.pointer s_, .int .i64 n_] (.one (.c (.int .i64))) H k = v_store_Store_Cut s_ n_ H k := by kernel_rfl
theorem c_store_Store_Cut (s_ : Option Addr) (n_ : Int) {H : Heap} {k : Int → Heap → Prop} (h : v_store_Store_Cut s_ n_ H k) : CallT Pg f_store_Store_Cut [.pointer s_, .int .i64 n_] (.one (.c (.int .i64))) H k :=
  call_of_E Pg_mixed Try.func67 (by kernel_rfl) (by kernel_rfl) (by kernel_rfl) (by kernel_rfl) ((e_store_Store_Cut s_ n_ H k).symm ▸ h)
/-- (*hindcast/hindcastref03.Store).Cut -/
def v_hindcastref03_Store_Cut (s_ : Option Addr) (n_ : Int) (H : Heap) (k : Int → Heap → Prop) : Prop :=
    Jn (σ := Unit) /-  -/ (fun kk1 =>
      NilCk s_ fun a1 =>
      Ld .bool (a1.add 2) H fun (x1 : Bool) =>
      Br x1 (
        k 30 H) (
        Jn (σ := Bool) /-  -/ (fun kk2 =>
          Br (decide (n_ < 0)) (
            kk2 true H) (
            CallT Pg f_hindcastref03_Store_size [.pointer s_] (.one (.c (.int .i64))) H fun (r1 : Int) H3 =>
            kk2 (decide (n_ > r1)) H3)) fun j2 H2 =>
        Br j2 (
          k 1 H2) (
          NilCk s_ fun a2 =>
          Ld .sl a2 H2 fun (x2 : Sl) =>
          Jn (σ := Unit) /-  -/ (fun kk3 =>
            Br (decide (n_ ≤ (x2.len : Int))) (
              NilCk s_ fun a3 =>
              Ld .sl a3 H2 fun (x3 : Sl) =>
              SlA 1 x3 0 n_ (x3.cap : Nat) fun l1 =>
              CallT Pg f_hindcastref03_joined [.slice l1.a l1.len l1.cap, .slice none 0 0] (.one (.c .sl)) H2 fun (r2 : Sl) H5 =>
              NilCk s_ fun a4 =>
              St a4 (.slice r2.a r2.len r2.cap) H5 fun H6 =>
              NilCk s_ fun a5 =>
              St (a5.add 1) (.slice none 0 0) H6 fun H7 =>
              kk3 () H7) (
              NilCk s_ fun a6 =>
              Ld .sl (a6.add 1) H2 fun (x4 : Sl) =>
              NilCk s_ fun a7 =>
              Ld .sl a7 H2 fun (x5 : Sl) =>
              Lt (IntKind.wrap .i64 (n_ - (x5.len : Int))) fun t1 =>
              SlA 1 x4 0 t1 (x4.cap : Nat) fun l2 =>
              CallT Pg f_hindcastref03_joined [.slice l2.a l2.len l2.cap, .slice none 0 0] (.one (.c .sl)) H2 fun (r3 : Sl) H8 =>
              Stab [(a7, .slice x5.a x5.len x5.cap), (a6.add 1, .slice x4.a x4.len x4.cap)] H8 <|
              NilCk s_ fun a8 =>
              St (a8.add 1) (.slice r3.a r3.len r3.cap) H8 fun H9 =>
              kk3 () H9)) fun j3 H4 =>
          kk1 () H4))) fun j1 H1 =>
    k 0 H1
def h_hindcastref03_Store_Cut : Hint := (.two .no (.two (.join [] (.one (.two .no (.two .no (.two (.join [(26, (.c .bool))] .no) (.two .no (.two .no (.join [] .no)))))))) .no))
theorem e_hindcastref03_Store_Cut (s_ : Option Addr) (n_ : Int) (H : Heap) (k : Int → Heap → Prop) : EFun Pg Try.f68 h_hindcastref03_Store_Cut [.pointer s_, .int .i64 n_] (.one (.c (.int .i64))) H k = v_hindcastref03_Store_Cut s_ n_ H k := by kernel_rfl
theorem c_hindcastref03_Store_Cut (s_ : Option Addr) (n_ : Int) {H : Heap} {k : Int → Heap → Prop} (h : v_hindcastref03_Store_Cut s_ n_ H k) : CallT Pg f_hindcastref03_Store_Cut [.pointer s_, .int .i64 n_] (.one (.c (.int .i64))) H k :=
  call_of_E Pg_mixed Try.func68 (by kernel_rfl) (by kernel_rfl) (by kernel_rfl) (by kernel_rfl) ((e_hindcastref03_Store_Cut s_ n_ H k).symm ▸ h)
/-- (*hindcast/hindcastref03.Store).Bytes -/
def v_hindcastref03_Store_Bytes (s_ : Option Addr) (H : Heap) (k : Sl → Heap → Prop) : Prop :=
    NilCk s_ fun a1 =>
    Ld .bool (a1.add 2) H fun (x1 : Bool) =>
    Br x1 (
      k ⟨none, 0, 0⟩ H) (
      NilCk s_ fun a2 =>
      Ld .sl a2 H fun (x2 : Sl) =>
      NilCk s_ fun a3 =>
      Ld .sl (a3.add 1) H fun (x3 : Sl) =>
      CallT Pg f_hindcastref03_joined [.slice x2.a x2.len x2.cap, .slice x3.a x3.len x3.cap] (.one (.c .sl)) H fun (r1 : Sl) H1 =>
      k r1 H1)
def h_hindcastref03_Store_Bytes : Hint := .no
theorem e_hindcastref03_Store_Bytes (s_ : Option Addr) (H : Heap) (k : Sl → Heap → Prop) : EFun Pg Try.f69 h_hindcastref03_Store_Bytes [.pointer s_] (.one (.c .sl)) H k = v_hindcastref03_Store_Bytes s_ H k := by kernel_rfl
theorem c_hindcastref03_Store_Bytes (s_ : Option Addr) {H : Heap} {k : Sl → Heap → Prop} (h : v_hindcastref03_Store_Bytes s_ H k) : CallT Pg f_hindcastref03_Store_Bytes [.pointer s_] (.one (.c .sl)) H k :=
  call_of_E Pg_mixed Try.func69 (by kernel_rfl) (by kernel_rfl) (by kernel_rfl) (by kernel_rfl) ((e_hindcastref03_Store_Bytes s_ H k).symm ▸ h)
/-- (*hindcast/hindcastlaw03.pair).keep -/
def v_hindcastlaw03_pair_keep (t0_ : Option Addr) (t1_ : Sl) (H : Heap) (k : Unit → Heap → Prop) : Prop :=
    NilCk t0_ fun a1 =>
    Ld .sl (a1.add 2) H fun (x1 : Sl) =>
    Lt (IntKind.wrap .i64 (41 * (x1.len : Int))) fun t1 =>
    Lt (IntKind.wrap .i64 (50 + t1)) fun t2 =>
    LoopT (σ := Int) /- t5 -/ (fun next1 s1 H1 =>
      Br (decide (s1 < (t1_.len : Int))) (
        IxA 1 t1_ s1 fun a2 =>
        St a2 (.int .u8 (IntKind.wrap .u8 t2)) H1 fun H2 =>
        Lt (IntKind.wrap .i64 (s1 + 1)) fun t3 =>
        next1 t3 H2) (
        Jn (σ := Unit) /-  -/ (fun kk1 =>
          Br (decide ((t1_.len : Int) > 5000)) (
            Jn (σ := Bool) /- t37 -/ (fun kk2 =>
              Br (decide ((t1_.len : Int) > 100000)) (
                kk2 true H1) (
                NilCk t0_ fun a3 =>
                Ld (.int .i64) (a3.add 3) H1 fun (x2 : Int) =>
                kk2 (x2 == 4) H1)) fun j2 H4 =>
            Br j2 (
              k () H4) (
              NilCk t0_ fun a4 =>
              Ld (.int .i64) (a4.add 3) H4 fun (x3 : Int) =>
              Lt (IntKind.wrap .i64 (x3 + 1)) fun t4 =>
              NilCk t0_ fun a5 =>
              St (a5.add 3) (.int .i64 t4) H4 fun H5 =>
              kk1 () H5)) (
            kk1 () H1)) fun j1 H3 =>
        NilCk t0_ fun a6 =>
        Ld .sl (a6.add 2) H3 fun (x4 : Sl) =>
        Nw #[.slice t1_.a t1_.len t1_.cap, .int .u8 (IntKind.wrap .u8 t2)] T_hindcastlaw03_hold H3 fun b1 H6 =>
        App T_hindcastlaw03_hold 2 32 #[.slice none 0 0, .int .u8 0] x4 ⟨some (adr b1), 1, 1⟩ H6 fun l1 H7 =>
        NilCk t0_ fun a7 =>
        St (a7.add 2) (.slice l1.a l1.len l1.cap) H7 fun H8 =>
        LoopT (σ := Sl × Int) /- t1, t6 -/ (fun next2 s2 H9 =>
          Br (decide (s2.2 < 64)) (
            Nw #[.int .u8 (IntKind.wrap .u8 t2)] T_uint8 H9 fun b2 H10 =>
            App T_uint8 1 1 #[.int .u8 0] s2.1 ⟨some (adr b2), 1, 1⟩ H10 fun l2 H11 =>
            Lt (IntKind.wrap .i64 (s2.2 + 1)) fun t5 =>
            next2 (l2, t5) H11) (
            NilCk t0_ fun a8 =>
            Ld .sl (a8.add 2) H9 fun (x5 : Sl) =>
            Nw #[.slice s2.1.a s2.1.len s2.1.cap, .int .u8 (IntKind.wrap .u8 t2)] T_hindcastlaw03_hold H9 fun b3 H12 =>
            App T_hindcastlaw03_hold 2 32 #[.slice none 0 0, .int .u8 0] x5 ⟨some (adr b3), 1, 1⟩ H12 fun l3 H13 =>
            NilCk t0_ fun a9 =>
            St (a9.add 2) (.slice l3.a l3.len l3.cap) H13 fun H14 =>
            k () H14)) (t1_, 0) H8)) 0 H
def h_hindcastlaw03_pair_keep : Hint := (.two .no (.two (.two .no (.one (.loop [(5, (.c (.int .i64)))] .no))) (.two (.two .no (.join [] (.two (.two (.two (.join [(37, (.c .bool))] .no) .no) .no) .no))) (.two .no (.two (.two .no (.one (.loop [(1, (.c .sl)), (6, (.c (.int .i64)))] .no))) .no)))))
theorem e_hindcastlaw03_pair_keep (t0_ : Option Addr) (t1_ : Sl) (H : Heap) (k : Unit → Heap → Prop) : EFun Pg Try.f70 h_hindcastlaw03_pair_keep [.pointer t0_, .slice t1_.a t1_.len t1_.cap] (.tup []) H k = v_hindcastlaw03_pair_keep t0_ t1_ H k := by kernel_rfl
theorem c_hindcastlaw03_pair_keep (t0_ : Option Addr) (t1_ : Sl) {H : Heap} {k : Unit → Heap → Prop} (h : v_hindcastlaw03_pair_keep t0_ t1_ H k) : CallT Pg f_hindcastlaw03_pair_keep [.pointer t0_, .slice t1_.a t1_.len t1_.cap] (.tup []) H k :=
  call_of_E Pg_mixed Try.func70 (by kernel_rfl) (by kernel_rfl) (by kernel_rfl) (by kernel_rfl) ((e_hindcastlaw03_pair_keep t0_ t1_ H k).symm ▸ h)
/-- (*hindcast/hindcastref03.Store).Fuse -/
def v_hindcastref03_Store_Fuse (s_ : Option Addr) (n_ : Int) (H : Heap) (k : Int → Heap → Prop) : Prop :=
    NilCk s_ fun a1 =>
    Ld .bool (a1.add 2) H fun (x1 : Bool) =>
    Br x1 (
      k 30 H) (
      Br (decide (n_ < 0)) (
        k 1 H) (
        NilCk s_ fun a2 =>
        St (a2.add 3) (.int .i64 n_) H fun H1 =>
        k 0 H1))
def h_hindcastref03_Store_Fuse : Hint := .no
theorem e_hindcastref03_Store_Fuse (s_ : Option Addr) (n_ : Int) (H : Heap) (k : Int → Heap → Prop) : EFun Pg Try.f71 h_hindcastref03_Store_Fuse [.pointer s_, .int .i64 n_] (.one (.c (.int .i64))) H k = v_hindcastref03_Store_Fuse s_ n_ H k := by kernel_rfl
theorem c_hindcastref03_Store_Fuse (s_ : Option Addr) (n_ : Int) {H : Heap} {k : Int → Heap → Prop} (h : v_hindcastref03_Store_Fuse s_ n_ H k) : CallT Pg f_hindcastref03_Store_Fuse [.pointer s_, .int .i64 n_] (.one (.c (.int .i64))) H k :=
  call_of_E Pg_mixed Try.func71 (by kernel_rfl) (by kernel_rfl) (by kernel_rfl) (by kernel_rfl) ((e_hindcastref03_Store_Fuse s_ n_ H k).symm ▸ h)
/-- (*hindcast/hindcastref03.Store).Crash -/
def v_hindcastref03_Store_Crash (s_ : Option Addr) (keep_ : Int) (junk_ : Sl) (H : Heap) (k : Int → Heap → Prop) : Prop :=
    NilCk s_ fun a1 =>
    Ld .bool (a1.add 2) H fun (x1 : Bool) =>
    Br x1 (
      k 30 H) (
      Br (decide (keep_ < 0)) (
        k 1 H) (
        NilCk s_ fun a2 =>
        Ld .sl a2 H fun (x2 : Sl) =>
        NilCk s_ fun a3 =>
        Ld .sl (a3.add 1) H fun (x3 : Sl) =>
        Lt (IntKind.wrap .i64 ((x2.len : Int) + (if (x3.len : Int) < keep_ then (x3.len : Int) else keep_))) fun t1 =>
        Lt (IntKind.wrap .i64 (t1 + (junk_.len : Int))) fun t2 =>
        Br (decide (t2 > 16777216)) (
          k 40 H) (
          CallT Pg f_hindcastref03_Store_fails [.pointer s_, .int .i64 keep_, .slice junk_.a junk_.len junk_.cap] (.tup []) H fun (r1 : Unit) H1 =>
          k 0 H1)))
def h_hindcastref03_Store_Crash : Hint := .no
theorem e_hindcastref03_Store_Crash (s_ : Option Addr) (keep_ : Int) (junk_ : Sl) (H : Heap) (k : Int → Heap → Prop) : EFun Pg Try.f72 h_hindcastref03_Store_Crash [.pointer s_, .int .i64 keep_, .slice junk_.a junk_.len junk_.cap] (.one (.c (.int .i64))) H k = v_hindcastref03_Store_Crash s_ keep_ junk_ H k := by kernel_rfl
theorem c_hindcastref03_Store_Crash (s_ : Option Addr) (keep_ : Int) (junk_ : Sl) {H : Heap} {k : Int → Heap → Prop} (h : v_hindcastref03_Store_Crash s_ keep_ junk_ H k) : CallT Pg f_hindcastref03_Store_Crash [.pointer s_, .int .i64 keep_, .slice junk_.a junk_.len junk_.cap] (.one (.c (.int .i64))) H k :=
  call_of_E Pg_mixed Try.func72 (by kernel_rfl) (by kernel_rfl) (by kernel_rfl) (by kernel_rfl) ((e_hindcastref03_Store_Crash s_ keep_ junk_ H k).symm ▸ h)
/-- (*hindcast/hindcastref03.Store).Restart -/
def v_hindcastref03_Store_Restart (s_ : Option Addr) (H : Heap) (k : Unit → Heap → Prop) : Prop :=
    NilCk s_ fun a1 =>
    St (a1.add 2) (.bool false) H fun H1 =>
    NilCk s_ fun a2 =>
    St (a2.add 3) (.int .i64 (-1)) H1 fun H2 =>
    k () H2
def h_hindcastref03_Store_Restart : Hint := .no
theorem e_hindcastref03_Store_Restart (s_ : Option Addr) (H : Heap) (k : Unit → Heap → Prop) : EFun Pg Try.f73 h_hindcastref03_Store_Restart [.pointer s_] (.tup []) H k = v_hindcastref03_Store_Restart s_ H k := by kernel_rfl
theorem c_hindcastref03_Store_Restart (s_ : Option Addr) {H : Heap} {k : Unit → Heap → Prop} (h : v_hindcastref03_Store_Restart s_ H k) : CallT Pg f_hindcastref03_Store_Restart [.pointer s_] (.tup []) H k :=
  call_of_E Pg_mixed Try.func73 (by kernel_rfl) (by kernel_rfl) (by kernel_rfl) (by kernel_rfl) ((e_hindcastref03_Store_Restart s_ H k).symm ▸ h)
/-- (*hindcast/hindcastref03.Store).State -/
def v_hindcastref03_Store_State (s_ : Option Addr) (H : Heap) (k : Int × Int × Bool → Heap → Prop) : Prop :=
    NilCk s_ fun a1 =>
    Ld .sl a1 H fun (x1 : Sl) =>
    NilCk s_ fun a2 =>
    Ld .bool (a2.add 2) H fun (x2 : Bool) =>
    CallT Pg f_hindcastref03_Store_size [.pointer s_] (.one (.c (.int .i64))) H fun (r1 : Int) H1 =>
    Stab [(a2.add 2, .bool x2), (a1, .slice x1.a x1.len x1.cap)] H1 <|
    k ((r1, (x1.len : Int), !x2)) H1
def h_hindcastref03_Store_State : Hint := .no
theorem e_hindcastref03_Store_State (s_ : Option Addr) (H : Heap) (k : Int × Int × Bool → Heap → Prop) : EFun Pg Try.f74 h_hindcastref03_Store_State [.pointer s_] (.tup [(.c (.int .i64)), (.c (.int .i64)), (.c .bool)]) H k = v_hindcastref03_Store_State s_ H k := by kernel_rfl
theorem c_hindcastref03_Store_State (s_ : Option Addr) {H : Heap} {k : Int × Int × Bool → Heap → Prop} (h : v_hindcastref03_Store_State s_ H k) : CallT Pg f_hindcastref03_Store_State [.pointer s_] (.tup [(.c (.int .i64)), (.c (.int .i64)), (.c .bool)]) H k :=
  call_of_E Pg_mixed Try.func74 (by kernel_rfl) (by kernel_rfl) (by kernel_rfl) (by kernel_rfl) ((e_hindcastref03_Store_State s_ H k).symm ▸ h)
/-- hindcast/hindcastref03.joined -/
def v_hindcastref03_joined (a_ : Sl) (b_ : Sl) (H : Heap) (k : Sl → Heap → Prop) : Prop :=
    App T_uint8 1 1 #[.int .u8 0] ⟨none, 0, 0⟩ a_ H fun l1 H1 =>
    App T_uint8 1 1 #[.int .u8 0] l1 b_ H1 fun l2 H2 =>
    k l2 H2
def h_hindcastref03_joined : Hint := .no
theorem e_hindcastref03_joined (a_ : Sl) (b_ : Sl) (H : Heap) (k : Sl → Heap → Prop) : EFun Pg Try.f91 h_hindcastref03_joined [.slice a_.a a_.len a_.cap, .slice b_.a b_.len b_.cap] (.one (.c .sl)) H k = v_hindcastref03_joined a_ b_ H k := by kernel_rfl
theorem c_hindcastref03_joined (a_ : Sl) (b_ : Sl) {H : Heap} {k : Sl → Heap → Prop} (h : v_hindcastref03_joined a_ b_ H k) : CallT Pg f_hindcastref03_joined [.slice a_.a a_.len a_.cap, .slice b_.a b_.len b_.cap] (.one (.c .sl)) H k :=
  call_of_E Pg_mixed Try.func91 (by kernel_rfl) (by kernel_rfl) (by kernel_rfl) (by kernel_rfl) ((e_hindcastref03_joined a_ b_ H k).symm ▸ h)
/-- (*hindcast/hindcastref03.Store).size -/
def v_hindcastref03_Store_size (s_ : Option Addr) (H : Heap) (k : Int → Heap → Prop) : Prop :=
    NilCk s_ fun a1 =>
    Ld .sl a1 H fun (x1 : Sl) =>
    NilCk s_ fun a2 =>
    Ld .sl (a2.add 1) H fun (x2 : Sl) =>
    Lt (IntKind.wrap .i64 ((x1.len : Int) + (x2.len : Int))) fun t1 =>
    k t1 H
def h_hindcastref03_Store_size : Hint := .no
theorem e_hindcastref03_Store_size (s_ : Option Addr) (H : Heap) (k : Int → Heap → Prop) : EFun Pg Try.f92 h_hindcastref03_Store_size [.pointer s_] (.one (.c (.int .i64))) H k = v_hindcastref03_Store_size s_ H k := by kernel_rfl
theorem c_hindcastref03_Store_size (s_ : Option Addr) {H : Heap} {k : Int → Heap → Prop} (h : v_hindcastref03_Store_size s_ H k) : CallT Pg f_hindcastref03_Store_size [.pointer s_] (.one (.c (.int .i64))) H k :=
  call_of_E Pg_mixed Try.func92 (by kernel_rfl) (by kernel_rfl) (by kernel_rfl) (by kernel_rfl) ((e_hindcastref03_Store_size s_ H k).symm ▸ h)
/-- (*hindcast/hindcastref03.Store).fails -/
def v_hindcastref03_Store_fails (s_ : Option Addr) (keep_ : Int) (junk_ : Sl) (H : Heap) (k : Unit → Heap → Prop) : Prop :=
    NilCk s_ fun a1 =>
    Ld .sl (a1.add 1) H fun (x1 : Sl) =>
    Jn (σ := Int) /- keep -/ (fun kk1 =>
      Br (decide (keep_ > (x1.len : Int))) (
        NilCk s_ fun a2 =>
        Ld .sl (a2.add 1) H fun (x2 : Sl) =>
        kk1 (x2.len : Int) H) (
        kk1 keep_ H)) fun j1 H1 =>
    NilCk s_ fun a3 =>
    Ld .sl a3 H1 fun (x3 : Sl) =>
    NilCk s_ fun a4 =>
    Ld .sl (a4.add 1) H1 fun (x4 : Sl) =>
    SlA 1 x4 0 j1 (x4.cap : Nat) fun l1 =>
    CallT Pg f_hindcastref03_joined [.slice x3.a x3.len x3.cap, .slice l1.a l1.len l1.cap] (.one (.c .sl)) H1 fun (r1 : Sl) H2 =>
    Stab [(a4.add 1, .slice x4.a x4.len x4.cap)] H2 <|
    CallT Pg f_hindcastref03_joined [.slice r1.a r1.len r1.cap, .slice junk_.a junk_.len junk_.cap] (.one (.c .sl)) H2 fun (r2 : Sl) H3 =>
    Stab [(a4.add 1, .slice x4.a x4.len x4.cap), (a3, .slice x3.a x3.len x3.cap)] H3 <|
    NilCk s_ fun a5 =>
    St a5 (.slice r2.a r2.len r2.cap) H3 fun H4 =>
    NilCk s_ fun a6 =>
    St (a6.add 1) (.slice none 0 0) H4 fun H5 =>
    NilCk s_ fun a7 =>
    St (a7.add 2) (.bool true) H5 fun H6 =>
    NilCk s_ fun a8 =>
    St (a8.add 3) (.int .i64 (-1)) H6 fun H7 =>
    k () H7
def h_hindcastref03_Store_fails : Hint := (.two (.two .no (.join [(1, (.c (.int .i64)))] .no)) .no)
theorem e_hindcastref03_Store_fails (s_ : Option Addr) (keep_ : Int) (junk_ : Sl) (H : Heap) (k : Unit → Heap → Prop) : EFun Pg Try.f93 h_hindcastref03_Store_fails [.pointer s_, .int .i64 keep_, .slice junk_.a junk_.len junk_.cap] (.tup []) H k = v_hindcastref03_Store_fails s_ keep_ junk_ H k := by kernel_rfl
theorem c_hindcastref03_Store_fails (s_ : Option Addr) (keep_ : Int) (junk_ : Sl) {H : Heap} {k : Unit → Heap → Prop} (h : v_hindcastref03_Store_fails s_ keep_ junk_ H k) : CallT Pg f_hindcastref03_Store_fails [.pointer s_, .int .i64 keep_, .slice junk_.a junk_.len junk_.cap] (.tup []) H k :=
  call_of_E Pg_mixed Try.func93 (by kernel_rfl) (by kernel_rfl) (by kernel_rfl) (by kernel_rfl) ((e_hindcastref03_Store_fails s_ keep_ junk_ H k).symm ▸ h)
end Go.Proofs.Ytpkpebgpiakbeaa
