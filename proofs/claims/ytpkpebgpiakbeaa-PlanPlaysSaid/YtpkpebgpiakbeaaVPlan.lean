import Derived.Test.YtpkpebgpiakbeaaHcFun
import Derived.KernelRfl
import Derived.Test.YtpkpebgpiakbeaaProg
namespace Go.Proofs.Ytpkpebgpiakbeaa
set_option linter.unusedVariables false
set_option linter.unusedSimpArgs false
open Go.Proofs.Ytpkpebgpiakbeaa.Hc
noncomputable abbrev Pg : Program := Try.prog
abbrev T_Sl_Sl_int : TypeId := 34
abbrev T_Sl_bool : TypeId := 47
abbrev T_Sl_int : TypeId := 45
abbrev T_api_System : TypeId := 120
abbrev T_bool : TypeId := 4
abbrev T_hindcastlaw18_Book : TypeId := 84
abbrev T_hindcastref18_Plan : TypeId := 122
abbrev T_int : TypeId := 3
abbrev T_plan_Plan : TypeId := 130
abbrev f_hindcastlaw18_PlanPlays : FuncId := 9
abbrev f_hindcastlaw18_PlanLegal : FuncId := 10
abbrev f_hindcastlaw18_PlanSwaps : FuncId := 11
abbrev f_hindcastlaw18_shown : FuncId := 38
abbrev f_hindcastlaw18_given : FuncId := 39
abbrev f_hindcastref18_New : FuncId := 40
abbrev f_hindcastlaw18_systems : FuncId := 41
abbrev f_hindcastlaw18_lent : FuncId := 42
abbrev f_hindcastlaw18_asks : FuncId := 43
abbrev f_hindcastlaw18_back : FuncId := 44
abbrev f_plan_Plan_Legal : FuncId := 45
abbrev f_hindcastref18_Plan_Legal : FuncId := 46
abbrev f_plan_Plan_Conflict : FuncId := 47
abbrev f_hindcastref18_Plan_Conflict : FuncId := 48
abbrev f_hindcastlaw18_made : FuncId := 49
abbrev f_plan_Plan_Stages : FuncId := 50
abbrev f_plan_Plan_Order : FuncId := 51
abbrev f_hindcastlaw18_picked : FuncId := 52
abbrev f_hindcastlaw18_pick : FuncId := 53
abbrev f_plan_New : FuncId := 75
abbrev f_hindcastlaw18_listed : FuncId := 76
abbrev f_hindcastlaw18_still : FuncId := 77
abbrev f_hindcastref18_copied : FuncId := 78
abbrev f_hindcastref18_Plan_Order : FuncId := 79
abbrev f_hindcastref18_Plan_Stages : FuncId := 80
abbrev f_hindcastlaw18_sames : FuncId := 81
abbrev f_hindcastlaw18_same : FuncId := 82
abbrev f_hindcastlaw18_Book_keeps : FuncId := 83
abbrev f_hindcastlaw18_Book_keep : FuncId := 84
abbrev f_hindcastlaw18_Book_grows : FuncId := 85
abbrev f_hindcastlaw18_Book_looks : FuncId := 86
abbrev f_plan_Plan_there : FuncId := 87
abbrev f_hindcastref18_meet : FuncId := 88
abbrev f_slices_Clone_Sl_int_int : FuncId := 89
abbrev f_slices_Delete_Sl_int_int : FuncId := 90
abbrev f_plan_touch : FuncId := 94
abbrev f_hindcastref18_Plan_stage : FuncId := 95
abbrev f_plan_meet : FuncId := 96
abbrev f_slices_ContainsFunc_Sl_int_int : FuncId := 97
abbrev f_plan_meet_1 : FuncId := 98
abbrev f_slices_Contains_Sl_int_int : FuncId := 99
abbrev f_slices_IndexFunc_Sl_int_int : FuncId := 100
abbrev f_slices_Index_Sl_int_int : FuncId := 101
theorem Pg_mixed : Pg.follows .mixedOrders = true := by kernel_rfl
/-- hindcast/hindcastlaw18.PlanPlays -/
def v_hindcastlaw18_PlanPlays (t0_ : Sl) (t1_ : Sl) (t2_ : Sl) (t3_ : Sl) (t4_ : Int) (t5_ : Int) (H : Heap) (k : Bool → Heap → Prop) : Prop :=
    CallT Pg f_hindcastlaw18_shown [] (.one (.c .bool)) H fun (r1 : Bool) H1 =>
    CallT Pg f_hindcastlaw18_given [.slice t0_.a t0_.len t0_.cap] (.one (.c .ptr)) H1 fun (r2 : Option Addr) H2 =>
    CallT Pg f_hindcastlaw18_given [.slice t1_.a t1_.len t1_.cap] (.one (.c .ptr)) H2 fun (r3 : Option Addr) H3 =>
    CallT Pg f_hindcastlaw18_systems [.slice t0_.a t0_.len t0_.cap] (.one (.c .sl)) H3 fun (r4 : Sl) H4 =>
    CallT Pg f_hindcastref18_New [.slice r4.a r4.len r4.cap] (.one (.c .ptr)) H4 fun (r5 : Option Addr) H5 =>
    CallT Pg f_hindcastlaw18_systems [.slice t1_.a t1_.len t1_.cap] (.one (.c .sl)) H5 fun (r6 : Sl) H6 =>
    CallT Pg f_hindcastref18_New [.slice r6.a r6.len r6.cap] (.one (.c .ptr)) H6 fun (r7 : Option Addr) H7 =>
    Jn (σ := Bool) /- t53 -/ (fun kk1 =>
      Br (!r1) (
        kk1 true H7) (
        Br r2.isNone (
          kk1 true H7) (
          kk1 r3.isNone H7))) fun j1 H8 =>
    Br j1 (
      k false H8) (
      LoopT (σ := Int) /- t18 -/ (fun next1 s1 H9 =>
        Br (decide (s1 < 20)) (
          CallT Pg f_hindcastlaw18_given [.slice t1_.a t1_.len t1_.cap] (.one (.c .ptr)) H9 fun (r8 : Option Addr) H10 =>
          CallT Pg f_hindcastlaw18_given [.slice t0_.a t0_.len t0_.cap] (.one (.c .ptr)) H10 fun (r9 : Option Addr) H11 =>
          Jn (σ := Bool) /- t67 -/ (fun kk2 =>
            Br r8.isNone (
              kk2 true H11) (
              kk2 r9.isNone H11)) fun j2 H12 =>
          Br j2 (
            k false H12) (
            Lt (IntKind.wrap .i64 (s1 + 1)) fun t1 =>
            next1 t1 H12)) (
          Nw #[.slice none 0 0, .slice none 0 0, .slice none 0 0, .slice none 0 0, .int .i64 0, .int .i64 0] T_hindcastlaw18_Book H9 fun b1 H13 =>
          CallT Pg f_hindcastlaw18_lent [.slice t2_.a t2_.len t2_.cap] (.one (.c .sl)) H13 fun (r10 : Sl) H14 =>
          CallT Pg f_hindcastlaw18_asks [.pointer r2, .pointer r3, .pointer r5, .pointer r7, .slice r10.a r10.len r10.cap, .slice t2_.a t2_.len t2_.cap, .pointer (some (adr b1))] (.one (.c .bool)) H14 fun (r11 : Bool) H15 =>
          CallT Pg f_hindcastlaw18_back [.slice r10.a r10.len r10.cap, .slice t2_.a t2_.len t2_.cap] (.one (.c .bool)) H15 fun (r12 : Bool) H16 =>
          Jn (σ := Bool) /- t88 -/ (fun kk3 =>
            Br (!r11) (
              kk3 true H16) (
              kk3 (!r12) H16)) fun j3 H17 =>
          Br j3 (
            k false H17) (
            App T_int 1 8 #[.int .i64 0] ⟨none, 0, 0⟩ r10 H17 fun l1 H18 =>
            CallT Pg f_hindcastlaw18_asks [.pointer r2, .pointer r3, .pointer r5, .pointer r7, .slice r10.a r10.len r10.cap, .slice l1.a l1.len l1.cap, .pointer (some (adr b1))] (.one (.c .bool)) H18 fun (r13 : Bool) H19 =>
            LoopT (σ := Int) /- t26 -/ (fun next2 s2 H20 =>
              Br (decide (s2 < (r10.len : Int))) (
                Lt (IntKind.wrap .i64 ((t2_.len : Int) - 1)) fun t2 =>
                Lt (IntKind.wrap .i64 (t2 - s2)) fun t3 =>
                IxA 1 t2_ t3 fun a1 =>
                Ld (.int .i64) a1 H20 fun (x1 : Int) =>
                IxA 1 r10 s2 fun a2 =>
                St a2 (.int .i64 x1) H20 fun H21 =>
                Lt (IntKind.wrap .i64 (s2 + 1)) fun t4 =>
                next2 t4 H21) (
                App T_int 1 8 #[.int .i64 0] ⟨none, 0, 0⟩ r10 H20 fun l2 H22 =>
                CallT Pg f_hindcastlaw18_asks [.pointer r2, .pointer r3, .pointer r5, .pointer r7, .slice r10.a r10.len r10.cap, .slice l2.a l2.len l2.cap, .pointer (some (adr b1))] (.one (.c .bool)) H22 fun (r14 : Bool) H23 =>
                CallT Pg f_hindcastlaw18_lent [.slice t3_.a t3_.len t3_.cap] (.one (.c .sl)) H23 fun (r15 : Sl) H24 =>
                CallT Pg f_plan_Plan_Legal [.pointer r2, .slice r15.a r15.len r15.cap] (.one (.c .bool)) H24 fun (r16 : Bool) H25 =>
                CallT Pg f_plan_Plan_Legal [.pointer r3, .slice r15.a r15.len r15.cap] (.one (.c .bool)) H25 fun (r17 : Bool) H26 =>
                CallT Pg f_hindcastlaw18_back [.slice r15.a r15.len r15.cap, .slice t3_.a t3_.len t3_.cap] (.one (.c .bool)) H26 fun (r18 : Bool) H27 =>
                Jn (σ := Bool) /- t184 -/ (fun kk4 =>
                  Br (!r13) (
                    kk4 true H27) (
                    Br (!r14) (
                      kk4 true H27) (
                      Br (!r18) (
                        kk4 true H27) (
                        CallT Pg f_hindcastref18_Plan_Legal [.pointer r5, .slice t3_.a t3_.len t3_.cap] (.one (.c .bool)) H27 fun (r19 : Bool) H29 =>
                        Br (!(r16 == r19)) (
                          kk4 true H29) (
                          CallT Pg f_hindcastref18_Plan_Legal [.pointer r7, .slice t3_.a t3_.len t3_.cap] (.one (.c .bool)) H29 fun (r20 : Bool) H30 =>
                          Br (!(r17 == r20)) (
                            kk4 true H30) (
                            CallT Pg f_plan_Plan_Conflict [.pointer r2, .int .i64 t4_, .int .i64 t5_] (.one (.c .bool)) H30 fun (r21 : Bool) H31 =>
                            CallT Pg f_hindcastref18_Plan_Conflict [.pointer r5, .int .i64 t4_, .int .i64 t5_] (.one (.c .bool)) H31 fun (r22 : Bool) H32 =>
                            Br (!(r21 == r22)) (
                              kk4 true H32) (
                              CallT Pg f_plan_Plan_Conflict [.pointer r3, .int .i64 t4_, .int .i64 t5_] (.one (.c .bool)) H32 fun (r23 : Bool) H33 =>
                              CallT Pg f_hindcastref18_Plan_Conflict [.pointer r7, .int .i64 t4_, .int .i64 t5_] (.one (.c .bool)) H33 fun (r24 : Bool) H34 =>
                              kk4 (!(r23 == r24)) H34))))))) fun j4 H28 =>
                Br j4 (
                  k false H28) (
                  LoopT (σ := Int) /- t32 -/ (fun next3 s3 H35 =>
                    Br (decide (s3 < (t3_.len : Int))) (
                      Lt (IntKind.wrap .i64 ((t3_.len : Int) - 1)) fun t5 =>
                      Lt (IntKind.wrap .i64 (t5 - s3)) fun t6 =>
                      IxA 1 t3_ t6 fun a3 =>
                      Ld (.int .i64) a3 H35 fun (x2 : Int) =>
                      IxA 1 r15 s3 fun a4 =>
                      St a4 (.int .i64 x2) H35 fun H36 =>
                      Lt (IntKind.wrap .i64 (s3 + 1)) fun t7 =>
                      next3 t7 H36) (
                      App T_int 1 8 #[.int .i64 0] ⟨none, 0, 0⟩ r15 H35 fun l3 H37 =>
                      CallT Pg f_plan_Plan_Legal [.pointer r2, .slice r15.a r15.len r15.cap] (.one (.c .bool)) H37 fun (r25 : Bool) H38 =>
                      CallT Pg f_hindcastref18_Plan_Legal [.pointer r5, .slice l3.a l3.len l3.cap] (.one (.c .bool)) H38 fun (r26 : Bool) H39 =>
                      k (r25 == r26) H39)) 0 H28))) 0 H19))) 0 H8)
def h_hindcastlaw18_PlanPlays : Hint := (.two .no (.two .no (.two .no (.two .no (.two .no (.two .no (.two (.two (.join [(53, (.c .bool))] .no) .no) (.two (.two .no (.one (.loop [(18, (.c (.int .i64)))] (.two .no (.two (.one (.two .no (.two .no (.two (.join [(67, (.c .bool))] .no) .no)))) .no))))) (.two .no (.two .no (.two .no (.two .no (.two (.two (.join [(88, (.c .bool))] .no) .no) (.two .no (.two .no (.two .no (.two (.two .no (.one (.loop [(26, (.c (.int .i64)))] .no))) (.two .no (.two .no (.two .no (.two .no (.two .no (.two .no (.two .no (.two (.two (.join [(184, (.c .bool))] .no) .no) (.two (.two .no (.one (.loop [(32, (.c (.int .i64)))] .no))) .no))))))))))))))))))))))))))
theorem e_hindcastlaw18_PlanPlays (t0_ : Sl) (t1_ : Sl) (t2_ : Sl) (t3_ : Sl) (t4_ : Int) (t5_ : Int) (H : Heap) (k : Bool → Heap → Prop) : EFun Pg Try.f9 h_hindcastlaw18_PlanPlays [.slice t0_.a t0_.len t0_.cap, .slice t1_.a t1_.len t1_.cap, .slice t2_.a t2_.len t2_.cap, .slice t3_.a t3_.len t3_.cap, .int .i64 t4_, .int .i64 t5_] (.one (.c .bool)) H k = v_hindcastlaw18_PlanPlays t0_ t1_ t2_ t3_ t4_ t5_ H k := by kernel_rfl
theorem c_hindcastlaw18_PlanPlays (t0_ : Sl) (t1_ : Sl) (t2_ : Sl) (t3_ : Sl) (t4_ : Int) (t5_ : Int) {H : Heap} {k : Bool → Heap → Prop} (h : v_hindcastlaw18_PlanPlays t0_ t1_ t2_ t3_ t4_ t5_ H k) : CallT Pg f_hindcastlaw18_PlanPlays [.slice t0_.a t0_.len t0_.cap, .slice t1_.a t1_.len t1_.cap, .slice t2_.a t2_.len t2_.cap, .slice t3_.a t3_.len t3_.cap, .int .i64 t4_, .int .i64 t5_] (.one (.c .bool)) H k :=
  call_of_E Pg_mixed Try.func9 (by kernel_rfl) (by kernel_rfl) (by kernel_rfl) (by kernel_rfl) ((e_hindcastlaw18_PlanPlays t0_ t1_ t2_ t3_ t4_ t5_ H k).symm ▸ h)
/-- hindcast/hindcastlaw18.PlanLegal -/
def v_hindcastlaw18_PlanLegal (t0_ : Sl) (t1_ : Sl) (H : Heap) (k : Bool → Heap → Prop) : Prop :=
    CallT Pg f_hindcastlaw18_shown [] (.one (.c .bool)) H fun (r1 : Bool) H1 =>
    CallT Pg f_hindcastlaw18_made [.slice t0_.a t0_.len t0_.cap] (.one (.c .ptr)) H1 fun (r2 : Option Addr) H2 =>
    Jn (σ := Bool) /- t31 -/ (fun kk1 =>
      Br (!r1) (
        kk1 true H2) (
        kk1 r2.isNone H2)) fun j1 H3 =>
    Br j1 (
      k false H3) (
      CallT Pg f_plan_Plan_Stages [.pointer r2] (.one (.c .sl)) H3 fun (r3 : Sl) H4 =>
      Mks T_int 1 8 #[.int .i64 0] (if 200 < (t0_.len : Int) then 200 else (t0_.len : Int)) (if 200 < (t0_.len : Int) then 200 else (t0_.len : Int)) H4 fun l1 H5 =>
      LoopT (σ := Int × Int) /- t10, t11 -/ (fun next1 s1 H6 =>
        Br (decide (s1.2 < (r3.len : Int))) (
          LoopT (σ := Int × Int) /- t10, t12 -/ (fun next2 s2 H7 =>
            IxA 1 r3 s1.2 fun a1 =>
            Ld .sl a1 H7 fun (x1 : Sl) =>
            Br (decide (s2.2 < (x1.len : Int))) (
              IxA 1 r3 s1.2 fun a2 =>
              Ld .sl a2 H7 fun (x2 : Sl) =>
              IxA 1 x2 s2.2 fun a3 =>
              Ld (.int .i64) a3 H7 fun (x3 : Int) =>
              Jn (σ := Bool) /- t83 -/ (fun kk2 =>
                Br (decide (x3 < 0)) (
                  kk2 true H7) (
                  Br (decide (x3 ≥ (if 200 < (t0_.len : Int) then 200 else (t0_.len : Int)))) (
                    kk2 true H7) (
                    Br (decide (s2.2 > 0)) (
                      IxA 1 r3 s1.2 fun a4 =>
                      Ld .sl a4 H7 fun (x4 : Sl) =>
                      Lt (IntKind.wrap .i64 (s2.2 - 1)) fun t1 =>
                      IxA 1 x4 t1 fun a5 =>
                      Ld (.int .i64) a5 H7 fun (x5 : Int) =>
                      kk2 (decide (x5 ≥ x3)) H7) (
                      kk2 false H7)))) fun j2 H8 =>
              Br j2 (
                k false H8) (
                IxA 1 l1 x3 fun a6 =>
                St a6 (.int .i64 s1.2) H8 fun H9 =>
                Lt (IntKind.wrap .i64 (s2.1 + 1)) fun t2 =>
                LoopT (σ := Bool × Int) /- t14, t15 -/ (fun next3 s3 H10 =>
                  Br (decide (s3.2 < x3)) (
                    CallT Pg f_plan_Plan_Conflict [.pointer r2, .int .i64 s3.2, .int .i64 x3] (.one (.c .bool)) H10 fun (r4 : Bool) H11 =>
                    Jn (σ := Bool) /- t109 -/ (fun kk3 =>
                      Br r4 (
                        IxA 1 l1 s3.2 fun a7 =>
                        Ld (.int .i64) a7 H11 fun (x6 : Int) =>
                        kk3 (decide (x6 ≥ s1.2)) H11) (
                        kk3 false H11)) fun j3 H12 =>
                    Br j3 (
                      k false H12) (
                      Jn (σ := Bool) /- t14 -/ (fun kk4 =>
                        Br s3.1 (
                          kk4 true H12) (
                          Br r4 (
                            IxA 1 l1 s3.2 fun a8 =>
                            Ld (.int .i64) a8 H12 fun (x7 : Int) =>
                            Lt (IntKind.wrap .i64 (s1.2 - 1)) fun t3 =>
                            kk4 (x7 == t3) H12) (
                            kk4 false H12))) fun j4 H13 =>
                      Lt (IntKind.wrap .i64 (s3.2 + 1)) fun t4 =>
                      next3 (j4, t4) H13)) (
                    Br (!s3.1) (
                      k false H10) (
                      Lt (IntKind.wrap .i64 (s2.2 + 1)) fun t5 =>
                      next2 (t2, t5) H10))) (s1.2 == 0, 0) H9)) (
              Lt (IntKind.wrap .i64 (s1.2 + 1)) fun t6 =>
              next1 (s2.1, t6) H7)) (s1.1, 0) H6) (
          CallT Pg f_hindcastlaw18_picked [.pointer r2, .slice t1_.a t1_.len t1_.cap] (.one (.c .sl)) H6 fun (r5 : Sl) H14 =>
          CallT Pg f_plan_Plan_Order [.pointer r2, .slice r5.a r5.len r5.cap] (.tup [(.c .sl), (.c (.int .i64))]) H14 fun (r6 : Sl × Int) H15 =>
          Jn (σ := Bool) /- t145 -/ (fun kk5 =>
            Br (s1.1 != (if 200 < (t0_.len : Int) then 200 else (t0_.len : Int))) (
              kk5 true H15) (
              Br (r6.2 != 0) (
                kk5 true H15) (
                kk5 ((r6.1.len : Int) != (if 200 < (t0_.len : Int) then 200 else (t0_.len : Int))) H15))) fun j5 H16 =>
          Br j5 (
            k false H16) (
            Mks T_bool 1 1 #[.bool false] (if 200 < (t0_.len : Int) then 200 else (t0_.len : Int)) (if 200 < (t0_.len : Int) then 200 else (t0_.len : Int)) H16 fun l2 H17 =>
            LoopT (σ := Int) /- t20 -/ (fun next4 s4 H18 =>
              Br (decide (s4 < (if 200 < (t0_.len : Int) then 200 else (t0_.len : Int)))) (
                Jn (σ := Bool) /- t174 -/ (fun kk6 =>
                  IxA 1 r6.1 s4 fun a9 =>
                  Ld (.int .i64) a9 H18 fun (x8 : Int) =>
                  Br (decide (x8 < 0)) (
                    kk6 true H18) (
                    IxA 1 r6.1 s4 fun a10 =>
                    Ld (.int .i64) a10 H18 fun (x9 : Int) =>
                    Br (decide (x9 ≥ (if 200 < (t0_.len : Int) then 200 else (t0_.len : Int)))) (
                      kk6 true H18) (
                      IxA 1 r6.1 s4 fun a11 =>
                      Ld (.int .i64) a11 H18 fun (x10 : Int) =>
                      IxA 1 l2 x10 fun a12 =>
                      Ld .bool a12 H18 fun (x11 : Bool) =>
                      kk6 x11 H18))) fun j6 H19 =>
                Br j6 (
                  k false H19) (
                  IxA 1 r6.1 s4 fun a13 =>
                  Ld (.int .i64) a13 H19 fun (x12 : Int) =>
                  IxA 1 l2 x12 fun a14 =>
                  St a14 (.bool true) H19 fun H20 =>
                  LoopT (σ := Int) /- t21 -/ (fun next5 s5 H21 =>
                    Br (decide (s5 < s4)) (
                      IxA 1 r6.1 s5 fun a15 =>
                      Ld (.int .i64) a15 H21 fun (x13 : Int) =>
                      IxA 1 r6.1 s4 fun a16 =>
                      Ld (.int .i64) a16 H21 fun (x14 : Int) =>
                      CallT Pg f_plan_Plan_Conflict [.pointer r2, .int .i64 x13, .int .i64 x14] (.one (.c .bool)) H21 fun (r7 : Bool) H22 =>
                      Jn (σ := Bool) /- t207 -/ (fun kk7 =>
                        Br r7 (
                          IxA 1 r6.1 s5 fun a17 =>
                          Ld (.int .i64) a17 H22 fun (x15 : Int) =>
                          IxA 1 r6.1 s4 fun a18 =>
                          Ld (.int .i64) a18 H22 fun (x16 : Int) =>
                          kk7 (decide (x15 > x16)) H22) (
                          kk7 false H22)) fun j7 H23 =>
                      Br j7 (
                        k false H23) (
                        Lt (IntKind.wrap .i64 (s5 + 1)) fun t7 =>
                        next5 t7 H23)) (
                      Lt (IntKind.wrap .i64 (s4 + 1)) fun t8 =>
                      next4 t8 H21)) 0 H20)) (
                CallT Pg f_plan_Plan_Legal [.pointer r2, .slice r6.1.a r6.1.len r6.1.cap] (.one (.c .bool)) H18 fun (r8 : Bool) H24 =>
                k r8 H24)) 0 H17))) (0, 0) H5)
def h_hindcastlaw18_PlanLegal : Hint := (.two .no (.two .no (.two .no (.two (.two (.join [(31, (.c .bool))] .no) .no) (.two .no (.two .no (.two .no (.two .no (.two (.two .no (.one (.loop [(10, (.c (.int .i64))), (11, (.c (.int .i64)))] (.two .no (.two (.one (.two .no (.one (.loop [(10, (.c (.int .i64))), (12, (.c (.int .i64)))] (.two .no (.two (.one (.two .no (.two (.two (.join [(83, (.c .bool))] .no) .no) (.two .no (.two .no (.two .no (.two (.two .no (.one (.loop [(14, (.c .bool)), (15, (.c (.int .i64)))] (.two .no (.two (.one (.two .no (.two (.two (.join [(109, (.c .bool))] .no) .no) (.join [(14, (.c .bool))] .no)))) .no))))) .no))))))) .no)))))) .no))))) (.two .no (.two (.two (.join [(145, (.c .bool))] .no) .no) (.two .no (.two (.two .no (.one (.loop [(20, (.c (.int .i64)))] (.two .no (.two (.one (.two (.two (.join [(174, (.c .bool))] .no) .no) (.two .no (.two .no (.one (.loop [(21, (.c (.int .i64)))] (.two .no (.two (.one (.two .no (.two (.join [(207, (.c .bool))] .no) .no))) .no)))))))) .no))))) .no)))))))))))))
theorem e_hindcastlaw18_PlanLegal (t0_ : Sl) (t1_ : Sl) (H : Heap) (k : Bool → Heap → Prop) : EFun Pg Try.f10 h_hindcastlaw18_PlanLegal [.slice t0_.a t0_.len t0_.cap, .slice t1_.a t1_.len t1_.cap] (.one (.c .bool)) H k = v_hindcastlaw18_PlanLegal t0_ t1_ H k := by kernel_rfl
theorem c_hindcastlaw18_PlanLegal (t0_ : Sl) (t1_ : Sl) {H : Heap} {k : Bool → Heap → Prop} (h : v_hindcastlaw18_PlanLegal t0_ t1_ H k) : CallT Pg f_hindcastlaw18_PlanLegal [.slice t0_.a t0_.len t0_.cap, .slice t1_.a t1_.len t1_.cap] (.one (.c .bool)) H k :=
  call_of_E Pg_mixed Try.func10 (by kernel_rfl) (by kernel_rfl) (by kernel_rfl) (by kernel_rfl) ((e_hindcastlaw18_PlanLegal t0_ t1_ H k).symm ▸ h)
/-- hindcast/hindcastlaw18.PlanSwaps -/
def v_hindcastlaw18_PlanSwaps (t0_ : Sl) (t1_ : Sl) (t2_ : Sl) (H : Heap) (k : Bool → Heap → Prop) : Prop :=
    CallT Pg f_hindcastlaw18_shown [] (.one (.c .bool)) H fun (r1 : Bool) H1 =>
    CallT Pg f_hindcastlaw18_made [.slice t0_.a t0_.len t0_.cap] (.one (.c .ptr)) H1 fun (r2 : Option Addr) H2 =>
    Jn (σ := Bool) /- t27 -/ (fun kk1 =>
      Br (!r1) (
        kk1 true H2) (
        kk1 r2.isNone H2)) fun j1 H3 =>
    Br j1 (
      k false H3) (
      CallT Pg f_hindcastlaw18_picked [.pointer r2, .slice t1_.a t1_.len t1_.cap] (.one (.c .sl)) H3 fun (r3 : Sl) H4 =>
      CallT Pg f_plan_Plan_Order [.pointer r2, .slice r3.a r3.len r3.cap] (.tup [(.c .sl), (.c (.int .i64))]) H4 fun (r4 : Sl × Int) H5 =>
      Jn (σ := Bool) /- t45 -/ (fun kk2 =>
        Br (r4.2 != 0) (
          kk2 true H5) (
          kk2 ((r4.1.len : Int) != (if 200 < (t0_.len : Int) then 200 else (t0_.len : Int))) H5)) fun j2 H6 =>
      Br j2 (
        k false H6) (
        LoopT (σ := Sl × Int) /- t9, t11 -/ (fun next1 s1 H7 =>
          Jn (σ := Bool) /- t58 -/ (fun kk3 =>
            Br (decide (s1.2 < (t2_.len : Int))) (
              Br (decide (s1.2 < 60)) (
                kk3 (decide ((s1.1.len : Int) > 1)) H7) (
                kk3 false H7)) (
              kk3 false H7)) fun j3 H8 =>
          Br j3 (
            Jn (σ := Sl) /- t9 -/ (fun kk4 =>
              IxA 1 t2_ s1.2 fun a1 =>
              Ld (.int .i64) a1 H8 fun (x1 : Int) =>
              Lt (IntKind.wrap .i64 ((s1.1.len : Int) - 1)) fun t1 =>
              CallT Pg f_hindcastlaw18_pick [.int .i64 x1, .int .i64 t1] (.one (.c (.int .i64))) H8 fun (r5 : Int) H10 =>
              IxA 1 s1.1 r5 fun a2 =>
              Ld (.int .i64) a2 H10 fun (x2 : Int) =>
              Lt (IntKind.wrap .i64 (r5 + 1)) fun t2 =>
              IxA 1 s1.1 t2 fun a3 =>
              Ld (.int .i64) a3 H10 fun (x3 : Int) =>
              CallT Pg f_plan_Plan_Conflict [.pointer r2, .int .i64 x2, .int .i64 x3] (.one (.c .bool)) H10 fun (r6 : Bool) H11 =>
              Lt (IntKind.wrap .i64 (r5 + 1)) fun t3 =>
              IxA 1 s1.1 t3 fun a4 =>
              Ld (.int .i64) a4 H11 fun (x4 : Int) =>
              IxA 1 s1.1 r5 fun a5 =>
              Ld (.int .i64) a5 H11 fun (x5 : Int) =>
              CallT Pg f_plan_Plan_Conflict [.pointer r2, .int .i64 x4, .int .i64 x5] (.one (.c .bool)) H11 fun (r7 : Bool) H12 =>
              App T_int 1 8 #[.int .i64 0] ⟨none, 0, 0⟩ s1.1 H12 fun l1 H13 =>
              Lt (IntKind.wrap .i64 (r5 + 1)) fun t4 =>
              IxA 1 s1.1 t4 fun a6 =>
              Ld (.int .i64) a6 H13 fun (x6 : Int) =>
              IxA 1 l1 r5 fun a7 =>
              St a7 (.int .i64 x6) H13 fun H14 =>
              Lt (IntKind.wrap .i64 (r5 + 1)) fun t5 =>
              IxA 1 s1.1 r5 fun a8 =>
              Ld (.int .i64) a8 H14 fun (x7 : Int) =>
              IxA 1 l1 t5 fun a9 =>
              St a9 (.int .i64 x7) H14 fun H15 =>
              CallT Pg f_plan_Plan_Legal [.pointer r2, .slice l1.a l1.len l1.cap] (.one (.c .bool)) H15 fun (r8 : Bool) H16 =>
              Jn (σ := Bool) /- t120 -/ (fun kk5 =>
                Br (!(r6 == r7)) (
                  kk5 true H16) (
                  kk5 (r8 == r6) H16)) fun j5 H17 =>
              Br j5 (
                k false H17) (
                Jn (σ := Sl) /- t9 -/ (fun kk6 =>
                  Br r8 (
                    kk6 l1 H17) (
                    kk6 s1.1 H17)) fun j6 H18 =>
                kk4 j6 H18)) fun j4 H9 =>
            Lt (IntKind.wrap .i64 (s1.2 + 1)) fun t6 =>
            next1 (j4, t6) H9) (
            Nw #[] T_int H8 fun b1 H19 =>
            App T_int 1 8 #[.int .i64 0] ⟨some (adr b1), 0, 0⟩ s1.1 H19 fun l2 H20 =>
            Jn (σ := Unit) /-  -/ (fun kk7 =>
              Br (decide ((l2.len : Int) > 1)) (
                IxA 1 l2 1 fun a10 =>
                Ld (.int .i64) a10 H20 fun (x8 : Int) =>
                IxA 1 l2 0 fun a11 =>
                St a11 (.int .i64 x8) H20 fun H22 =>
                CallT Pg f_plan_Plan_Legal [.pointer r2, .slice l2.a l2.len l2.cap] (.one (.c .bool)) H22 fun (r9 : Bool) H23 =>
                Br r9 (
                  k false H23) (
                  kk7 () H23)) (
                kk7 () H20)) fun j7 H21 =>
            CallT Pg f_plan_Plan_Legal [.pointer r2, .slice s1.1.a s1.1.len s1.1.cap] (.one (.c .bool)) H21 fun (r10 : Bool) H24 =>
            k r10 H24)) (r4.1, 0) H6))
def h_hindcastlaw18_PlanSwaps : Hint := (.two .no (.two .no (.two .no (.two (.two (.join [(27, (.c .bool))] .no) .no) (.two .no (.two (.two (.join [(45, (.c .bool))] .no) .no) (.two (.two .no (.one (.loop [(9, (.c .sl)), (11, (.c (.int .i64)))] (.two (.two (.join [(58, (.c .bool))] .no) .no) (.two (.join [(9, (.c .sl))] (.one (.two .no (.two .no (.two .no (.two .no (.two .no (.two .no (.two .no (.two .no (.two (.two (.join [(120, (.c .bool))] .no) .no) (.two .no (.join [(9, (.c .sl))] .no))))))))))))) .no))))) (.two .no (.two (.two .no (.join [] .no)) .no)))))))))
theorem e_hindcastlaw18_PlanSwaps (t0_ : Sl) (t1_ : Sl) (t2_ : Sl) (H : Heap) (k : Bool → Heap → Prop) : EFun Pg Try.f11 h_hindcastlaw18_PlanSwaps [.slice t0_.a t0_.len t0_.cap, .slice t1_.a t1_.len t1_.cap, .slice t2_.a t2_.len t2_.cap] (.one (.c .bool)) H k = v_hindcastlaw18_PlanSwaps t0_ t1_ t2_ H k := by kernel_rfl
theorem c_hindcastlaw18_PlanSwaps (t0_ : Sl) (t1_ : Sl) (t2_ : Sl) {H : Heap} {k : Bool → Heap → Prop} (h : v_hindcastlaw18_PlanSwaps t0_ t1_ t2_ H k) : CallT Pg f_hindcastlaw18_PlanSwaps [.slice t0_.a t0_.len t0_.cap, .slice t1_.a t1_.len t1_.cap, .slice t2_.a t2_.len t2_.cap] (.one (.c .bool)) H k :=
  call_of_E Pg_mixed Try.func11 (by kernel_rfl) (by kernel_rfl) (by kernel_rfl) (by kernel_rfl) ((e_hindcastlaw18_PlanSwaps t0_ t1_ t2_ H k).symm ▸ h)
/-- hindcast/hindcastlaw18.shown -/
def v_hindcastlaw18_shown  (H : Heap) (k : Bool → Heap → Prop) : Prop :=
    Nw #[.int .i64 1] T_int H fun b1 H1 =>
    Nw #[.int .i64 1] T_int H1 fun b2 H2 =>
    Nw #[.int .i64 2] T_int H2 fun b3 H3 =>
    Nw #[.int .i64 3] T_int H3 fun b4 H4 =>
    Nw #[.int .i64 3, .int .i64 2] T_int H4 fun b5 H5 =>
    Nw #[.slice none 0 0, .slice none 0 0, .slice none 0 0, .slice (some (adr b1)) 1 1, .string ByteArray.empty, .int .i64 0, .int .i64 0, .slice none 0 0, .slice none 0 0, .slice none 0 0, .slice (some (adr b2)) 1 1, .slice (some (adr b3)) 1 1, .string ByteArray.empty, .int .i64 0, .int .i64 0, .slice none 0 0, .slice none 0 0, .slice none 0 0, .slice none 0 0, .slice (some (adr b4)) 1 1, .string ByteArray.empty, .int .i64 0, .int .i64 0, .slice none 0 0, .slice none 0 0, .slice none 0 0, .slice (some (adr b5)) 2 2, .slice none 0 0, .string ByteArray.empty, .int .i64 0, .int .i64 0, .slice none 0 0] T_api_System H5 fun b6 H6 =>
    CallT Pg f_plan_New [.slice (some (adr b6)) 4 4] (.one (.c .ptr)) H6 fun (r1 : Option Addr) H7 =>
    Br r1.isNone (
      k false H7) (
      Nw #[.int .i64 1, .int .i64 0, .int .i64 0, .int .i64 0] T_int H7 fun b7 H8 =>
      CallT Pg f_plan_Plan_Order [.pointer r1, .slice (some (adr b7)) 4 4] (.tup [(.c .sl), (.c (.int .i64))]) H8 fun (r2 : Sl × Int) H9 =>
      Nw #[.int .i64 2, .int .i64 0, .int .i64 0, .int .i64 0] T_int H9 fun b8 H10 =>
      CallT Pg f_plan_Plan_Order [.pointer r1, .slice (some (adr b8)) 4 4] (.tup [(.c .sl), (.c (.int .i64))]) H10 fun (r3 : Sl × Int) H11 =>
      CallT Pg f_plan_Plan_Conflict [.pointer r1, .int .i64 0, .int .i64 1] (.one (.c .bool)) H11 fun (r4 : Bool) H12 =>
      CallT Pg f_plan_Plan_Conflict [.pointer r1, .int .i64 0, .int .i64 2] (.one (.c .bool)) H12 fun (r5 : Bool) H13 =>
      Nw #[.int .i64 0, .int .i64 1, .int .i64 2, .int .i64 3] T_int H13 fun b9 H14 =>
      CallT Pg f_plan_Plan_Legal [.pointer r1, .slice (some (adr b9)) 4 4] (.one (.c .bool)) H14 fun (r6 : Bool) H15 =>
      Nw #[.int .i64 1, .int .i64 0, .int .i64 2, .int .i64 3] T_int H15 fun b10 H16 =>
      CallT Pg f_plan_Plan_Legal [.pointer r1, .slice (some (adr b10)) 4 4] (.one (.c .bool)) H16 fun (r7 : Bool) H17 =>
      Jn (σ := Bool) /- t0 -/ (fun kk1 =>
        Br (r2.2 == 0) (
          Br (r3.2 == 180) (
            Br ((r2.1.len : Int) == 4) (
              IxA 1 r2.1 0 fun a1 =>
              Ld (.int .i64) a1 H17 fun (x1 : Int) =>
              Br (x1 == 2) (
                IxA 1 r2.1 1 fun a2 =>
                Ld (.int .i64) a2 H17 fun (x2 : Int) =>
                Br (x2 == 0) (
                  IxA 1 r2.1 2 fun a3 =>
                  Ld (.int .i64) a3 H17 fun (x3 : Int) =>
                  Br (x3 == 1) (
                    IxA 1 r2.1 3 fun a4 =>
                    Ld (.int .i64) a4 H17 fun (x4 : Int) =>
                    Br (x4 == 3) (
                      Br r4 (
                        Br (!r5) (
                          Br r6 (
                            Br (!r7) (
                              CallT Pg f_plan_Plan_Stages [.pointer r1] (.one (.c .sl)) H17 fun (r8 : Sl) H19 =>
                              kk1 ((r8.len : Int) == 3) H19) (
                              kk1 false H17)) (
                            kk1 false H17)) (
                          kk1 false H17)) (
                        kk1 false H17)) (
                      kk1 false H17)) (
                    kk1 false H17)) (
                  kk1 false H17)) (
                kk1 false H17)) (
              kk1 false H17)) (
            kk1 false H17)) (
          kk1 false H17)) fun j1 H18 =>
      k j1 H18)
def h_hindcastlaw18_shown : Hint := (.two .no (.two .no (.two .no (.two .no (.two .no (.two .no (.two .no (.two .no (.two .no (.two (.join [(0, (.c .bool))] .no) .no))))))))))
theorem e_hindcastlaw18_shown  (H : Heap) (k : Bool → Heap → Prop) : EFun Pg Try.f38 h_hindcastlaw18_shown [] (.one (.c .bool)) H k = v_hindcastlaw18_shown  H k := by kernel_rfl
theorem c_hindcastlaw18_shown  {H : Heap} {k : Bool → Heap → Prop} (h : v_hindcastlaw18_shown  H k) : CallT Pg f_hindcastlaw18_shown [] (.one (.c .bool)) H k :=
  call_of_E Pg_mixed Try.func38 (by kernel_rfl) (by kernel_rfl) (by kernel_rfl) (by kernel_rfl) ((e_hindcastlaw18_shown  H k).symm ▸ h)
/-- hindcast/hindcastlaw18.given -/
def v_hindcastlaw18_given (t0_ : Sl) (H : Heap) (k : Option Addr → Heap → Prop) : Prop :=
    CallT Pg f_hindcastlaw18_systems [.slice t0_.a t0_.len t0_.cap] (.one (.c .sl)) H fun (r1 : Sl) H1 =>
    LoopT (σ := Int) /- t5 -/ (fun next1 s1 H2 =>
      Br (decide (s1 < (r1.len : Int))) (
        IxA 8 r1 s1 fun a1 =>
        Ld .sl (a1.add 2) H2 fun (x1 : Sl) =>
        CallT Pg f_hindcastlaw18_listed [.slice x1.a x1.len x1.cap] (.one (.c .sl)) H2 fun (r2 : Sl) H3 =>
        IxA 8 r1 s1 fun a2 =>
        St (a2.add 2) (.slice r2.a r2.len r2.cap) H3 fun H4 =>
        IxA 8 r1 s1 fun a3 =>
        Ld .sl (a3.add 3) H4 fun (x2 : Sl) =>
        CallT Pg f_hindcastlaw18_listed [.slice x2.a x2.len x2.cap] (.one (.c .sl)) H4 fun (r3 : Sl) H5 =>
        IxA 8 r1 s1 fun a4 =>
        St (a4.add 3) (.slice r3.a r3.len r3.cap) H5 fun H6 =>
        Lt (IntKind.wrap .i64 (s1 + 1)) fun t1 =>
        next1 t1 H6) (
        LoopT (σ := Sl × Int) /- t3, t6 -/ (fun next2 s2 H7 =>
          Br (decide (s2.2 < 8)) (
            Nw #[.int .i64 1, .int .i64 2, .int .i64 3] T_int H7 fun b1 H8 =>
            Nw #[.slice none 0 0, .slice none 0 0, .slice none 0 0, .slice (some (adr b1)) 3 3, .string ByteArray.empty, .int .i64 0, .int .i64 0, .slice none 0 0] T_api_System H8 fun b2 H9 =>
            App T_api_System 8 152 #[.slice none 0 0, .slice none 0 0, .slice none 0 0, .slice none 0 0, .string ByteArray.empty, .int .i64 0, .int .i64 0, .slice none 0 0] s2.1 ⟨some (adr b2), 1, 1⟩ H9 fun l1 H10 =>
            Lt (IntKind.wrap .i64 (s2.2 + 1)) fun t2 =>
            next2 (l1, t2) H10) (
            SlA 8 s2.1 0 (r1.len : Int) (s2.1.cap : Nat) fun l2 =>
            CallT Pg f_plan_New [.slice l2.a l2.len l2.cap] (.one (.c .ptr)) H7 fun (r4 : Option Addr) H11 =>
            CallT Pg f_hindcastlaw18_systems [.slice t0_.a t0_.len t0_.cap] (.one (.c .sl)) H11 fun (r5 : Sl) H12 =>
            LoopT (σ := Bool × Int) /- t9, t10 -/ (fun next3 s3 H13 =>
              Br (decide (s3.2 < (s2.1.len : Int))) (
                Jn (σ := Bool) /- t9 -/ (fun kk1 =>
                  Br (decide (s3.2 ≥ (r1.len : Int))) (
                    Jn (σ := Bool) /- t9 -/ (fun kk2 =>
                      Br s3.1 (
                        IxA 8 s2.1 s3.2 fun a5 =>
                        Ld .sl (a5.add 3) H13 fun (x3 : Sl) =>
                        Br ((x3.len : Int) == 3) (
                          IxA 8 s2.1 s3.2 fun a6 =>
                          Ld .sl (a6.add 2) H13 fun (x4 : Sl) =>
                          kk2 ((x4.len : Int) == 0) H13) (
                          kk2 false H13)) (
                        kk2 false H13)) fun j2 H15 =>
                    kk1 j2 H15) (
                    IxA 8 s2.1 s3.2 fun a7 =>
                    Ld .sl (a7.add 2) H13 fun (x5 : Sl) =>
                    IxA 8 r5 s3.2 fun a8 =>
                    Ld .sl (a8.add 2) H13 fun (x6 : Sl) =>
                    CallT Pg f_hindcastlaw18_still [.slice x5.a x5.len x5.cap, .slice x6.a x6.len x6.cap] (.one (.c .bool)) H13 fun (r6 : Bool) H16 =>
                    IxA 8 s2.1 s3.2 fun a9 =>
                    Ld .sl (a9.add 3) H16 fun (x7 : Sl) =>
                    IxA 8 r5 s3.2 fun a10 =>
                    Ld .sl (a10.add 3) H16 fun (x8 : Sl) =>
                    CallT Pg f_hindcastlaw18_still [.slice x7.a x7.len x7.cap, .slice x8.a x8.len x8.cap] (.one (.c .bool)) H16 fun (r7 : Bool) H17 =>
                    Jn (σ := Bool) /- t9 -/ (fun kk3 =>
                      Br s3.1 (
                        Br r6 (
                          Br r7 (
                            IxA 8 s2.1 s3.2 fun a11 =>
                            Ld .sl a11 H17 fun (x9 : Sl) =>
                            Br ((x9.len : Int) == 2) (
                              IxA 8 s2.1 s3.2 fun a12 =>
                              Ld .sl (a12.add 1) H17 fun (x10 : Sl) =>
                              kk3 ((x10.len : Int) == 1) H17) (
                              kk3 false H17)) (
                            kk3 false H17)) (
                          kk3 false H17)) (
                        kk3 false H17)) fun j3 H18 =>
                    LoopT (σ := Int) /- t13 -/ (fun next4 s4 H19 =>
                      IxA 8 s2.1 s3.2 fun a13 =>
                      Ld .sl (a13.add 2) H19 fun (x11 : Sl) =>
                      Br (decide (s4 < (x11.len : Int))) (
                        IxA 8 s2.1 s3.2 fun a14 =>
                        Ld .sl (a14.add 2) H19 fun (x12 : Sl) =>
                        IxA 1 x12 s4 fun a15 =>
                        St a15 (.int .i64 1) H19 fun H20 =>
                        Lt (IntKind.wrap .i64 (s4 + 1)) fun t3 =>
                        next4 t3 H20) (
                        LoopT (σ := Int) /- t14 -/ (fun next5 s5 H21 =>
                          IxA 8 s2.1 s3.2 fun a16 =>
                          Ld .sl (a16.add 3) H21 fun (x13 : Sl) =>
                          Br (decide (s5 < (x13.len : Int))) (
                            IxA 8 s2.1 s3.2 fun a17 =>
                            Ld .sl (a17.add 3) H21 fun (x14 : Sl) =>
                            IxA 1 x14 s5 fun a18 =>
                            St a18 (.int .i64 1) H21 fun H22 =>
                            Lt (IntKind.wrap .i64 (s5 + 1)) fun t4 =>
                            next5 t4 H22) (
                            Nw #[.int .i64 1] T_int H21 fun b3 H23 =>
                            IxA 8 s2.1 s3.2 fun a19 =>
                            St (a19.add 0) (.slice none 0 0) H23 fun H24 =>
                            St (a19.add 1) (.slice none 0 0) H24 fun H25 =>
                            St (a19.add 2) (.slice none 0 0) H25 fun H26 =>
                            St (a19.add 3) (.slice (some (adr b3)) 1 1) H26 fun H27 =>
                            St (a19.add 4) (.string ByteArray.empty) H27 fun H28 =>
                            St (a19.add 5) (.int .i64 0) H28 fun H29 =>
                            St (a19.add 6) (.int .i64 0) H29 fun H30 =>
                            St (a19.add 7) (.slice none 0 0) H30 fun H31 =>
                            kk1 j3 H31)) 0 H19)) 0 H18)) fun j1 H14 =>
                Lt (IntKind.wrap .i64 (s3.2 + 1)) fun t5 =>
                next3 (j1, t5) H14) (
                Br (!s3.1) (
                  k none H13) (
                  k r4 H13))) (true, 0) H12)) (r1, 0) H2)) 0 H1
def h_hindcastlaw18_given : Hint := (.two .no (.two .no (.two .no (.two (.two .no (.one (.loop [(5, (.c (.int .i64)))] .no))) (.two (.two .no (.one (.loop [(3, (.c .sl)), (6, (.c (.int .i64)))] .no))) (.two .no (.two .no (.two .no (.two (.two .no (.one (.loop [(9, (.c .bool)), (10, (.c (.int .i64)))] (.two .no (.two (.join [(9, (.c .bool))] (.one (.two (.two .no (.two (.two (.join [(9, (.c .bool))] .no) .no) .no)) (.two .no (.two .no (.two (.join [(9, (.c .bool))] .no) (.two (.two .no (.one (.loop [(13, (.c (.int .i64)))] .no))) (.two (.two .no (.one (.loop [(14, (.c (.int .i64)))] .no))) .no)))))))) .no))))) .no)))))))))
theorem e_hindcastlaw18_given (t0_ : Sl) (H : Heap) (k : Option Addr → Heap → Prop) : EFun Pg Try.f39 h_hindcastlaw18_given [.slice t0_.a t0_.len t0_.cap] (.one (.c .ptr)) H k = v_hindcastlaw18_given t0_ H k := by kernel_rfl
theorem c_hindcastlaw18_given (t0_ : Sl) {H : Heap} {k : Option Addr → Heap → Prop} (h : v_hindcastlaw18_given t0_ H k) : CallT Pg f_hindcastlaw18_given [.slice t0_.a t0_.len t0_.cap] (.one (.c .ptr)) H k :=
  call_of_E Pg_mixed Try.func39 (by kernel_rfl) (by kernel_rfl) (by kernel_rfl) (by kernel_rfl) ((e_hindcastlaw18_given t0_ H k).symm ▸ h)
/-- hindcast/hindcastref18.New -/
def v_hindcastref18_New (systems_ : Sl) (H : Heap) (k : Option Addr → Heap → Prop) : Prop :=
    Nw #[.slice none 0 0, .slice none 0 0] T_hindcastref18_Plan H fun b1 H1 =>
    LoopT (σ := Int) /- i -/ (fun next1 s1 H2 =>
      Br (decide (s1 < (systems_.len : Int))) (
        NilCk (some (adr b1)) fun a1 =>
        Ld .sl a1 H2 fun (x1 : Sl) =>
        IxA 8 systems_ s1 fun a2 =>
        Ld .sl (a2.add 2) H2 fun (x2 : Sl) =>
        CallT Pg f_hindcastref18_copied [.slice x2.a x2.len x2.cap] (.one (.c .sl)) H2 fun (r1 : Sl) H3 =>
        Stab [(a1, .slice x1.a x1.len x1.cap)] H3 <|
        Nw #[.slice r1.a r1.len r1.cap] T_Sl_int H3 fun b2 H4 =>
        Stab [(a2.add 2, .slice x2.a x2.len x2.cap), (a1, .slice x1.a x1.len x1.cap)] H4 <|
        App T_Sl_int 1 24 #[.slice none 0 0] x1 ⟨some (adr b2), 1, 1⟩ H4 fun l1 H5 =>
        Stab [(a2.add 2, .slice x2.a x2.len x2.cap)] H5 <|
        NilCk (some (adr b1)) fun a3 =>
        St a3 (.slice l1.a l1.len l1.cap) H5 fun H6 =>
        NilCk (some (adr b1)) fun a4 =>
        Ld .sl (a4.add 1) H6 fun (x3 : Sl) =>
        IxA 8 systems_ s1 fun a5 =>
        Ld .sl (a5.add 3) H6 fun (x4 : Sl) =>
        CallT Pg f_hindcastref18_copied [.slice x4.a x4.len x4.cap] (.one (.c .sl)) H6 fun (r2 : Sl) H7 =>
        Stab [(a4.add 1, .slice x3.a x3.len x3.cap)] H7 <|
        Nw #[.slice r2.a r2.len r2.cap] T_Sl_int H7 fun b3 H8 =>
        Stab [(a5.add 3, .slice x4.a x4.len x4.cap), (a4.add 1, .slice x3.a x3.len x3.cap)] H8 <|
        App T_Sl_int 1 24 #[.slice none 0 0] x3 ⟨some (adr b3), 1, 1⟩ H8 fun l2 H9 =>
        Stab [(a5.add 3, .slice x4.a x4.len x4.cap)] H9 <|
        NilCk (some (adr b1)) fun a6 =>
        St (a6.add 1) (.slice l2.a l2.len l2.cap) H9 fun H10 =>
        Lt (IntKind.wrap .i64 (s1 + 1)) fun t1 =>
        next1 t1 H10) (
        k (some (adr b1)) H2)) 0 H1
def h_hindcastref18_New : Hint := (.two .no (.two .no (.two (.two .no (.one (.loop [(4, (.c (.int .i64)))] .no))) .no)))
theorem e_hindcastref18_New (systems_ : Sl) (H : Heap) (k : Option Addr → Heap → Prop) : EFun Pg Try.f40 h_hindcastref18_New [.slice systems_.a systems_.len systems_.cap] (.one (.c .ptr)) H k = v_hindcastref18_New systems_ H k := by kernel_rfl
theorem c_hindcastref18_New (systems_ : Sl) {H : Heap} {k : Option Addr → Heap → Prop} (h : v_hindcastref18_New systems_ H k) : CallT Pg f_hindcastref18_New [.slice systems_.a systems_.len systems_.cap] (.one (.c .ptr)) H k :=
  call_of_E Pg_mixed Try.func40 (by kernel_rfl) (by kernel_rfl) (by kernel_rfl) (by kernel_rfl) ((e_hindcastref18_New systems_ H k).symm ▸ h)
/-- hindcast/hindcastlaw18.systems -/
def v_hindcastlaw18_systems (l_ : Sl) (H : Heap) (k : Sl → Heap → Prop) : Prop :=
    LoopT (σ := Sl × Int) /- out, i -/ (fun next1 s1 H1 =>
      Jn (σ := Bool) /-  -/ (fun kk1 =>
        Br (decide (s1.2 < (l_.len : Int))) (
          kk1 (decide (s1.2 < 200)) H1) (
          kk1 false H1)) fun j1 H2 =>
      Br j1 (
        Nw #[.int .i64 1, .int .i64 2] T_int H2 fun b1 H3 =>
        Nw #[.int .i64 s1.2] T_int H3 fun b2 H4 =>
        Nw #[.slice none 0 0, .slice none 0 0, .slice none 0 0, .slice none 0 0, .string ByteArray.empty, .int .i64 0, .int .i64 0, .slice none 0 0] T_api_System H4 fun b3 H5 =>
        St ((adr b3).add 0) (.slice (some (adr b1)) 2 2) H5 fun H6 =>
        St ((adr b3).add 1) (.slice (some (adr b2)) 1 1) H6 fun H7 =>
        St ((adr b3).add 2) (.slice none 0 0) H7 fun H8 =>
        St ((adr b3).add 3) (.slice none 0 0) H8 fun H9 =>
        St ((adr b3).add 4) (.string ByteArray.empty) H9 fun H10 =>
        St ((adr b3).add 5) (.int .i64 0) H10 fun H11 =>
        St ((adr b3).add 6) (.int .i64 0) H11 fun H12 =>
        St ((adr b3).add 7) (.slice none 0 0) H12 fun H13 =>
        Ld .sl ((adr b3).add 2) H13 fun (x1 : Sl) =>
        IxA 2 l_ s1.2 fun a1 =>
        Ld .sl a1 H13 fun (x2 : Sl) =>
        IxA 2 l_ s1.2 fun a2 =>
        Ld .sl a2 H13 fun (x3 : Sl) =>
        SlA 1 x2 0 (if 30 < (x3.len : Int) then 30 else (x3.len : Int)) (x2.cap : Nat) fun l1 =>
        App T_int 1 8 #[.int .i64 0] x1 l1 H13 fun l2 H14 =>
        Stab [(a2, .slice x3.a x3.len x3.cap), (a1, .slice x2.a x2.len x2.cap)] H14 <|
        St ((adr b3).add 2) (.slice l2.a l2.len l2.cap) H14 fun H15 =>
        Ld .sl ((adr b3).add 3) H15 fun (x4 : Sl) =>
        IxA 2 l_ s1.2 fun a3 =>
        Ld .sl (a3.add 1) H15 fun (x5 : Sl) =>
        IxA 2 l_ s1.2 fun a4 =>
        Ld .sl (a4.add 1) H15 fun (x6 : Sl) =>
        SlA 1 x5 0 (if 30 < (x6.len : Int) then 30 else (x6.len : Int)) (x5.cap : Nat) fun l3 =>
        App T_int 1 8 #[.int .i64 0] x4 l3 H15 fun l4 H16 =>
        Stab [(a4.add 1, .slice x6.a x6.len x6.cap), (a3.add 1, .slice x5.a x5.len x5.cap)] H16 <|
        St ((adr b3).add 3) (.slice l4.a l4.len l4.cap) H16 fun H17 =>
        LdC [.sl, .sl, .sl, .sl, .str, (.int .i64), (.int .i64), .sl] (adr b3) H17 fun (c1 : Sl × Sl × Sl × Sl × ByteArray × Int × Int × Sl) =>
        Nw #[.slice c1.1.a c1.1.len c1.1.cap, .slice c1.2.1.a c1.2.1.len c1.2.1.cap, .slice c1.2.2.1.a c1.2.2.1.len c1.2.2.1.cap, .slice c1.2.2.2.1.a c1.2.2.2.1.len c1.2.2.2.1.cap, .string c1.2.2.2.2.1, .int .i64 c1.2.2.2.2.2.1, .int .i64 c1.2.2.2.2.2.2.1, .slice c1.2.2.2.2.2.2.2.a c1.2.2.2.2.2.2.2.len c1.2.2.2.2.2.2.2.cap] T_api_System H17 fun b4 H18 =>
        App T_api_System 8 152 #[.slice none 0 0, .slice none 0 0, .slice none 0 0, .slice none 0 0, .string ByteArray.empty, .int .i64 0, .int .i64 0, .slice none 0 0] s1.1 ⟨some (adr b4), 1, 1⟩ H18 fun l5 H19 =>
        Lt (IntKind.wrap .i64 (s1.2 + 1)) fun t1 =>
        next1 (l5, t1) H19) (
        k s1.1 H2)) (⟨none, 0, 0⟩, 0) H
def h_hindcastlaw18_systems : Hint := (.two .no (.two .no (.two (.two .no (.one (.loop [(3, (.c .sl)), (4, (.c (.int .i64)))] (.two (.two (.join [(13, (.c .bool))] .no) .no) .no)))) .no)))
theorem e_hindcastlaw18_systems (l_ : Sl) (H : Heap) (k : Sl → Heap → Prop) : EFun Pg Try.f41 h_hindcastlaw18_systems [.slice l_.a l_.len l_.cap] (.one (.c .sl)) H k = v_hindcastlaw18_systems l_ H k := by kernel_rfl
theorem c_hindcastlaw18_systems (l_ : Sl) {H : Heap} {k : Sl → Heap → Prop} (h : v_hindcastlaw18_systems l_ H k) : CallT Pg f_hindcastlaw18_systems [.slice l_.a l_.len l_.cap] (.one (.c .sl)) H k :=
  call_of_E Pg_mixed Try.func41 (by kernel_rfl) (by kernel_rfl) (by kernel_rfl) (by kernel_rfl) ((e_hindcastlaw18_systems l_ H k).symm ▸ h)
/-- hindcast/hindcastlaw18.lent -/
def v_hindcastlaw18_lent (l_ : Sl) (H : Heap) (k : Sl → Heap → Prop) : Prop :=
    App T_int 1 8 #[.int .i64 0] ⟨none, 0, 0⟩ l_ H fun l1 H1 =>
    LoopT (σ := Sl × Int) /- out, i -/ (fun next1 s1 H2 =>
      Br (decide (s1.2 < 8)) (
        Lt (IntKind.wrap .i64 (70 + s1.2)) fun t1 =>
        Nw #[.int .i64 t1] T_int H2 fun b1 H3 =>
        App T_int 1 8 #[.int .i64 0] s1.1 ⟨some (adr b1), 1, 1⟩ H3 fun l2 H4 =>
        Lt (IntKind.wrap .i64 (s1.2 + 1)) fun t2 =>
        next1 (l2, t2) H4) (
        SlA 1 s1.1 0 (l_.len : Int) (s1.1.cap : Nat) fun l3 =>
        k l3 H2)) (l1, 0) H1
def h_hindcastlaw18_lent : Hint := (.two .no (.two .no (.two .no (.two (.two .no (.one (.loop [(3, (.c .sl)), (4, (.c (.int .i64)))] .no))) .no))))
theorem e_hindcastlaw18_lent (l_ : Sl) (H : Heap) (k : Sl → Heap → Prop) : EFun Pg Try.f42 h_hindcastlaw18_lent [.slice l_.a l_.len l_.cap] (.one (.c .sl)) H k = v_hindcastlaw18_lent l_ H k := by kernel_rfl
theorem c_hindcastlaw18_lent (l_ : Sl) {H : Heap} {k : Sl → Heap → Prop} (h : v_hindcastlaw18_lent l_ H k) : CallT Pg f_hindcastlaw18_lent [.slice l_.a l_.len l_.cap] (.one (.c .sl)) H k :=
  call_of_E Pg_mixed Try.func42 (by kernel_rfl) (by kernel_rfl) (by kernel_rfl) (by kernel_rfl) ((e_hindcastlaw18_lent l_ H k).symm ▸ h)
/-- hindcast/hindcastlaw18.asks -/
def v_hindcastlaw18_asks (t0_ : Option Addr) (t1_ : Option Addr) (t2_ : Option Addr) (t3_ : Option Addr) (t4_ : Sl) (t5_ : Sl) (t6_ : Option Addr) (H : Heap) (k : Bool → Heap → Prop) : Prop :=
    CallT Pg f_plan_Plan_Stages [.pointer t0_] (.one (.c .sl)) H fun (r1 : Sl) H1 =>
    CallT Pg f_plan_Plan_Stages [.pointer t1_] (.one (.c .sl)) H1 fun (r2 : Sl) H2 =>
    CallT Pg f_plan_Plan_Stages [.pointer t0_] (.one (.c .sl)) H2 fun (r3 : Sl) H3 =>
    CallT Pg f_plan_Plan_Order [.pointer t0_, .slice t4_.a t4_.len t4_.cap] (.tup [(.c .sl), (.c (.int .i64))]) H3 fun (r4 : Sl × Int) H4 =>
    CallT Pg f_plan_Plan_Order [.pointer t1_, .slice t4_.a t4_.len t4_.cap] (.tup [(.c .sl), (.c (.int .i64))]) H4 fun (r5 : Sl × Int) H5 =>
    CallT Pg f_plan_Plan_Order [.pointer t0_, .slice t4_.a t4_.len t4_.cap] (.tup [(.c .sl), (.c (.int .i64))]) H5 fun (r6 : Sl × Int) H6 =>
    CallT Pg f_hindcastref18_Plan_Order [.pointer t2_, .slice t5_.a t5_.len t5_.cap] (.tup [(.c .sl), (.c (.int .i64))]) H6 fun (r7 : Sl × Int) H7 =>
    CallT Pg f_hindcastref18_Plan_Order [.pointer t3_, .slice t5_.a t5_.len t5_.cap] (.tup [(.c .sl), (.c (.int .i64))]) H7 fun (r8 : Sl × Int) H8 =>
    Nw #[.slice r1.a r1.len r1.cap, .slice r2.a r2.len r2.cap, .slice r3.a r3.len r3.cap] T_Sl_Sl_int H8 fun b1 H9 =>
    CallT Pg f_hindcastref18_Plan_Stages [.pointer t2_] (.one (.c .sl)) H9 fun (r9 : Sl) H10 =>
    CallT Pg f_hindcastref18_Plan_Stages [.pointer t3_] (.one (.c .sl)) H10 fun (r10 : Sl) H11 =>
    CallT Pg f_hindcastref18_Plan_Stages [.pointer t2_] (.one (.c .sl)) H11 fun (r11 : Sl) H12 =>
    Nw #[.slice r9.a r9.len r9.cap, .slice r10.a r10.len r10.cap, .slice r11.a r11.len r11.cap] T_Sl_Sl_int H12 fun b2 H13 =>
    Nw #[.slice r4.1.a r4.1.len r4.1.cap, .slice r5.1.a r5.1.len r5.1.cap, .slice r6.1.a r6.1.len r6.1.cap] T_Sl_int H13 fun b3 H14 =>
    Nw #[.slice r7.1.a r7.1.len r7.1.cap, .slice r8.1.a r8.1.len r8.1.cap, .slice r7.1.a r7.1.len r7.1.cap] T_Sl_int H14 fun b4 H15 =>
    Jn (σ := Bool) /- t103 -/ (fun kk1 =>
      Br (r4.2 != r7.2) (
        kk1 true H15) (
        Br (r5.2 != r8.2) (
          kk1 true H15) (
          kk1 (r6.2 != r7.2) H15))) fun j1 H16 =>
    Br j1 (
      k false H16) (
      LoopT (σ := Int) /- t32 -/ (fun next1 s1 H17 =>
        Br (decide (s1 < 3)) (
          LoopT (σ := Int) /- t33 -/ (fun next2 s2 H18 =>
            Br (decide (s2 < 3)) (
              IxA 1 ⟨some (adr b1), 3, 3⟩ s2 fun a1 =>
              Ld .sl a1 H18 fun (x1 : Sl) =>
              IxA 1 ⟨some (adr b2), 3, 3⟩ s2 fun a2 =>
              Ld .sl a2 H18 fun (x2 : Sl) =>
              CallT Pg f_hindcastlaw18_sames [.slice x1.a x1.len x1.cap, .slice x2.a x2.len x2.cap] (.one (.c .bool)) H18 fun (r12 : Bool) H19 =>
              IxA 1 ⟨some (adr b3), 3, 3⟩ s2 fun a3 =>
              Ld .sl a3 H19 fun (x3 : Sl) =>
              IxA 1 ⟨some (adr b4), 3, 3⟩ s2 fun a4 =>
              Ld .sl a4 H19 fun (x4 : Sl) =>
              CallT Pg f_hindcastlaw18_same [.slice x3.a x3.len x3.cap, .slice x4.a x4.len x4.cap] (.one (.c .bool)) H19 fun (r13 : Bool) H20 =>
              Jn (σ := Bool) /- t136 -/ (fun kk2 =>
                Br (!r12) (
                  kk2 true H20) (
                  kk2 (!r13) H20)) fun j2 H21 =>
              Br j2 (
                k false H21) (
                Lt (IntKind.wrap .i64 (s2 + 1)) fun t1 =>
                next2 t1 H21)) (
              IxA 1 ⟨some (adr b1), 3, 3⟩ s1 fun a5 =>
              Ld .sl a5 H18 fun (x5 : Sl) =>
              CallT Pg f_hindcastlaw18_Book_keeps [.pointer t6_, .slice x5.a x5.len x5.cap] (.tup []) H18 fun (r14 : Unit) H22 =>
              IxA 1 ⟨some (adr b3), 3, 3⟩ s1 fun a6 =>
              Ld .sl a6 H22 fun (x6 : Sl) =>
              CallT Pg f_hindcastlaw18_Book_keep [.pointer t6_, .slice x6.a x6.len x6.cap] (.tup []) H22 fun (r15 : Unit) H23 =>
              CallT Pg f_hindcastlaw18_Book_grows [.pointer t6_] (.tup []) H23 fun (r16 : Unit) H24 =>
              Lt (IntKind.wrap .i64 (s1 + 1)) fun t2 =>
              next1 t2 H24)) s1 H17) (
          CallT Pg f_hindcastlaw18_Book_looks [.pointer t6_] (.one (.c .bool)) H17 fun (r17 : Bool) H25 =>
          k r17 H25)) 0 H16)
def h_hindcastlaw18_asks : Hint := (.two .no (.two .no (.two .no (.two .no (.two .no (.two .no (.two .no (.two .no (.two .no (.two .no (.two .no (.two .no (.two .no (.two (.two (.join [(103, (.c .bool))] .no) .no) (.two (.two .no (.one (.loop [(32, (.c (.int .i64)))] (.two .no (.two (.one (.two (.two .no (.one (.loop [(33, (.c (.int .i64)))] (.two .no (.two (.one (.two .no (.two .no (.two (.join [(136, (.c .bool))] .no) .no)))) .no))))) .no)) .no))))) .no)))))))))))))))
theorem e_hindcastlaw18_asks (t0_ : Option Addr) (t1_ : Option Addr) (t2_ : Option Addr) (t3_ : Option Addr) (t4_ : Sl) (t5_ : Sl) (t6_ : Option Addr) (H : Heap) (k : Bool → Heap → Prop) : EFun Pg Try.f43 h_hindcastlaw18_asks [.pointer t0_, .pointer t1_, .pointer t2_, .pointer t3_, .slice t4_.a t4_.len t4_.cap, .slice t5_.a t5_.len t5_.cap, .pointer t6_] (.one (.c .bool)) H k = v_hindcastlaw18_asks t0_ t1_ t2_ t3_ t4_ t5_ t6_ H k := by kernel_rfl
theorem c_hindcastlaw18_asks (t0_ : Option Addr) (t1_ : Option Addr) (t2_ : Option Addr) (t3_ : Option Addr) (t4_ : Sl) (t5_ : Sl) (t6_ : Option Addr) {H : Heap} {k : Bool → Heap → Prop} (h : v_hindcastlaw18_asks t0_ t1_ t2_ t3_ t4_ t5_ t6_ H k) : CallT Pg f_hindcastlaw18_asks [.pointer t0_, .pointer t1_, .pointer t2_, .pointer t3_, .slice t4_.a t4_.len t4_.cap, .slice t5_.a t5_.len t5_.cap, .pointer t6_] (.one (.c .bool)) H k :=
  call_of_E Pg_mixed Try.func43 (by kernel_rfl) (by kernel_rfl) (by kernel_rfl) (by kernel_rfl) ((e_hindcastlaw18_asks t0_ t1_ t2_ t3_ t4_ t5_ t6_ H k).symm ▸ h)
/-- hindcast/hindcastlaw18.back -/
def v_hindcastlaw18_back (a_ : Sl) (l_ : Sl) (H : Heap) (k : Bool → Heap → Prop) : Prop :=
    Lt (IntKind.wrap .i64 ((l_.len : Int) + 8)) fun t1 =>
    SlA 1 a_ 0 t1 (a_.cap : Nat) fun l1 =>
    LoopT (σ := Bool × Int) /- ok, i -/ (fun next1 s1 H1 =>
      Br (decide (s1.2 < (l1.len : Int))) (
        Jn (σ := Bool) /- ok -/ (fun kk1 =>
          Br (decide (s1.2 < (l_.len : Int))) (
            Jn (σ := Bool) /- ok -/ (fun kk2 =>
              Br s1.1 (
                IxA 1 l1 s1.2 fun a1 =>
                Ld (.int .i64) a1 H1 fun (x1 : Int) =>
                IxA 1 l_ s1.2 fun a2 =>
                Ld (.int .i64) a2 H1 fun (x2 : Int) =>
                kk2 (x1 == x2) H1) (
                kk2 false H1)) fun j2 H3 =>
            kk1 j2 H3) (
            Jn (σ := Bool) /- ok -/ (fun kk3 =>
              Br s1.1 (
                IxA 1 l1 s1.2 fun a3 =>
                Ld (.int .i64) a3 H1 fun (x3 : Int) =>
                Lt (IntKind.wrap .i64 (70 + s1.2)) fun t2 =>
                Lt (IntKind.wrap .i64 (t2 - (l_.len : Int))) fun t3 =>
                kk3 (x3 == t3) H1) (
                kk3 false H1)) fun j3 H4 =>
            kk1 j3 H4)) fun j1 H2 =>
        IxA 1 l1 s1.2 fun a4 =>
        St a4 (.int .i64 (-3)) H2 fun H5 =>
        Lt (IntKind.wrap .i64 (s1.2 + 1)) fun t4 =>
        next1 (j1, t4) H5) (
        k s1.1 H1)) (true, 0) H
def h_hindcastlaw18_back : Hint := (.two .no (.two .no (.two .no (.two (.two .no (.one (.loop [(6, (.c .bool)), (7, (.c (.int .i64)))] (.two .no (.two (.one (.two (.two .no (.join [(6, (.c .bool))] (.two (.join [(6, (.c .bool))] .no) (.join [(6, (.c .bool))] .no)))) .no)) .no))))) .no))))
theorem e_hindcastlaw18_back (a_ : Sl) (l_ : Sl) (H : Heap) (k : Bool → Heap → Prop) : EFun Pg Try.f44 h_hindcastlaw18_back [.slice a_.a a_.len a_.cap, .slice l_.a l_.len l_.cap] (.one (.c .bool)) H k = v_hindcastlaw18_back a_ l_ H k := by kernel_rfl
theorem c_hindcastlaw18_back (a_ : Sl) (l_ : Sl) {H : Heap} {k : Bool → Heap → Prop} (h : v_hindcastlaw18_back a_ l_ H k) : CallT Pg f_hindcastlaw18_back [.slice a_.a a_.len a_.cap, .slice l_.a l_.len l_.cap] (.one (.c .bool)) H k :=
  call_of_E Pg_mixed Try.func44 (by kernel_rfl) (by kernel_rfl) (by kernel_rfl) (by kernel_rfl) ((e_hindcastlaw18_back a_ l_ H k).symm ▸ h)
/-- (*hindcast/plan.Plan).Legal -/
def v_plan_Plan_Legal (t0_ : Option Addr) (t1_ : Sl) (H : Heap) (k : Bool → Heap → Prop) : Prop :=
    NilCk t0_ fun a1 =>
    Ld .sl a1 H fun (x1 : Sl) =>
    Br ((t1_.len : Int) != (x1.len : Int)) (
      k false H) (
      Mks T_bool 1 1 #[.bool false] (t1_.len : Int) (t1_.len : Int) H fun l1 H1 =>
      Jn (σ := Bool) /- t5 -/ (fun kk1 =>
        LoopT (σ := Bool × Int) /- t5, t24 -/ (fun next1 s1 H3 =>
          Br (decide (s1.2 < (t1_.len : Int))) (
            IxA 1 t1_ s1.2 fun a2 =>
            Ld (.int .i64) a2 H3 fun (x2 : Int) =>
            Jn (σ := Bool) /- t5 -/ (fun kk2 =>
              CallT Pg f_plan_Plan_there [.pointer t0_, .int .i64 x2] (.one (.c .bool)) H3 fun (r1 : Bool) H5 =>
              Br r1 (
                IxA 1 l1 x2 fun a3 =>
                Ld .bool a3 H5 fun (x3 : Bool) =>
                kk2 (!x3) H5) (
                kk2 false H5)) fun j2 H4 =>
            Br (!j2) (
              kk1 j2 H4) (
              IxA 1 l1 x2 fun a4 =>
              St a4 (.bool true) H4 fun H6 =>
              SlA 1 t1_ 0 s1.2 (t1_.cap : Nat) fun l2 =>
              LoopT (σ := Bool × Int) /- t5, t48 -/ (fun next2 s2 H7 =>
                Br (decide (s2.2 < (l2.len : Int))) (
                  IxA 1 l2 s2.2 fun a5 =>
                  Ld (.int .i64) a5 H7 fun (x4 : Int) =>
                  Jn (σ := Bool) /- t66 -/ (fun kk3 =>
                    NilCk t0_ fun a6 =>
                    Ld .sl a6 H7 fun (x5 : Sl) =>
                    IxA 1 x5 x2 fun a7 =>
                    Ld .sl a7 H7 fun (x6 : Sl) =>
                    IxA 1 x6 x4 fun a8 =>
                    Ld .bool a8 H7 fun (x7 : Bool) =>
                    Br x7 (
                      kk3 (decide (x4 > x2)) H7) (
                      kk3 false H7)) fun j3 H8 =>
                  Br j3 (
                    kk1 false H8) (
                    Lt (IntKind.wrap .i64 (s2.2 + 1)) fun t1 =>
                    next2 (s2.1, t1) H8)) (
                  Lt (IntKind.wrap .i64 (s1.2 + 1)) fun t2 =>
                  next1 (s2.1, t2) H7)) (j2, 0) H6)) (
            kk1 s1.1 H3)) (true, 0) H1) fun j1 H2 =>
      k j1 H2)
def h_plan_Plan_Legal : Hint := (.two .no (.one (.two .no (.two .no (.two .no (.two .no (.two (.two .no (.join [(5, (.c .bool))] (.one (.loop [(5, (.c .bool)), (24, (.c (.int .i64)))] (.two .no (.two .no (.two (.one (.two .no (.two (.two (.join [(5, (.c .bool))] .no) .no) (.two .no (.two .no (.one (.loop [(5, (.c .bool)), (48, (.c (.int .i64)))] (.two .no (.two .no (.two (.one (.two .no (.two (.join [(66, (.c .bool))] .no) .no))) .no)))))))))) .no))))))) .no)))))))
theorem e_plan_Plan_Legal (t0_ : Option Addr) (t1_ : Sl) (H : Heap) (k : Bool → Heap → Prop) : EFun Pg Try.f45 h_plan_Plan_Legal [.pointer t0_, .slice t1_.a t1_.len t1_.cap] (.one (.c .bool)) H k = v_plan_Plan_Legal t0_ t1_ H k := by kernel_rfl
theorem c_plan_Plan_Legal (t0_ : Option Addr) (t1_ : Sl) {H : Heap} {k : Bool → Heap → Prop} (h : v_plan_Plan_Legal t0_ t1_ H k) : CallT Pg f_plan_Plan_Legal [.pointer t0_, .slice t1_.a t1_.len t1_.cap] (.one (.c .bool)) H k :=
  call_of_E Pg_mixed Try.func45 (by kernel_rfl) (by kernel_rfl) (by kernel_rfl) (by kernel_rfl) ((e_plan_Plan_Legal t0_ t1_ H k).symm ▸ h)
/-- (*hindcast/hindcastref18.Plan).Legal -/
def v_hindcastref18_Plan_Legal (t0_ : Option Addr) (t1_ : Sl) (H : Heap) (k : Bool → Heap → Prop) : Prop :=
    NilCk t0_ fun a1 =>
    Ld .sl (a1.add 1) H fun (x1 : Sl) =>
    Br ((t1_.len : Int) != (x1.len : Int)) (
      k false H) (
      LoopT (σ := Int) /- t6 -/ (fun next1 s1 H1 =>
        Br (decide (s1 < (x1.len : Int))) (
          Jn (σ := Bool) /- t35 -/ (fun kk1 =>
            IxA 1 t1_ s1 fun a2 =>
            Ld (.int .i64) a2 H1 fun (x2 : Int) =>
            Br (decide (x2 < 0)) (
              kk1 true H1) (
              IxA 1 t1_ s1 fun a3 =>
              Ld (.int .i64) a3 H1 fun (x3 : Int) =>
              kk1 (decide (x3 ≥ (x1.len : Int))) H1)) fun j1 H2 =>
          Br j1 (
            k false H2) (
            LoopT (σ := Int) /- t7 -/ (fun next2 s2 H3 =>
              Br (decide (s2 < s1)) (
                IxA 1 t1_ s2 fun a4 =>
                Ld (.int .i64) a4 H3 fun (x4 : Int) =>
                IxA 1 t1_ s1 fun a5 =>
                Ld (.int .i64) a5 H3 fun (x5 : Int) =>
                CallT Pg f_hindcastref18_Plan_Conflict [.pointer t0_, .int .i64 x4, .int .i64 x5] (.one (.c .bool)) H3 fun (r1 : Bool) H4 =>
                Jn (σ := Bool) /- t73 -/ (fun kk2 =>
                  IxA 1 t1_ s2 fun a6 =>
                  Ld (.int .i64) a6 H4 fun (x6 : Int) =>
                  IxA 1 t1_ s1 fun a7 =>
                  Ld (.int .i64) a7 H4 fun (x7 : Int) =>
                  Br (x6 == x7) (
                    kk2 true H4) (
                    Br r1 (
                      IxA 1 t1_ s2 fun a8 =>
                      Ld (.int .i64) a8 H4 fun (x8 : Int) =>
                      IxA 1 t1_ s1 fun a9 =>
                      Ld (.int .i64) a9 H4 fun (x9 : Int) =>
                      kk2 (decide (x8 > x9)) H4) (
                      kk2 false H4))) fun j2 H5 =>
                Br j2 (
                  k false H5) (
                  Lt (IntKind.wrap .i64 (s2 + 1)) fun t1 =>
                  next2 t1 H5)) (
                Lt (IntKind.wrap .i64 (s1 + 1)) fun t2 =>
                next1 t2 H3)) 0 H2)) (
          k true H1)) 0 H)
def h_hindcastref18_Plan_Legal : Hint := (.two .no (.two .no (.two .no (.two (.two .no (.one (.loop [(6, (.c (.int .i64)))] (.two .no (.two (.one (.two (.two (.join [(35, (.c .bool))] .no) .no) (.two .no (.one (.loop [(7, (.c (.int .i64)))] (.two .no (.two (.one (.two .no (.two (.join [(73, (.c .bool))] .no) .no))) .no))))))) .no))))) .no))))
theorem e_hindcastref18_Plan_Legal (t0_ : Option Addr) (t1_ : Sl) (H : Heap) (k : Bool → Heap → Prop) : EFun Pg Try.f46 h_hindcastref18_Plan_Legal [.pointer t0_, .slice t1_.a t1_.len t1_.cap] (.one (.c .bool)) H k = v_hindcastref18_Plan_Legal t0_ t1_ H k := by kernel_rfl
theorem c_hindcastref18_Plan_Legal (t0_ : Option Addr) (t1_ : Sl) {H : Heap} {k : Bool → Heap → Prop} (h : v_hindcastref18_Plan_Legal t0_ t1_ H k) : CallT Pg f_hindcastref18_Plan_Legal [.pointer t0_, .slice t1_.a t1_.len t1_.cap] (.one (.c .bool)) H k :=
  call_of_E Pg_mixed Try.func46 (by kernel_rfl) (by kernel_rfl) (by kernel_rfl) (by kernel_rfl) ((e_hindcastref18_Plan_Legal t0_ t1_ H k).symm ▸ h)
/-- (*hindcast/plan.Plan).Conflict -/
def v_plan_Plan_Conflict (p_ : Option Addr) (a_ : Int) (b_ : Int) (H : Heap) (k : Bool → Heap → Prop) : Prop :=
    Jn (σ := Bool) /-  -/ (fun kk1 =>
      CallT Pg f_plan_Plan_there [.pointer p_, .int .i64 a_] (.one (.c .bool)) H fun (r1 : Bool) H2 =>
      Br r1 (
        CallT Pg f_plan_Plan_there [.pointer p_, .int .i64 b_] (.one (.c .bool)) H2 fun (r2 : Bool) H3 =>
        Br r2 (
          NilCk p_ fun a1 =>
          Ld .sl a1 H3 fun (x1 : Sl) =>
          IxA 1 x1 a_ fun a2 =>
          Ld .sl a2 H3 fun (x2 : Sl) =>
          IxA 1 x2 b_ fun a3 =>
          Ld .bool a3 H3 fun (x3 : Bool) =>
          kk1 x3 H3) (
          kk1 false H3)) (
        kk1 false H2)) fun j1 H1 =>
    k j1 H1
def h_plan_Plan_Conflict : Hint := (.two .no (.two (.join [(6, (.c .bool))] .no) .no))
theorem e_plan_Plan_Conflict (p_ : Option Addr) (a_ : Int) (b_ : Int) (H : Heap) (k : Bool → Heap → Prop) : EFun Pg Try.f47 h_plan_Plan_Conflict [.pointer p_, .int .i64 a_, .int .i64 b_] (.one (.c .bool)) H k = v_plan_Plan_Conflict p_ a_ b_ H k := by kernel_rfl
theorem c_plan_Plan_Conflict (p_ : Option Addr) (a_ : Int) (b_ : Int) {H : Heap} {k : Bool → Heap → Prop} (h : v_plan_Plan_Conflict p_ a_ b_ H k) : CallT Pg f_plan_Plan_Conflict [.pointer p_, .int .i64 a_, .int .i64 b_] (.one (.c .bool)) H k :=
  call_of_E Pg_mixed Try.func47 (by kernel_rfl) (by kernel_rfl) (by kernel_rfl) (by kernel_rfl) ((e_plan_Plan_Conflict p_ a_ b_ H k).symm ▸ h)
/-- (*hindcast/hindcastref18.Plan).Conflict -/
def v_hindcastref18_Plan_Conflict (t0_ : Option Addr) (t1_ : Int) (t2_ : Int) (H : Heap) (k : Bool → Heap → Prop) : Prop :=
    NilCk t0_ fun a1 =>
    Ld .sl (a1.add 1) H fun (x1 : Sl) =>
    Jn (σ := Bool) /- t36 -/ (fun kk1 =>
      Br (decide (t1_ < 0)) (
        kk1 true H) (
        Br (decide (t2_ < 0)) (
          kk1 true H) (
          Br (decide (t1_ ≥ (x1.len : Int))) (
            kk1 true H) (
            Br (decide (t2_ ≥ (x1.len : Int))) (
              kk1 true H) (
              kk1 (t1_ == t2_) H))))) fun j1 H1 =>
    Br j1 (
      k false H1) (
      NilCk t0_ fun a2 =>
      Ld .sl (a2.add 1) H1 fun (x2 : Sl) =>
      IxA 1 x2 t1_ fun a3 =>
      Ld .sl a3 H1 fun (x3 : Sl) =>
      NilCk t0_ fun a4 =>
      Ld .sl a4 H1 fun (x4 : Sl) =>
      IxA 1 x4 t2_ fun a5 =>
      Ld .sl a5 H1 fun (x5 : Sl) =>
      CallT Pg f_hindcastref18_meet [.slice x3.a x3.len x3.cap, .slice x5.a x5.len x5.cap] (.one (.c .bool)) H1 fun (r1 : Bool) H2 =>
      Stab [(a4, .slice x4.a x4.len x4.cap), (a2.add 1, .slice x2.a x2.len x2.cap)] H2 <|
      NilCk t0_ fun a6 =>
      Ld .sl (a6.add 1) H2 fun (x6 : Sl) =>
      IxA 1 x6 t2_ fun a7 =>
      Ld .sl a7 H2 fun (x7 : Sl) =>
      NilCk t0_ fun a8 =>
      Ld .sl a8 H2 fun (x8 : Sl) =>
      IxA 1 x8 t1_ fun a9 =>
      Ld .sl a9 H2 fun (x9 : Sl) =>
      CallT Pg f_hindcastref18_meet [.slice x7.a x7.len x7.cap, .slice x9.a x9.len x9.cap] (.one (.c .bool)) H2 fun (r2 : Bool) H3 =>
      Stab [(a8, .slice x8.a x8.len x8.cap), (a6.add 1, .slice x6.a x6.len x6.cap)] H3 <|
      NilCk t0_ fun a10 =>
      Ld .sl (a10.add 1) H3 fun (x10 : Sl) =>
      IxA 1 x10 t1_ fun a11 =>
      Ld .sl a11 H3 fun (x11 : Sl) =>
      NilCk t0_ fun a12 =>
      Ld .sl (a12.add 1) H3 fun (x12 : Sl) =>
      IxA 1 x12 t2_ fun a13 =>
      Ld .sl a13 H3 fun (x13 : Sl) =>
      CallT Pg f_hindcastref18_meet [.slice x11.a x11.len x11.cap, .slice x13.a x13.len x13.cap] (.one (.c .bool)) H3 fun (r3 : Bool) H4 =>
      Stab [(a12.add 1, .slice x12.a x12.len x12.cap), (a10.add 1, .slice x10.a x10.len x10.cap)] H4 <|
      Jn (σ := Bool) /- t6 -/ (fun kk2 =>
        Br r1 (
          kk2 true H4) (
          Br r2 (
            kk2 true H4) (
            kk2 r3 H4))) fun j2 H5 =>
      k j2 H5)
def h_hindcastref18_Plan_Conflict : Hint := (.two .no (.two .no (.two (.two (.join [(36, (.c .bool))] .no) .no) (.two .no (.two .no (.two .no (.two (.join [(6, (.c .bool))] .no) .no)))))))
theorem e_hindcastref18_Plan_Conflict (t0_ : Option Addr) (t1_ : Int) (t2_ : Int) (H : Heap) (k : Bool → Heap → Prop) : EFun Pg Try.f48 h_hindcastref18_Plan_Conflict [.pointer t0_, .int .i64 t1_, .int .i64 t2_] (.one (.c .bool)) H k = v_hindcastref18_Plan_Conflict t0_ t1_ t2_ H k := by kernel_rfl
theorem c_hindcastref18_Plan_Conflict (t0_ : Option Addr) (t1_ : Int) (t2_ : Int) {H : Heap} {k : Bool → Heap → Prop} (h : v_hindcastref18_Plan_Conflict t0_ t1_ t2_ H k) : CallT Pg f_hindcastref18_Plan_Conflict [.pointer t0_, .int .i64 t1_, .int .i64 t2_] (.one (.c .bool)) H k :=
  call_of_E Pg_mixed Try.func48 (by kernel_rfl) (by kernel_rfl) (by kernel_rfl) (by kernel_rfl) ((e_hindcastref18_Plan_Conflict t0_ t1_ t2_ H k).symm ▸ h)
/-- hindcast/hindcastlaw18.made -/
def v_hindcastlaw18_made (l_ : Sl) (H : Heap) (k : Option Addr → Heap → Prop) : Prop :=
    CallT Pg f_hindcastlaw18_given [.slice l_.a l_.len l_.cap] (.one (.c .ptr)) H fun (r1 : Option Addr) H1 =>
    k r1 H1
def h_hindcastlaw18_made : Hint := .no
theorem e_hindcastlaw18_made (l_ : Sl) (H : Heap) (k : Option Addr → Heap → Prop) : EFun Pg Try.f49 h_hindcastlaw18_made [.slice l_.a l_.len l_.cap] (.one (.c .ptr)) H k = v_hindcastlaw18_made l_ H k := by kernel_rfl
theorem c_hindcastlaw18_made (l_ : Sl) {H : Heap} {k : Option Addr → Heap → Prop} (h : v_hindcastlaw18_made l_ H k) : CallT Pg f_hindcastlaw18_made [.slice l_.a l_.len l_.cap] (.one (.c .ptr)) H k :=
  call_of_E Pg_mixed Try.func49 (by kernel_rfl) (by kernel_rfl) (by kernel_rfl) (by kernel_rfl) ((e_hindcastlaw18_made l_ H k).symm ▸ h)
/-- (*hindcast/plan.Plan).Stages -/
def v_plan_Plan_Stages (p_ : Option Addr) (H : Heap) (k : Sl → Heap → Prop) : Prop :=
    NilCk p_ fun a1 =>
    Ld .sl (a1.add 1) H fun (x1 : Sl) =>
    LoopT (σ := Sl × Int) /- out,  -/ (fun next1 s1 H1 =>
      Br (decide (s1.2 < (x1.len : Int))) (
        IxA 1 x1 s1.2 fun a2 =>
        Ld .sl a2 H1 fun (x2 : Sl) =>
        CallT Pg f_slices_Clone_Sl_int_int [.slice x2.a x2.len x2.cap] (.one (.c .sl)) H1 fun (r1 : Sl) H2 =>
        Nw #[.slice r1.a r1.len r1.cap] T_Sl_int H2 fun b1 H3 =>
        App T_Sl_int 1 24 #[.slice none 0 0] s1.1 ⟨some (adr b1), 1, 1⟩ H3 fun l1 H4 =>
        Lt (IntKind.wrap .i64 (s1.2 + 1)) fun t1 =>
        next1 (l1, t1) H4) (
        k s1.1 H1)) (⟨none, 0, 0⟩, 0) H
def h_plan_Plan_Stages : Hint := (.two .no (.two .no (.two (.two .no (.one (.loop [(3, (.c .sl)), (11, (.c (.int .i64)))] .no))) .no)))
theorem e_plan_Plan_Stages (p_ : Option Addr) (H : Heap) (k : Sl → Heap → Prop) : EFun Pg Try.f50 h_plan_Plan_Stages [.pointer p_] (.one (.c .sl)) H k = v_plan_Plan_Stages p_ H k := by kernel_rfl
theorem c_plan_Plan_Stages (p_ : Option Addr) {H : Heap} {k : Sl → Heap → Prop} (h : v_plan_Plan_Stages p_ H k) : CallT Pg f_plan_Plan_Stages [.pointer p_] (.one (.c .sl)) H k :=
  call_of_E Pg_mixed Try.func50 (by kernel_rfl) (by kernel_rfl) (by kernel_rfl) (by kernel_rfl) ((e_plan_Plan_Stages p_ H k).symm ▸ h)
/-- (*hindcast/plan.Plan).Order -/
def v_plan_Plan_Order (p_ : Option Addr) (picks_ : Sl) (H : Heap) (k : Sl × Int → Heap → Prop) : Prop :=
    Jn (σ := Sl) /- picks -/ (fun kk1 =>
      Br ((picks_.len : Int) == 0) (
        NilCk p_ fun a1 =>
        Ld .sl a1 H fun (x1 : Sl) =>
        Mks T_int 1 8 #[.int .i64 0] (x1.len : Int) (x1.len : Int) H fun l1 H2 =>
        kk1 l1 H2) (
        kk1 picks_ H)) fun j1 H1 =>
    NilCk p_ fun a2 =>
    Ld .sl a2 H1 fun (x2 : Sl) =>
    Br ((j1.len : Int) != (x2.len : Int)) (
      k (⟨none, 0, 0⟩, 180) H1) (
      CallT Pg f_plan_Plan_Stages [.pointer p_] (.one (.c .sl)) H1 fun (r1 : Sl) H3 =>
      LoopT (σ := Sl × Int) /- out,  -/ (fun next1 s1 H4 =>
        Br (decide (s1.2 < (r1.len : Int))) (
          IxA 1 r1 s1.2 fun a3 =>
          Ld .sl a3 H4 fun (x3 : Sl) =>
          LoopT (σ := Sl × Sl) /- out, left -/ (fun next2 s2 H5 =>
            Br (decide ((s2.2.len : Int) > 0)) (
              IxA 1 j1 (s2.1.len : Int) fun a4 =>
              Ld (.int .i64) a4 H5 fun (x4 : Int) =>
              Jn (σ := Bool) /-  -/ (fun kk2 =>
                Br (decide (x4 < 0)) (
                  kk2 true H5) (
                  kk2 (decide (x4 ≥ (s2.2.len : Int))) H5)) fun j2 H6 =>
              Br j2 (
                k (⟨none, 0, 0⟩, 180) H6) (
                IxA 1 s2.2 x4 fun a5 =>
                Ld (.int .i64) a5 H6 fun (x5 : Int) =>
                Nw #[.int .i64 x5] T_int H6 fun b1 H7 =>
                App T_int 1 8 #[.int .i64 0] s2.1 ⟨some (adr b1), 1, 1⟩ H7 fun l2 H8 =>
                Lt (IntKind.wrap .i64 (x4 + 1)) fun t1 =>
                CallT Pg f_slices_Delete_Sl_int_int [.slice s2.2.a s2.2.len s2.2.cap, .int .i64 x4, .int .i64 t1] (.one (.c .sl)) H8 fun (r2 : Sl) H9 =>
                next2 (l2, r2) H9)) (
              Lt (IntKind.wrap .i64 (s1.2 + 1)) fun t2 =>
              next1 (s2.1, t2) H5)) (s1.1, x3) H4) (
          k (s1.1, 0) H4)) (⟨none, 0, 0⟩, 0) H3)
def h_plan_Plan_Order : Hint := (.two .no (.two (.two .no (.join [(1, (.c .sl))] .no)) (.two .no (.two .no (.two (.two .no (.one (.loop [(6, (.c .sl)), (30, (.c (.int .i64)))] (.two .no (.two .no (.two (.one (.two .no (.one (.loop [(6, (.c .sl)), (8, (.c .sl))] (.two .no (.one (.two .no (.two (.two (.join [(49, (.c .bool))] .no) .no) .no)))))))) .no)))))) .no)))))
theorem e_plan_Plan_Order (p_ : Option Addr) (picks_ : Sl) (H : Heap) (k : Sl × Int → Heap → Prop) : EFun Pg Try.f51 h_plan_Plan_Order [.pointer p_, .slice picks_.a picks_.len picks_.cap] (.tup [(.c .sl), (.c (.int .i64))]) H k = v_plan_Plan_Order p_ picks_ H k := by kernel_rfl
theorem c_plan_Plan_Order (p_ : Option Addr) (picks_ : Sl) {H : Heap} {k : Sl × Int → Heap → Prop} (h : v_plan_Plan_Order p_ picks_ H k) : CallT Pg f_plan_Plan_Order [.pointer p_, .slice picks_.a picks_.len picks_.cap] (.tup [(.c .sl), (.c (.int .i64))]) H k :=
  call_of_E Pg_mixed Try.func51 (by kernel_rfl) (by kernel_rfl) (by kernel_rfl) (by kernel_rfl) ((e_plan_Plan_Order p_ picks_ H k).symm ▸ h)
/-- hindcast/hindcastlaw18.picked -/
def v_hindcastlaw18_picked (p_ : Option Addr) (raw_ : Sl) (H : Heap) (k : Sl → Heap → Prop) : Prop :=
    CallT Pg f_plan_Plan_Stages [.pointer p_] (.one (.c .sl)) H fun (r1 : Sl) H1 =>
    LoopT (σ := Sl × Int) /- out, s -/ (fun next1 s1 H2 =>
      Br (decide (s1.2 < (r1.len : Int))) (
        IxA 1 r1 s1.2 fun a1 =>
        Ld .sl a1 H2 fun (x1 : Sl) =>
        LoopT (σ := Sl × Int) /- out, n -/ (fun next2 s2 H3 =>
          Br (decide (s2.2 > 0)) (
            Jn (σ := Int) /- k -/ (fun kk1 =>
              Br (decide ((raw_.len : Int) > 0)) (
                Rem (s2.1.len : Int) (raw_.len : Int) fun t1 =>
                IxA 1 raw_ t1 fun a2 =>
                Ld (.int .i64) a2 H3 fun (x2 : Int) =>
                CallT Pg f_hindcastlaw18_pick [.int .i64 x2, .int .i64 s2.2] (.one (.c (.int .i64))) H3 fun (r2 : Int) H5 =>
                kk1 r2 H5) (
                kk1 0 H3)) fun j1 H4 =>
            Nw #[.int .i64 j1] T_int H4 fun b1 H6 =>
            App T_int 1 8 #[.int .i64 0] s2.1 ⟨some (adr b1), 1, 1⟩ H6 fun l1 H7 =>
            Lt (IntKind.wrap .i64 (s2.2 - 1)) fun t2 =>
            next2 (l1, t2) H7) (
            Lt (IntKind.wrap .i64 (s1.2 + 1)) fun t3 =>
            next1 (s2.1, t3) H3)) ((s1.1, (x1.len : Int))) H2) (
        k s1.1 H2)) (⟨none, 0, 0⟩, 0) H1
def h_hindcastlaw18_picked : Hint := (.two .no (.two .no (.two .no (.two (.two .no (.one (.loop [(5, (.c .sl)), (7, (.c (.int .i64)))] (.two .no (.two (.one (.two .no (.one (.loop [(5, (.c .sl)), (8, (.c (.int .i64)))] (.two .no (.two (.one (.two .no (.two (.two .no (.join [(9, (.c (.int .i64)))] .no)) .no))) .no)))))) .no))))) .no))))
theorem e_hindcastlaw18_picked (p_ : Option Addr) (raw_ : Sl) (H : Heap) (k : Sl → Heap → Prop) : EFun Pg Try.f52 h_hindcastlaw18_picked [.pointer p_, .slice raw_.a raw_.len raw_.cap] (.one (.c .sl)) H k = v_hindcastlaw18_picked p_ raw_ H k := by kernel_rfl
theorem c_hindcastlaw18_picked (p_ : Option Addr) (raw_ : Sl) {H : Heap} {k : Sl → Heap → Prop} (h : v_hindcastlaw18_picked p_ raw_ H k) : CallT Pg f_hindcastlaw18_picked [.pointer p_, .slice raw_.a raw_.len raw_.cap] (.one (.c .sl)) H k :=
  call_of_E Pg_mixed Try.func52 (by kernel_rfl) (by kernel_rfl) (by kernel_rfl) (by kernel_rfl) ((e_hindcastlaw18_picked p_ raw_ H k).symm ▸ h)
/-- hindcast/hindcastlaw18.pick -/
def v_hindcastlaw18_pick (c_ : Int) (n_ : Int) (H : Heap) (k : Int → Heap → Prop) : Prop :=
    Jn (σ := Int) /- c -/ (fun kk1 =>
      Br (decide (c_ < 0)) (
        Lt (IntKind.wrap .i64 (c_ + 1)) fun t1 =>
        kk1 (IntKind.wrap .i64 (0 - t1)) H) (
        kk1 c_ H)) fun j1 H1 =>
    Rem j1 n_ fun t2 =>
    k t2 H1
def h_hindcastlaw18_pick : Hint := (.two .no (.two (.two .no (.join [(0, (.c (.int .i64)))] .no)) .no))
theorem e_hindcastlaw18_pick (c_ : Int) (n_ : Int) (H : Heap) (k : Int → Heap → Prop) : EFun Pg Try.f53 h_hindcastlaw18_pick [.int .i64 c_, .int .i64 n_] (.one (.c (.int .i64))) H k = v_hindcastlaw18_pick c_ n_ H k := by kernel_rfl
theorem c_hindcastlaw18_pick (c_ : Int) (n_ : Int) {H : Heap} {k : Int → Heap → Prop} (h : v_hindcastlaw18_pick c_ n_ H k) : CallT Pg f_hindcastlaw18_pick [.int .i64 c_, .int .i64 n_] (.one (.c (.int .i64))) H k :=
  call_of_E Pg_mixed Try.func53 (by kernel_rfl) (by kernel_rfl) (by kernel_rfl) (by kernel_rfl) ((e_hindcastlaw18_pick c_ n_ H k).symm ▸ h)
/-- hindcast/plan.New -/
def v_plan_New (t0_ : Sl) (H : Heap) (k : Option Addr → Heap → Prop) : Prop :=
    Nw #[.slice none 0 0, .slice none 0 0] T_plan_Plan H fun b1 H1 =>
    Mks T_int 1 8 #[.int .i64 0] (t0_.len : Int) (t0_.len : Int) H1 fun l1 H2 =>
    LoopT (σ := Int) /- t17 -/ (fun next1 s1 H3 =>
      Br (decide (s1 < (t0_.len : Int))) (
        IxA 8 t0_ s1 fun a1 =>
        LdC [.sl, .sl, .sl, .sl, .str, (.int .i64), (.int .i64), .sl] a1 H3 fun (c1 : Sl × Sl × Sl × Sl × ByteArray × Int × Int × Sl) =>
        Nw #[.slice none 0 0, .slice none 0 0, .slice none 0 0, .slice none 0 0, .string ByteArray.empty, .int .i64 0, .int .i64 0, .slice none 0 0] T_api_System H3 fun b2 H4 =>
        St ((adr b2).add 0) (.slice c1.1.a c1.1.len c1.1.cap) H4 fun H5 =>
        St ((adr b2).add 1) (.slice c1.2.1.a c1.2.1.len c1.2.1.cap) H5 fun H6 =>
        St ((adr b2).add 2) (.slice c1.2.2.1.a c1.2.2.1.len c1.2.2.1.cap) H6 fun H7 =>
        St ((adr b2).add 3) (.slice c1.2.2.2.1.a c1.2.2.2.1.len c1.2.2.2.1.cap) H7 fun H8 =>
        St ((adr b2).add 4) (.string c1.2.2.2.2.1) H8 fun H9 =>
        St ((adr b2).add 5) (.int .i64 c1.2.2.2.2.2.1) H9 fun H10 =>
        St ((adr b2).add 6) (.int .i64 c1.2.2.2.2.2.2.1) H10 fun H11 =>
        St ((adr b2).add 7) (.slice c1.2.2.2.2.2.2.2.a c1.2.2.2.2.2.2.2.len c1.2.2.2.2.2.2.2.cap) H11 fun H12 =>
        Mks T_bool 1 1 #[.bool false] (t0_.len : Int) (t0_.len : Int) H12 fun l2 H13 =>
        LoopT (σ := Int) /- t27 -/ (fun next2 s2 H14 =>
          Br (decide (s2 < (t0_.len : Int))) (
            Jn (σ := Unit) /-  -/ (fun kk1 =>
              IxA 8 t0_ s2 fun a2 =>
              LdC [.sl, .sl, .sl, .sl, .str, (.int .i64), (.int .i64), .sl] a2 H14 fun (c2 : Sl × Sl × Sl × Sl × ByteArray × Int × Int × Sl) =>
              Nw #[.slice none 0 0, .slice none 0 0, .slice none 0 0, .slice none 0 0, .string ByteArray.empty, .int .i64 0, .int .i64 0, .slice none 0 0] T_api_System H14 fun b3 H16 =>
              St ((adr b3).add 0) (.slice c2.1.a c2.1.len c2.1.cap) H16 fun H17 =>
              St ((adr b3).add 1) (.slice c2.2.1.a c2.2.1.len c2.2.1.cap) H17 fun H18 =>
              St ((adr b3).add 2) (.slice c2.2.2.1.a c2.2.2.1.len c2.2.2.1.cap) H18 fun H19 =>
              St ((adr b3).add 3) (.slice c2.2.2.2.1.a c2.2.2.2.1.len c2.2.2.2.1.cap) H19 fun H20 =>
              St ((adr b3).add 4) (.string c2.2.2.2.2.1) H20 fun H21 =>
              St ((adr b3).add 5) (.int .i64 c2.2.2.2.2.2.1) H21 fun H22 =>
              St ((adr b3).add 6) (.int .i64 c2.2.2.2.2.2.2.1) H22 fun H23 =>
              St ((adr b3).add 7) (.slice c2.2.2.2.2.2.2.2.a c2.2.2.2.2.2.2.2.len c2.2.2.2.2.2.2.2.cap) H23 fun H24 =>
              Jn (σ := Unit) /-  -/ (fun kk2 =>
                Br (s1 != s2) (
                  LdC [.sl, .sl, .sl, .sl, .str, (.int .i64), (.int .i64), .sl] (adr b2) H24 fun (c3 : Sl × Sl × Sl × Sl × ByteArray × Int × Int × Sl) =>
                  LdC [.sl, .sl, .sl, .sl, .str, (.int .i64), (.int .i64), .sl] (adr b3) H24 fun (c4 : Sl × Sl × Sl × Sl × ByteArray × Int × Int × Sl) =>
                  CallT Pg f_plan_touch [.agg #[.slice c3.1.a c3.1.len c3.1.cap, .slice c3.2.1.a c3.2.1.len c3.2.1.cap, .slice c3.2.2.1.a c3.2.2.1.len c3.2.2.1.cap, .slice c3.2.2.2.1.a c3.2.2.2.1.len c3.2.2.2.1.cap, .string c3.2.2.2.2.1, .int .i64 c3.2.2.2.2.2.1, .int .i64 c3.2.2.2.2.2.2.1, .slice c3.2.2.2.2.2.2.2.a c3.2.2.2.2.2.2.2.len c3.2.2.2.2.2.2.2.cap], .agg #[.slice c4.1.a c4.1.len c4.1.cap, .slice c4.2.1.a c4.2.1.len c4.2.1.cap, .slice c4.2.2.1.a c4.2.2.1.len c4.2.2.1.cap, .slice c4.2.2.2.1.a c4.2.2.2.1.len c4.2.2.2.1.cap, .string c4.2.2.2.2.1, .int .i64 c4.2.2.2.2.2.1, .int .i64 c4.2.2.2.2.2.2.1, .slice c4.2.2.2.2.2.2.2.a c4.2.2.2.2.2.2.2.len c4.2.2.2.2.2.2.2.cap]] (.one (.c .bool)) H24 fun (r1 : Bool) H26 =>
                  Br r1 (
                    IxA 1 l2 s2 fun a3 =>
                    St a3 (.bool true) H26 fun H27 =>
                    kk2 () H27) (
                    LdC [.sl, .sl, .sl, .sl, .str, (.int .i64), (.int .i64), .sl] (adr b3) H26 fun (c5 : Sl × Sl × Sl × Sl × ByteArray × Int × Int × Sl) =>
                    LdC [.sl, .sl, .sl, .sl, .str, (.int .i64), (.int .i64), .sl] (adr b2) H26 fun (c6 : Sl × Sl × Sl × Sl × ByteArray × Int × Int × Sl) =>
                    CallT Pg f_plan_touch [.agg #[.slice c5.1.a c5.1.len c5.1.cap, .slice c5.2.1.a c5.2.1.len c5.2.1.cap, .slice c5.2.2.1.a c5.2.2.1.len c5.2.2.1.cap, .slice c5.2.2.2.1.a c5.2.2.2.1.len c5.2.2.2.1.cap, .string c5.2.2.2.2.1, .int .i64 c5.2.2.2.2.2.1, .int .i64 c5.2.2.2.2.2.2.1, .slice c5.2.2.2.2.2.2.2.a c5.2.2.2.2.2.2.2.len c5.2.2.2.2.2.2.2.cap], .agg #[.slice c6.1.a c6.1.len c6.1.cap, .slice c6.2.1.a c6.2.1.len c6.2.1.cap, .slice c6.2.2.1.a c6.2.2.1.len c6.2.2.1.cap, .slice c6.2.2.2.1.a c6.2.2.2.1.len c6.2.2.2.1.cap, .string c6.2.2.2.2.1, .int .i64 c6.2.2.2.2.2.1, .int .i64 c6.2.2.2.2.2.2.1, .slice c6.2.2.2.2.2.2.2.a c6.2.2.2.2.2.2.2.len c6.2.2.2.2.2.2.2.cap]] (.one (.c .bool)) H26 fun (r2 : Bool) H28 =>
                    IxA 1 l2 s2 fun a4 =>
                    St a4 (.bool r2) H28 fun H29 =>
                    kk2 () H29)) (
                  IxA 1 l2 s2 fun a5 =>
                  St a5 (.bool false) H24 fun H30 =>
                  kk2 () H30)) fun j2 H25 =>
              Jn (σ := Bool) /- t56 -/ (fun kk3 =>
                Br (decide (s2 < s1)) (
                  IxA 1 l2 s2 fun a6 =>
                  Ld .bool a6 H25 fun (x1 : Bool) =>
                  kk3 x1 H25) (
                  kk3 false H25)) fun j3 H31 =>
              Jn (σ := Unit) /-  -/ (fun kk4 =>
                Br j3 (
                  IxA 1 l1 s1 fun a7 =>
                  Ld (.int .i64) a7 H31 fun (x2 : Int) =>
                  IxA 1 l1 s2 fun a8 =>
                  Ld (.int .i64) a8 H31 fun (x3 : Int) =>
                  Lt (IntKind.wrap .i64 (x3 + 1)) fun t1 =>
                  IxA 1 l1 s1 fun a9 =>
                  St a9 (.int .i64 (if x2 < t1 then t1 else x2)) H31 fun H33 =>
                  kk4 () H33) (
                  kk4 () H31)) fun j4 H32 =>
              kk1 () H32) fun j1 H15 =>
            Lt (IntKind.wrap .i64 (s2 + 1)) fun t2 =>
            next2 t2 H15) (
            NilCk (some (adr b1)) fun a10 =>
            Ld .sl a10 H14 fun (x4 : Sl) =>
            Nw #[.slice l2.a l2.len l2.cap] T_Sl_bool H14 fun b4 H34 =>
            App T_Sl_bool 1 24 #[.slice none 0 0] x4 ⟨some (adr b4), 1, 1⟩ H34 fun l3 H35 =>
            NilCk (some (adr b1)) fun a11 =>
            St a11 (.slice l3.a l3.len l3.cap) H35 fun H36 =>
            LoopT (σ := Unit) /-  -/ (fun next3 s3 H37 =>
              NilCk (some (adr b1)) fun a12 =>
              Ld .sl (a12.add 1) H37 fun (x5 : Sl) =>
              IxA 1 l1 s1 fun a13 =>
              Ld (.int .i64) a13 H37 fun (x6 : Int) =>
              Br (decide ((x5.len : Int) ≤ x6)) (
                NilCk (some (adr b1)) fun a14 =>
                Ld .sl (a14.add 1) H37 fun (x7 : Sl) =>
                Nw #[.slice none 0 0] T_Sl_int H37 fun b5 H38 =>
                App T_Sl_int 1 24 #[.slice none 0 0] x7 ⟨some (adr b5), 1, 1⟩ H38 fun l4 H39 =>
                NilCk (some (adr b1)) fun a15 =>
                St (a15.add 1) (.slice l4.a l4.len l4.cap) H39 fun H40 =>
                next3 () H40) (
                NilCk (some (adr b1)) fun a16 =>
                Ld .sl (a16.add 1) H37 fun (x8 : Sl) =>
                IxA 1 l1 s1 fun a17 =>
                Ld (.int .i64) a17 H37 fun (x9 : Int) =>
                NilCk (some (adr b1)) fun a18 =>
                Ld .sl (a18.add 1) H37 fun (x10 : Sl) =>
                IxA 1 l1 s1 fun a19 =>
                Ld (.int .i64) a19 H37 fun (x11 : Int) =>
                IxA 1 x10 x11 fun a20 =>
                Ld .sl a20 H37 fun (x12 : Sl) =>
                Nw #[.int .i64 s1] T_int H37 fun b6 H41 =>
                Stab [(a20, .slice x12.a x12.len x12.cap), (a19, .int .i64 x11), (a18.add 1, .slice x10.a x10.len x10.cap), (a17, .int .i64 x9), (a16.add 1, .slice x8.a x8.len x8.cap)] H41 <|
                App T_int 1 8 #[.int .i64 0] x12 ⟨some (adr b6), 1, 1⟩ H41 fun l5 H42 =>
                Stab [(a19, .int .i64 x11), (a18.add 1, .slice x10.a x10.len x10.cap), (a17, .int .i64 x9), (a16.add 1, .slice x8.a x8.len x8.cap)] H42 <|
                IxA 1 x8 x9 fun a21 =>
                St a21 (.slice l5.a l5.len l5.cap) H42 fun H43 =>
                Lt (IntKind.wrap .i64 (s1 + 1)) fun t3 =>
                next1 t3 H43)) () H36)) 0 H13) (
        k (some (adr b1)) H3)) 0 H2
def h_plan_New : Hint := (.two .no (.two .no (.two .no (.two (.two .no (.one (.loop [(17, (.c (.int .i64)))] (.two .no (.two .no (.two (.one (.two .no (.two .no (.two (.two .no (.one (.loop [(27, (.c (.int .i64)))] (.two .no (.two .no (.two (.join [] (.one (.two .no (.two (.join [] .no) (.two (.join [(56, (.c .bool))] .no) (.join [] .no)))))) .no)))))) (.two .no (.two (.one (.loop [] .no)) .no)))))) .no)))))) .no))))
theorem e_plan_New (t0_ : Sl) (H : Heap) (k : Option Addr → Heap → Prop) : EFun Pg Try.f75 h_plan_New [.slice t0_.a t0_.len t0_.cap] (.one (.c .ptr)) H k = v_plan_New t0_ H k := by kernel_rfl
theorem c_plan_New (t0_ : Sl) {H : Heap} {k : Option Addr → Heap → Prop} (h : v_plan_New t0_ H k) : CallT Pg f_plan_New [.slice t0_.a t0_.len t0_.cap] (.one (.c .ptr)) H k :=
  call_of_E Pg_mixed Try.func75 (by kernel_rfl) (by kernel_rfl) (by kernel_rfl) (by kernel_rfl) ((e_plan_New t0_ H k).symm ▸ h)
/-- hindcast/hindcastlaw18.listed -/
def v_hindcastlaw18_listed (l_ : Sl) (H : Heap) (k : Sl → Heap → Prop) : Prop :=
    App T_int 1 8 #[.int .i64 0] ⟨none, 0, 0⟩ l_ H fun l1 H1 =>
    LoopT (σ := Sl × Int) /- out, i -/ (fun next1 s1 H2 =>
      Br (decide (s1.2 < 8)) (
        Nw #[.int .i64 77] T_int H2 fun b1 H3 =>
        App T_int 1 8 #[.int .i64 0] s1.1 ⟨some (adr b1), 1, 1⟩ H3 fun l2 H4 =>
        Lt (IntKind.wrap .i64 (s1.2 + 1)) fun t1 =>
        next1 (l2, t1) H4) (
        SlA 1 s1.1 0 (l_.len : Int) (s1.1.cap : Nat) fun l3 =>
        k l3 H2)) (l1, 0) H1
def h_hindcastlaw18_listed : Hint := (.two .no (.two .no (.two .no (.two (.two .no (.one (.loop [(3, (.c .sl)), (4, (.c (.int .i64)))] .no))) .no))))
theorem e_hindcastlaw18_listed (l_ : Sl) (H : Heap) (k : Sl → Heap → Prop) : EFun Pg Try.f76 h_hindcastlaw18_listed [.slice l_.a l_.len l_.cap] (.one (.c .sl)) H k = v_hindcastlaw18_listed l_ H k := by kernel_rfl
theorem c_hindcastlaw18_listed (l_ : Sl) {H : Heap} {k : Sl → Heap → Prop} (h : v_hindcastlaw18_listed l_ H k) : CallT Pg f_hindcastlaw18_listed [.slice l_.a l_.len l_.cap] (.one (.c .sl)) H k :=
  call_of_E Pg_mixed Try.func76 (by kernel_rfl) (by kernel_rfl) (by kernel_rfl) (by kernel_rfl) ((e_hindcastlaw18_listed l_ H k).symm ▸ h)
/-- hindcast/hindcastlaw18.still -/
def v_hindcastlaw18_still (l_ : Sl) (was_ : Sl) (H : Heap) (k : Bool → Heap → Prop) : Prop :=
    Jn (σ := Bool) /-  -/ (fun kk1 =>
      Br ((l_.len : Int) != (was_.len : Int)) (
        kk1 true H) (
        Lt (IntKind.wrap .i64 ((was_.len : Int) + 8)) fun t1 =>
        kk1 (decide ((l_.cap : Int) < t1)) H)) fun j1 H1 =>
    Br j1 (
      k false H1) (
      Lt (IntKind.wrap .i64 ((was_.len : Int) + 8)) fun t2 =>
      SlA 1 l_ 0 t2 (l_.cap : Nat) fun l1 =>
      LoopT (σ := Int) /- i -/ (fun next1 s1 H2 =>
        Br (decide (s1 < (l1.len : Int))) (
          Jn (σ := Bool) /-  -/ (fun kk2 =>
            Br (decide (s1 < (was_.len : Int))) (
              IxA 1 l1 s1 fun a1 =>
              Ld (.int .i64) a1 H2 fun (x1 : Int) =>
              IxA 1 was_ s1 fun a2 =>
              Ld (.int .i64) a2 H2 fun (x2 : Int) =>
              Br (x1 != x2) (
                kk2 true H2) (
                Br (decide (s1 ≥ (was_.len : Int))) (
                  IxA 1 l1 s1 fun a3 =>
                  Ld (.int .i64) a3 H2 fun (x3 : Int) =>
                  kk2 (x3 != 77) H2) (
                  kk2 false H2))) (
              Br (decide (s1 ≥ (was_.len : Int))) (
                IxA 1 l1 s1 fun a4 =>
                Ld (.int .i64) a4 H2 fun (x4 : Int) =>
                kk2 (x4 != 77) H2) (
                kk2 false H2))) fun j2 H3 =>
          Br j2 (
            k false H3) (
            Lt (IntKind.wrap .i64 (s1 + 1)) fun t3 =>
            next1 t3 H3)) (
          k true H2)) 0 H1)
def h_hindcastlaw18_still : Hint := (.two .no (.two (.two (.join [(19, (.c .bool))] .no) .no) (.two .no (.two (.two .no (.one (.loop [(6, (.c (.int .i64)))] (.two .no (.two (.one (.two (.join [(58, (.c .bool))] .no) .no)) .no))))) .no))))
theorem e_hindcastlaw18_still (l_ : Sl) (was_ : Sl) (H : Heap) (k : Bool → Heap → Prop) : EFun Pg Try.f77 h_hindcastlaw18_still [.slice l_.a l_.len l_.cap, .slice was_.a was_.len was_.cap] (.one (.c .bool)) H k = v_hindcastlaw18_still l_ was_ H k := by kernel_rfl
theorem c_hindcastlaw18_still (l_ : Sl) (was_ : Sl) {H : Heap} {k : Bool → Heap → Prop} (h : v_hindcastlaw18_still l_ was_ H k) : CallT Pg f_hindcastlaw18_still [.slice l_.a l_.len l_.cap, .slice was_.a was_.len was_.cap] (.one (.c .bool)) H k :=
  call_of_E Pg_mixed Try.func77 (by kernel_rfl) (by kernel_rfl) (by kernel_rfl) (by kernel_rfl) ((e_hindcastlaw18_still l_ was_ H k).symm ▸ h)
/-- hindcast/hindcastref18.copied -/
def v_hindcastref18_copied (l_ : Sl) (H : Heap) (k : Sl → Heap → Prop) : Prop :=
    App T_int 1 8 #[.int .i64 0] ⟨none, 0, 0⟩ l_ H fun l1 H1 =>
    k l1 H1
def h_hindcastref18_copied : Hint := .no
theorem e_hindcastref18_copied (l_ : Sl) (H : Heap) (k : Sl → Heap → Prop) : EFun Pg Try.f78 h_hindcastref18_copied [.slice l_.a l_.len l_.cap] (.one (.c .sl)) H k = v_hindcastref18_copied l_ H k := by kernel_rfl
theorem c_hindcastref18_copied (l_ : Sl) {H : Heap} {k : Sl → Heap → Prop} (h : v_hindcastref18_copied l_ H k) : CallT Pg f_hindcastref18_copied [.slice l_.a l_.len l_.cap] (.one (.c .sl)) H k :=
  call_of_E Pg_mixed Try.func78 (by kernel_rfl) (by kernel_rfl) (by kernel_rfl) (by kernel_rfl) ((e_hindcastref18_copied l_ H k).symm ▸ h)
/-- (*hindcast/hindcastref18.Plan).Order -/
def v_hindcastref18_Plan_Order (t0_ : Option Addr) (t1_ : Sl) (H : Heap) (k : Sl × Int → Heap → Prop) : Prop :=
    NilCk t0_ fun a1 =>
    Ld .sl (a1.add 1) H fun (x1 : Sl) =>
    CallT Pg f_hindcastref18_copied [.slice t1_.a t1_.len t1_.cap] (.one (.c .sl)) H fun (r1 : Sl) H1 =>
    Jn (σ := Sl) /- t7 -/ (fun kk1 =>
      Br ((r1.len : Int) == 0) (
        Mks T_int 1 8 #[.int .i64 0] (x1.len : Int) (x1.len : Int) H1 fun l1 H3 =>
        kk1 l1 H3) (
        kk1 r1 H1)) fun j1 H2 =>
    Br ((j1.len : Int) != (x1.len : Int)) (
      k (⟨none, 0, 0⟩, 180) H2) (
      CallT Pg f_hindcastref18_Plan_Stages [.pointer t0_] (.one (.c .sl)) H2 fun (r2 : Sl) H4 =>
      LoopT (σ := Sl × Int) /- t8, t10 -/ (fun next1 s1 H5 =>
        Br (decide (s1.2 < (r2.len : Int))) (
          IxA 1 r2 s1.2 fun a2 =>
          Ld .sl a2 H5 fun (x2 : Sl) =>
          LoopT (σ := Sl × Sl) /- t8, t11 -/ (fun next2 s2 H6 =>
            Br (decide ((s2.2.len : Int) > 0)) (
              IxA 1 j1 (s2.1.len : Int) fun a3 =>
              Ld (.int .i64) a3 H6 fun (x3 : Int) =>
              Jn (σ := Bool) /- t57 -/ (fun kk2 =>
                Br (decide (x3 < 0)) (
                  kk2 true H6) (
                  kk2 (decide (x3 ≥ (s2.2.len : Int))) H6)) fun j2 H7 =>
              Br j2 (
                k (⟨none, 0, 0⟩, 180) H7) (
                IxA 1 s2.2 x3 fun a4 =>
                Ld (.int .i64) a4 H7 fun (x4 : Int) =>
                Nw #[.int .i64 x4] T_int H7 fun b1 H8 =>
                App T_int 1 8 #[.int .i64 0] s2.1 ⟨some (adr b1), 1, 1⟩ H8 fun l2 H9 =>
                SlA 1 s2.2 0 x3 (s2.2.cap : Nat) fun l3 =>
                CallT Pg f_hindcastref18_copied [.slice l3.a l3.len l3.cap] (.one (.c .sl)) H9 fun (r3 : Sl) H10 =>
                Lt (IntKind.wrap .i64 (x3 + 1)) fun t1 =>
                SlA 1 s2.2 t1 (s2.2.len : Nat) (s2.2.cap : Nat) fun l4 =>
                App T_int 1 8 #[.int .i64 0] r3 l4 H10 fun l5 H11 =>
                next2 (l2, l5) H11)) (
              Lt (IntKind.wrap .i64 (s1.2 + 1)) fun t2 =>
              next1 (s2.1, t2) H6)) (s1.1, x2) H5) (
          k (s1.1, 0) H5)) (⟨none, 0, 0⟩, 0) H4)
def h_hindcastref18_Plan_Order : Hint := (.two .no (.two .no (.two .no (.two (.two .no (.join [(7, (.c .sl))] .no)) (.two .no (.two .no (.two .no (.two (.two .no (.one (.loop [(8, (.c .sl)), (10, (.c (.int .i64)))] (.two .no (.two (.one (.two .no (.one (.loop [(8, (.c .sl)), (11, (.c .sl))] (.two .no (.one (.two .no (.two (.two (.join [(57, (.c .bool))] .no) .no) .no)))))))) .no))))) .no))))))))
theorem e_hindcastref18_Plan_Order (t0_ : Option Addr) (t1_ : Sl) (H : Heap) (k : Sl × Int → Heap → Prop) : EFun Pg Try.f79 h_hindcastref18_Plan_Order [.pointer t0_, .slice t1_.a t1_.len t1_.cap] (.tup [(.c .sl), (.c (.int .i64))]) H k = v_hindcastref18_Plan_Order t0_ t1_ H k := by kernel_rfl
theorem c_hindcastref18_Plan_Order (t0_ : Option Addr) (t1_ : Sl) {H : Heap} {k : Sl × Int → Heap → Prop} (h : v_hindcastref18_Plan_Order t0_ t1_ H k) : CallT Pg f_hindcastref18_Plan_Order [.pointer t0_, .slice t1_.a t1_.len t1_.cap] (.tup [(.c .sl), (.c (.int .i64))]) H k :=
  call_of_E Pg_mixed Try.func79 (by kernel_rfl) (by kernel_rfl) (by kernel_rfl) (by kernel_rfl) ((e_hindcastref18_Plan_Order t0_ t1_ H k).symm ▸ h)
/-- (*hindcast/hindcastref18.Plan).Stages -/
def v_hindcastref18_Plan_Stages (p_ : Option Addr) (H : Heap) (k : Sl → Heap → Prop) : Prop :=
    CallT Pg f_hindcastref18_Plan_stage [.pointer p_] (.one (.c .sl)) H fun (r1 : Sl) H1 =>
    LoopT (σ := Sl × Int) /- out, s -/ (fun next1 s1 H2 =>
      LoopT (σ := Sl × Int) /- of, i -/ (fun next2 s2 H3 =>
        Br (decide (s2.2 < (r1.len : Int))) (
          Jn (σ := Sl) /- of -/ (fun kk1 =>
            IxA 1 r1 s2.2 fun a1 =>
            Ld (.int .i64) a1 H3 fun (x1 : Int) =>
            Jn (σ := Sl) /- of -/ (fun kk2 =>
              Br (x1 == s1.2) (
                Nw #[.int .i64 s2.2] T_int H3 fun b1 H6 =>
                App T_int 1 8 #[.int .i64 0] s2.1 ⟨some (adr b1), 1, 1⟩ H6 fun l1 H7 =>
                kk2 l1 H7) (
                kk2 s2.1 H3)) fun j2 H5 =>
            kk1 j2 H5) fun j1 H4 =>
          Lt (IntKind.wrap .i64 (s2.2 + 1)) fun t1 =>
          next2 (j1, t1) H4) (
          Br ((s2.1.len : Int) == 0) (
            k s1.1 H3) (
            Nw #[.slice s2.1.a s2.1.len s2.1.cap] T_Sl_int H3 fun b2 H8 =>
            App T_Sl_int 1 24 #[.slice none 0 0] s1.1 ⟨some (adr b2), 1, 1⟩ H8 fun l2 H9 =>
            Lt (IntKind.wrap .i64 (s1.2 + 1)) fun t2 =>
            next1 (l2, t2) H9))) (⟨none, 0, 0⟩, 0) H2) (⟨none, 0, 0⟩, 0) H1
def h_hindcastref18_Plan_Stages : Hint := (.two .no (.two .no (.two .no (.two .no (.one (.loop [(3, (.c .sl)), (5, (.c (.int .i64)))] (.two (.one (.two .no (.two (.two .no (.one (.loop [(6, (.c .sl)), (7, (.c (.int .i64)))] (.two .no (.two (.join [(6, (.c .sl))] (.one (.two .no (.join [(6, (.c .sl))] .no)))) .no))))) .no))) .no)))))))
theorem e_hindcastref18_Plan_Stages (p_ : Option Addr) (H : Heap) (k : Sl → Heap → Prop) : EFun Pg Try.f80 h_hindcastref18_Plan_Stages [.pointer p_] (.one (.c .sl)) H k = v_hindcastref18_Plan_Stages p_ H k := by kernel_rfl
theorem c_hindcastref18_Plan_Stages (p_ : Option Addr) {H : Heap} {k : Sl → Heap → Prop} (h : v_hindcastref18_Plan_Stages p_ H k) : CallT Pg f_hindcastref18_Plan_Stages [.pointer p_] (.one (.c .sl)) H k :=
  call_of_E Pg_mixed Try.func80 (by kernel_rfl) (by kernel_rfl) (by kernel_rfl) (by kernel_rfl) ((e_hindcastref18_Plan_Stages p_ H k).symm ▸ h)
/-- hindcast/hindcastlaw18.sames -/
def v_hindcastlaw18_sames (a_ : Sl) (b_ : Sl) (H : Heap) (k : Bool → Heap → Prop) : Prop :=
    Br ((a_.len : Int) != (b_.len : Int)) (
      k false H) (
      LoopT (σ := Int) /- i -/ (fun next1 s1 H1 =>
        Br (decide (s1 < (a_.len : Int))) (
          IxA 1 a_ s1 fun a1 =>
          Ld .sl a1 H1 fun (x1 : Sl) =>
          IxA 1 b_ s1 fun a2 =>
          Ld .sl a2 H1 fun (x2 : Sl) =>
          CallT Pg f_hindcastlaw18_same [.slice x1.a x1.len x1.cap, .slice x2.a x2.len x2.cap] (.one (.c .bool)) H1 fun (r1 : Bool) H2 =>
          Br (!r1) (
            k false H2) (
            Lt (IntKind.wrap .i64 (s1 + 1)) fun t1 =>
            next1 t1 H2)) (
          k true H1)) 0 H)
def h_hindcastlaw18_sames : Hint := (.two .no (.two .no (.two (.two .no (.one (.loop [(5, (.c (.int .i64)))] .no))) .no)))
theorem e_hindcastlaw18_sames (a_ : Sl) (b_ : Sl) (H : Heap) (k : Bool → Heap → Prop) : EFun Pg Try.f81 h_hindcastlaw18_sames [.slice a_.a a_.len a_.cap, .slice b_.a b_.len b_.cap] (.one (.c .bool)) H k = v_hindcastlaw18_sames a_ b_ H k := by kernel_rfl
theorem c_hindcastlaw18_sames (a_ : Sl) (b_ : Sl) {H : Heap} {k : Bool → Heap → Prop} (h : v_hindcastlaw18_sames a_ b_ H k) : CallT Pg f_hindcastlaw18_sames [.slice a_.a a_.len a_.cap, .slice b_.a b_.len b_.cap] (.one (.c .bool)) H k :=
  call_of_E Pg_mixed Try.func81 (by kernel_rfl) (by kernel_rfl) (by kernel_rfl) (by kernel_rfl) ((e_hindcastlaw18_sames a_ b_ H k).symm ▸ h)
/-- hindcast/hindcastlaw18.same -/
def v_hindcastlaw18_same (a_ : Sl) (b_ : Sl) (H : Heap) (k : Bool → Heap → Prop) : Prop :=
    Br ((a_.len : Int) != (b_.len : Int)) (
      k false H) (
      LoopT (σ := Int) /- i -/ (fun next1 s1 H1 =>
        Br (decide (s1 < (a_.len : Int))) (
          IxA 1 a_ s1 fun a1 =>
          Ld (.int .i64) a1 H1 fun (x1 : Int) =>
          IxA 1 b_ s1 fun a2 =>
          Ld (.int .i64) a2 H1 fun (x2 : Int) =>
          Br (x1 != x2) (
            k false H1) (
            Lt (IntKind.wrap .i64 (s1 + 1)) fun t1 =>
            next1 t1 H1)) (
          k true H1)) 0 H)
def h_hindcastlaw18_same : Hint := (.two .no (.two .no (.two (.two .no (.one (.loop [(5, (.c (.int .i64)))] .no))) .no)))
theorem e_hindcastlaw18_same (a_ : Sl) (b_ : Sl) (H : Heap) (k : Bool → Heap → Prop) : EFun Pg Try.f82 h_hindcastlaw18_same [.slice a_.a a_.len a_.cap, .slice b_.a b_.len b_.cap] (.one (.c .bool)) H k = v_hindcastlaw18_same a_ b_ H k := by kernel_rfl
theorem c_hindcastlaw18_same (a_ : Sl) (b_ : Sl) {H : Heap} {k : Bool → Heap → Prop} (h : v_hindcastlaw18_same a_ b_ H k) : CallT Pg f_hindcastlaw18_same [.slice a_.a a_.len a_.cap, .slice b_.a b_.len b_.cap] (.one (.c .bool)) H k :=
  call_of_E Pg_mixed Try.func82 (by kernel_rfl) (by kernel_rfl) (by kernel_rfl) (by kernel_rfl) ((e_hindcastlaw18_same a_ b_ H k).symm ▸ h)
/-- (*hindcast/hindcastlaw18.Book).keeps -/
def v_hindcastlaw18_Book_keeps (b_ : Option Addr) (l_ : Sl) (H : Heap) (k : Unit → Heap → Prop) : Prop :=
    LoopT (σ := Int) /- i -/ (fun next1 s1 H1 =>
      Br (decide (s1 < (l_.len : Int))) (
        IxA 1 l_ s1 fun a1 =>
        Ld .sl a1 H1 fun (x1 : Sl) =>
        CallT Pg f_hindcastlaw18_Book_keep [.pointer b_, .slice x1.a x1.len x1.cap] (.tup []) H1 fun (r1 : Unit) H2 =>
        Lt (IntKind.wrap .i64 (s1 + 1)) fun t1 =>
        next1 t1 H2) (
        NilCk b_ fun a2 =>
        Ld .sl (a2.add 2) H1 fun (x2 : Sl) =>
        Lt (IntKind.wrap .i64 ((-1000000) - (x2.len : Int))) fun t2 =>
        Nw #[.int .i64 t2] T_int H1 fun b1 H3 =>
        LoopT (σ := Int) /- i -/ (fun next2 s2 H4 =>
          Br (decide (s2 < (l_.len : Int))) (
            IxA 1 l_ s2 fun a3 =>
            St a3 (.slice (some (adr b1)) 1 1) H4 fun H5 =>
            Lt (IntKind.wrap .i64 (s2 + 1)) fun t3 =>
            next2 t3 H5) (
            NilCk b_ fun a4 =>
            Ld .sl (a4.add 2) H4 fun (x3 : Sl) =>
            Nw #[.slice l_.a l_.len l_.cap] T_Sl_Sl_int H4 fun b2 H6 =>
            App T_Sl_Sl_int 1 24 #[.slice none 0 0] x3 ⟨some (adr b2), 1, 1⟩ H6 fun l1 H7 =>
            NilCk b_ fun a5 =>
            St (a5.add 2) (.slice l1.a l1.len l1.cap) H7 fun H8 =>
            NilCk b_ fun a6 =>
            Ld .sl (a6.add 3) H8 fun (x4 : Sl) =>
            Nw #[.int .i64 t2] T_int H8 fun b3 H9 =>
            App T_int 1 8 #[.int .i64 0] x4 ⟨some (adr b3), 1, 1⟩ H9 fun l2 H10 =>
            NilCk b_ fun a7 =>
            St (a7.add 3) (.slice l2.a l2.len l2.cap) H10 fun H11 =>
            k () H11)) 0 H3)) 0 H
def h_hindcastlaw18_Book_keeps : Hint := (.two (.two .no (.one (.loop [(4, (.c (.int .i64)))] .no))) (.two .no (.two .no (.two (.two .no (.one (.loop [(7, (.c (.int .i64)))] .no))) .no))))
theorem e_hindcastlaw18_Book_keeps (b_ : Option Addr) (l_ : Sl) (H : Heap) (k : Unit → Heap → Prop) : EFun Pg Try.f83 h_hindcastlaw18_Book_keeps [.pointer b_, .slice l_.a l_.len l_.cap] (.tup []) H k = v_hindcastlaw18_Book_keeps b_ l_ H k := by kernel_rfl
theorem c_hindcastlaw18_Book_keeps (b_ : Option Addr) (l_ : Sl) {H : Heap} {k : Unit → Heap → Prop} (h : v_hindcastlaw18_Book_keeps b_ l_ H k) : CallT Pg f_hindcastlaw18_Book_keeps [.pointer b_, .slice l_.a l_.len l_.cap] (.tup []) H k :=
  call_of_E Pg_mixed Try.func83 (by kernel_rfl) (by kernel_rfl) (by kernel_rfl) (by kernel_rfl) ((e_hindcastlaw18_Book_keeps b_ l_ H k).symm ▸ h)
/-- (*hindcast/hindcastlaw18.Book).keep -/
def v_hindcastlaw18_Book_keep (b_ : Option Addr) (l_ : Sl) (H : Heap) (k : Unit → Heap → Prop) : Prop :=
    NilCk b_ fun a1 =>
    Ld .sl a1 H fun (x1 : Sl) =>
    Lt (IntKind.wrap .i64 ((-1000) - (x1.len : Int))) fun t1 =>
    LoopT (σ := Int) /- i -/ (fun next1 s1 H1 =>
      Br (decide (s1 < (l_.len : Int))) (
        IxA 1 l_ s1 fun a2 =>
        St a2 (.int .i64 t1) H1 fun H2 =>
        Lt (IntKind.wrap .i64 (s1 + 1)) fun t2 =>
        next1 t2 H2) (
        NilCk b_ fun a3 =>
        Ld .sl a3 H1 fun (x2 : Sl) =>
        Nw #[.slice l_.a l_.len l_.cap] T_Sl_int H1 fun b1 H3 =>
        App T_Sl_int 1 24 #[.slice none 0 0] x2 ⟨some (adr b1), 1, 1⟩ H3 fun l1 H4 =>
        NilCk b_ fun a4 =>
        St a4 (.slice l1.a l1.len l1.cap) H4 fun H5 =>
        NilCk b_ fun a5 =>
        Ld .sl (a5.add 1) H5 fun (x3 : Sl) =>
        Nw #[.int .i64 t1] T_int H5 fun b2 H6 =>
        App T_int 1 8 #[.int .i64 0] x3 ⟨some (adr b2), 1, 1⟩ H6 fun l2 H7 =>
        NilCk b_ fun a6 =>
        St (a6.add 1) (.slice l2.a l2.len l2.cap) H7 fun H8 =>
        k () H8)) 0 H
def h_hindcastlaw18_Book_keep : Hint := (.two .no (.two (.two .no (.one (.loop [(5, (.c (.int .i64)))] .no))) .no))
theorem e_hindcastlaw18_Book_keep (b_ : Option Addr) (l_ : Sl) (H : Heap) (k : Unit → Heap → Prop) : EFun Pg Try.f84 h_hindcastlaw18_Book_keep [.pointer b_, .slice l_.a l_.len l_.cap] (.tup []) H k = v_hindcastlaw18_Book_keep b_ l_ H k := by kernel_rfl
theorem c_hindcastlaw18_Book_keep (b_ : Option Addr) (l_ : Sl) {H : Heap} {k : Unit → Heap → Prop} (h : v_hindcastlaw18_Book_keep b_ l_ H k) : CallT Pg f_hindcastlaw18_Book_keep [.pointer b_, .slice l_.a l_.len l_.cap] (.tup []) H k :=
  call_of_E Pg_mixed Try.func84 (by kernel_rfl) (by kernel_rfl) (by kernel_rfl) (by kernel_rfl) ((e_hindcastlaw18_Book_keep b_ l_ H k).symm ▸ h)
/-- (*hindcast/hindcastlaw18.Book).grows -/
def v_hindcastlaw18_Book_grows (t0_ : Option Addr) (H : Heap) (k : Unit → Heap → Prop) : Prop :=
    NilCk t0_ fun a1 =>
    Ld .sl a1 H fun (x1 : Sl) =>
    NilCk t0_ fun a2 =>
    Ld (.int .i64) (a2.add 4) H fun (x2 : Int) =>
    LoopT (σ := Int) /- t3 -/ (fun next1 s1 H1 =>
      Br (decide (s1 < (x1.len : Int))) (
        NilCk t0_ fun a3 =>
        Ld .sl a3 H1 fun (x3 : Sl) =>
        IxA 1 x3 s1 fun a4 =>
        Ld .sl a4 H1 fun (x4 : Sl) =>
        LoopT (σ := Sl × Int) /- t4, t5 -/ (fun next2 s2 H2 =>
          Br (decide (s2.2 < 70)) (
            NilCk t0_ fun a5 =>
            Ld .sl (a5.add 1) H2 fun (x5 : Sl) =>
            IxA 1 x5 s1 fun a6 =>
            Ld (.int .i64) a6 H2 fun (x6 : Int) =>
            Nw #[.int .i64 x6] T_int H2 fun b1 H3 =>
            App T_int 1 8 #[.int .i64 0] s2.1 ⟨some (adr b1), 1, 1⟩ H3 fun l1 H4 =>
            Lt (IntKind.wrap .i64 (s2.2 + 1)) fun t1 =>
            next2 (l1, t1) H4) (
            NilCk t0_ fun a7 =>
            Ld .sl a7 H2 fun (x7 : Sl) =>
            Nw #[.slice s2.1.a s2.1.len s2.1.cap] T_Sl_int H2 fun b2 H5 =>
            App T_Sl_int 1 24 #[.slice none 0 0] x7 ⟨some (adr b2), 1, 1⟩ H5 fun l2 H6 =>
            NilCk t0_ fun a8 =>
            St a8 (.slice l2.a l2.len l2.cap) H6 fun H7 =>
            NilCk t0_ fun a9 =>
            Ld .sl (a9.add 1) H7 fun (x8 : Sl) =>
            NilCk t0_ fun a10 =>
            Ld .sl (a10.add 1) H7 fun (x9 : Sl) =>
            IxA 1 x9 s1 fun a11 =>
            Ld (.int .i64) a11 H7 fun (x10 : Int) =>
            Nw #[.int .i64 x10] T_int H7 fun b3 H8 =>
            Stab [(a10.add 1, .slice x9.a x9.len x9.cap), (a9.add 1, .slice x8.a x8.len x8.cap)] H8 <|
            App T_int 1 8 #[.int .i64 0] x8 ⟨some (adr b3), 1, 1⟩ H8 fun l3 H9 =>
            Stab [(a11, .int .i64 x10), (a10.add 1, .slice x9.a x9.len x9.cap)] H9 <|
            NilCk t0_ fun a12 =>
            St (a12.add 1) (.slice l3.a l3.len l3.cap) H9 fun H10 =>
            Lt (IntKind.wrap .i64 (s1 + 1)) fun t2 =>
            next1 t2 H10)) (x4, 0) H1) (
        NilCk t0_ fun a13 =>
        Ld .sl a13 H1 fun (x11 : Sl) =>
        NilCk t0_ fun a14 =>
        St (a14.add 4) (.int .i64 (x11.len : Int)) H1 fun H11 =>
        NilCk t0_ fun a15 =>
        Ld .sl (a15.add 2) H11 fun (x12 : Sl) =>
        NilCk t0_ fun a16 =>
        Ld (.int .i64) (a16.add 5) H11 fun (x13 : Int) =>
        LoopT (σ := Int) /- t6 -/ (fun next3 s3 H12 =>
          Br (decide (s3 < (x12.len : Int))) (
            NilCk t0_ fun a17 =>
            Ld .sl (a17.add 2) H12 fun (x14 : Sl) =>
            IxA 1 x14 s3 fun a18 =>
            Ld .sl a18 H12 fun (x15 : Sl) =>
            LoopT (σ := Sl × Int) /- t7, t8 -/ (fun next4 s4 H13 =>
              Br (decide (s4.2 < 70)) (
                NilCk t0_ fun a19 =>
                Ld .sl (a19.add 3) H13 fun (x16 : Sl) =>
                IxA 1 x16 s3 fun a20 =>
                Ld (.int .i64) a20 H13 fun (x17 : Int) =>
                Nw #[.int .i64 x17] T_int H13 fun b4 H14 =>
                Nw #[.slice (some (adr b4)) 1 1] T_Sl_int H14 fun b5 H15 =>
                App T_Sl_int 1 24 #[.slice none 0 0] s4.1 ⟨some (adr b5), 1, 1⟩ H15 fun l4 H16 =>
                Lt (IntKind.wrap .i64 (s4.2 + 1)) fun t3 =>
                next4 (l4, t3) H16) (
                NilCk t0_ fun a21 =>
                Ld .sl (a21.add 2) H13 fun (x18 : Sl) =>
                Nw #[.slice s4.1.a s4.1.len s4.1.cap] T_Sl_Sl_int H13 fun b6 H17 =>
                App T_Sl_Sl_int 1 24 #[.slice none 0 0] x18 ⟨some (adr b6), 1, 1⟩ H17 fun l5 H18 =>
                NilCk t0_ fun a22 =>
                St (a22.add 2) (.slice l5.a l5.len l5.cap) H18 fun H19 =>
                NilCk t0_ fun a23 =>
                Ld .sl (a23.add 3) H19 fun (x19 : Sl) =>
                NilCk t0_ fun a24 =>
                Ld .sl (a24.add 3) H19 fun (x20 : Sl) =>
                IxA 1 x20 s3 fun a25 =>
                Ld (.int .i64) a25 H19 fun (x21 : Int) =>
                Nw #[.int .i64 x21] T_int H19 fun b7 H20 =>
                Stab [(a24.add 3, .slice x20.a x20.len x20.cap), (a23.add 3, .slice x19.a x19.len x19.cap)] H20 <|
                App T_int 1 8 #[.int .i64 0] x19 ⟨some (adr b7), 1, 1⟩ H20 fun l6 H21 =>
                Stab [(a25, .int .i64 x21), (a24.add 3, .slice x20.a x20.len x20.cap)] H21 <|
                NilCk t0_ fun a26 =>
                St (a26.add 3) (.slice l6.a l6.len l6.cap) H21 fun H22 =>
                Lt (IntKind.wrap .i64 (s3 + 1)) fun t4 =>
                next3 t4 H22)) (x15, 0) H12) (
            NilCk t0_ fun a27 =>
            Ld .sl (a27.add 2) H12 fun (x22 : Sl) =>
            NilCk t0_ fun a28 =>
            St (a28.add 5) (.int .i64 (x22.len : Int)) H12 fun H23 =>
            k () H23)) x13 H11)) x2 H
def h_hindcastlaw18_Book_grows : Hint := (.two .no (.two (.two .no (.one (.loop [(3, (.c (.int .i64)))] (.two .no (.two (.one (.two .no (.two (.two .no (.one (.loop [(4, (.c .sl)), (5, (.c (.int .i64)))] .no))) .no))) .no))))) (.two .no (.two .no (.two (.two .no (.one (.loop [(6, (.c (.int .i64)))] (.two .no (.two (.one (.two .no (.two (.two .no (.one (.loop [(7, (.c .sl)), (8, (.c (.int .i64)))] .no))) .no))) .no))))) .no)))))
theorem e_hindcastlaw18_Book_grows (t0_ : Option Addr) (H : Heap) (k : Unit → Heap → Prop) : EFun Pg Try.f85 h_hindcastlaw18_Book_grows [.pointer t0_] (.tup []) H k = v_hindcastlaw18_Book_grows t0_ H k := by kernel_rfl
theorem c_hindcastlaw18_Book_grows (t0_ : Option Addr) {H : Heap} {k : Unit → Heap → Prop} (h : v_hindcastlaw18_Book_grows t0_ H k) : CallT Pg f_hindcastlaw18_Book_grows [.pointer t0_] (.tup []) H k :=
  call_of_E Pg_mixed Try.func85 (by kernel_rfl) (by kernel_rfl) (by kernel_rfl) (by kernel_rfl) ((e_hindcastlaw18_Book_grows t0_ H k).symm ▸ h)
/-- (*hindcast/hindcastlaw18.Book).looks -/
def v_hindcastlaw18_Book_looks (t0_ : Option Addr) (H : Heap) (k : Bool → Heap → Prop) : Prop :=
    LoopT (σ := Int) /- t3 -/ (fun next1 s1 H1 =>
      NilCk t0_ fun a1 =>
      Ld .sl a1 H1 fun (x1 : Sl) =>
      Br (decide (s1 < (x1.len : Int))) (
        LoopT (σ := Int) /- t4 -/ (fun next2 s2 H2 =>
          NilCk t0_ fun a2 =>
          Ld .sl a2 H2 fun (x2 : Sl) =>
          IxA 1 x2 s1 fun a3 =>
          Ld .sl a3 H2 fun (x3 : Sl) =>
          Br (decide (s2 < (x3.len : Int))) (
            NilCk t0_ fun a4 =>
            Ld .sl a4 H2 fun (x4 : Sl) =>
            IxA 1 x4 s1 fun a5 =>
            Ld .sl a5 H2 fun (x5 : Sl) =>
            IxA 1 x5 s2 fun a6 =>
            Ld (.int .i64) a6 H2 fun (x6 : Int) =>
            NilCk t0_ fun a7 =>
            Ld .sl (a7.add 1) H2 fun (x7 : Sl) =>
            IxA 1 x7 s1 fun a8 =>
            Ld (.int .i64) a8 H2 fun (x8 : Int) =>
            Br (x6 != x8) (
              k false H2) (
              Lt (IntKind.wrap .i64 (s2 + 1)) fun t1 =>
              next2 t1 H2)) (
            Lt (IntKind.wrap .i64 (s1 + 1)) fun t2 =>
            next1 t2 H2)) 0 H1) (
        LoopT (σ := Int) /- t5 -/ (fun next3 s3 H3 =>
          NilCk t0_ fun a9 =>
          Ld .sl (a9.add 2) H3 fun (x9 : Sl) =>
          Br (decide (s3 < (x9.len : Int))) (
            LoopT (σ := Int) /- t6 -/ (fun next4 s4 H4 =>
              NilCk t0_ fun a10 =>
              Ld .sl (a10.add 2) H4 fun (x10 : Sl) =>
              IxA 1 x10 s3 fun a11 =>
              Ld .sl a11 H4 fun (x11 : Sl) =>
              Br (decide (s4 < (x11.len : Int))) (
                Jn (σ := Bool) /- t100 -/ (fun kk1 =>
                  NilCk t0_ fun a12 =>
                  Ld .sl (a12.add 2) H4 fun (x12 : Sl) =>
                  IxA 1 x12 s3 fun a13 =>
                  Ld .sl a13 H4 fun (x13 : Sl) =>
                  IxA 1 x13 s4 fun a14 =>
                  Ld .sl a14 H4 fun (x14 : Sl) =>
                  Br ((x14.len : Int) != 1) (
                    kk1 true H4) (
                    NilCk t0_ fun a15 =>
                    Ld .sl (a15.add 2) H4 fun (x15 : Sl) =>
                    IxA 1 x15 s3 fun a16 =>
                    Ld .sl a16 H4 fun (x16 : Sl) =>
                    IxA 1 x16 s4 fun a17 =>
                    Ld .sl a17 H4 fun (x17 : Sl) =>
                    IxA 1 x17 0 fun a18 =>
                    Ld (.int .i64) a18 H4 fun (x18 : Int) =>
                    NilCk t0_ fun a19 =>
                    Ld .sl (a19.add 3) H4 fun (x19 : Sl) =>
                    IxA 1 x19 s3 fun a20 =>
                    Ld (.int .i64) a20 H4 fun (x20 : Int) =>
                    kk1 (x18 != x20) H4)) fun j1 H5 =>
                Br j1 (
                  k false H5) (
                  Lt (IntKind.wrap .i64 (s4 + 1)) fun t3 =>
                  next4 t3 H5)) (
                Lt (IntKind.wrap .i64 (s3 + 1)) fun t4 =>
                next3 t4 H4)) 0 H3) (
            k true H3)) 0 H1)) 0 H
def h_hindcastlaw18_Book_looks : Hint := (.two .no (.two (.two .no (.one (.loop [(3, (.c (.int .i64)))] (.two .no (.two (.one (.two .no (.one (.loop [(4, (.c (.int .i64)))] .no)))) .no))))) (.two (.two .no (.one (.loop [(5, (.c (.int .i64)))] (.two .no (.two (.one (.two .no (.one (.loop [(6, (.c (.int .i64)))] (.two .no (.two (.one (.two (.join [(100, (.c .bool))] .no) .no)) .no)))))) .no))))) .no)))
theorem e_hindcastlaw18_Book_looks (t0_ : Option Addr) (H : Heap) (k : Bool → Heap → Prop) : EFun Pg Try.f86 h_hindcastlaw18_Book_looks [.pointer t0_] (.one (.c .bool)) H k = v_hindcastlaw18_Book_looks t0_ H k := by kernel_rfl
theorem c_hindcastlaw18_Book_looks (t0_ : Option Addr) {H : Heap} {k : Bool → Heap → Prop} (h : v_hindcastlaw18_Book_looks t0_ H k) : CallT Pg f_hindcastlaw18_Book_looks [.pointer t0_] (.one (.c .bool)) H k :=
  call_of_E Pg_mixed Try.func86 (by kernel_rfl) (by kernel_rfl) (by kernel_rfl) (by kernel_rfl) ((e_hindcastlaw18_Book_looks t0_ H k).symm ▸ h)
/-- (*hindcast/plan.Plan).there -/
def v_plan_Plan_there (p_ : Option Addr) (n_ : Int) (H : Heap) (k : Bool → Heap → Prop) : Prop :=
    Jn (σ := Bool) /-  -/ (fun kk1 =>
      Br (decide (n_ ≥ 0)) (
        NilCk p_ fun a1 =>
        Ld .sl a1 H fun (x1 : Sl) =>
        kk1 (decide (n_ < (x1.len : Int))) H) (
        kk1 false H)) fun j1 H1 =>
    k j1 H1
def h_plan_Plan_there : Hint := (.two .no (.two (.join [(4, (.c .bool))] .no) .no))
theorem e_plan_Plan_there (p_ : Option Addr) (n_ : Int) (H : Heap) (k : Bool → Heap → Prop) : EFun Pg Try.f87 h_plan_Plan_there [.pointer p_, .int .i64 n_] (.one (.c .bool)) H k = v_plan_Plan_there p_ n_ H k := by kernel_rfl
theorem c_plan_Plan_there (p_ : Option Addr) (n_ : Int) {H : Heap} {k : Bool → Heap → Prop} (h : v_plan_Plan_there p_ n_ H k) : CallT Pg f_plan_Plan_there [.pointer p_, .int .i64 n_] (.one (.c .bool)) H k :=
  call_of_E Pg_mixed Try.func87 (by kernel_rfl) (by kernel_rfl) (by kernel_rfl) (by kernel_rfl) ((e_plan_Plan_there p_ n_ H k).symm ▸ h)
/-- hindcast/hindcastref18.meet -/
def v_hindcastref18_meet (a_ : Sl) (b_ : Sl) (H : Heap) (k : Bool → Heap → Prop) : Prop :=
    LoopT (σ := Int) /- i -/ (fun next1 s1 H1 =>
      Br (decide (s1 < (a_.len : Int))) (
        LoopT (σ := Int) /- k -/ (fun next2 s2 H2 =>
          Br (decide (s2 < (b_.len : Int))) (
            IxA 1 a_ s1 fun a1 =>
            Ld (.int .i64) a1 H2 fun (x1 : Int) =>
            IxA 1 b_ s2 fun a2 =>
            Ld (.int .i64) a2 H2 fun (x2 : Int) =>
            Br (x1 == x2) (
              k true H2) (
              Lt (IntKind.wrap .i64 (s2 + 1)) fun t1 =>
              next2 t1 H2)) (
            Lt (IntKind.wrap .i64 (s1 + 1)) fun t2 =>
            next1 t2 H2)) 0 H1) (
        k false H1)) 0 H
def h_hindcastref18_meet : Hint := (.two .no (.two (.two .no (.one (.loop [(5, (.c (.int .i64)))] (.two .no (.two (.one (.two .no (.one (.loop [(6, (.c (.int .i64)))] .no)))) .no))))) .no))
theorem e_hindcastref18_meet (a_ : Sl) (b_ : Sl) (H : Heap) (k : Bool → Heap → Prop) : EFun Pg Try.f88 h_hindcastref18_meet [.slice a_.a a_.len a_.cap, .slice b_.a b_.len b_.cap] (.one (.c .bool)) H k = v_hindcastref18_meet a_ b_ H k := by kernel_rfl
theorem c_hindcastref18_meet (a_ : Sl) (b_ : Sl) {H : Heap} {k : Bool → Heap → Prop} (h : v_hindcastref18_meet a_ b_ H k) : CallT Pg f_hindcastref18_meet [.slice a_.a a_.len a_.cap, .slice b_.a b_.len b_.cap] (.one (.c .bool)) H k :=
  call_of_E Pg_mixed Try.func88 (by kernel_rfl) (by kernel_rfl) (by kernel_rfl) (by kernel_rfl) ((e_hindcastref18_meet a_ b_ H k).symm ▸ h)
/-- slices.Clone[[]int,int] -/
def v_slices_Clone_Sl_int_int (s_ : Sl) (H : Heap) (k : Sl → Heap → Prop) : Prop :=
    Br s_.a.isNone (
      k ⟨none, 0, 0⟩ H) (
      Nw #[] T_int H fun b1 H1 =>
      App T_int 1 8 #[.int .i64 0] ⟨some (adr b1), 0, 0⟩ s_ H1 fun l1 H2 =>
      k l1 H2)
def h_slices_Clone_Sl_int_int : Hint := .no
theorem e_slices_Clone_Sl_int_int (s_ : Sl) (H : Heap) (k : Sl → Heap → Prop) : EFun Pg Try.f89 h_slices_Clone_Sl_int_int [.slice s_.a s_.len s_.cap] (.one (.c .sl)) H k = v_slices_Clone_Sl_int_int s_ H k := by kernel_rfl
theorem c_slices_Clone_Sl_int_int (s_ : Sl) {H : Heap} {k : Sl → Heap → Prop} (h : v_slices_Clone_Sl_int_int s_ H k) : CallT Pg f_slices_Clone_Sl_int_int [.slice s_.a s_.len s_.cap] (.one (.c .sl)) H k :=
  call_of_E Pg_mixed Try.func89 (by kernel_rfl) (by kernel_rfl) (by kernel_rfl) (by kernel_rfl) ((e_slices_Clone_Sl_int_int s_ H k).symm ▸ h)
/-- slices.Delete[[]int,int] -/
def v_slices_Delete_Sl_int_int (s_ : Sl) (i_ : Int) (j_ : Int) (H : Heap) (k : Sl → Heap → Prop) : Prop :=
    SlA 1 s_ i_ j_ (s_.len : Int) fun l1 =>
    Br (i_ == j_) (
      k s_ H) (
      SlA 1 s_ 0 i_ (s_.cap : Nat) fun l2 =>
      SlA 1 s_ j_ (s_.len : Nat) (s_.cap : Nat) fun l3 =>
      App T_int 1 8 #[.int .i64 0] l2 l3 H fun l4 H1 =>
      SlA 1 l4 (l4.len : Int) (s_.len : Int) (l4.cap : Nat) fun l5 =>
      Clr #[.int .i64 0] l5 H1 fun H2 =>
      k l4 H2)
def h_slices_Delete_Sl_int_int : Hint := .no
theorem e_slices_Delete_Sl_int_int (s_ : Sl) (i_ : Int) (j_ : Int) (H : Heap) (k : Sl → Heap → Prop) : EFun Pg Try.f90 h_slices_Delete_Sl_int_int [.slice s_.a s_.len s_.cap, .int .i64 i_, .int .i64 j_] (.one (.c .sl)) H k = v_slices_Delete_Sl_int_int s_ i_ j_ H k := by kernel_rfl
theorem c_slices_Delete_Sl_int_int (s_ : Sl) (i_ : Int) (j_ : Int) {H : Heap} {k : Sl → Heap → Prop} (h : v_slices_Delete_Sl_int_int s_ i_ j_ H k) : CallT Pg f_slices_Delete_Sl_int_int [.slice s_.a s_.len s_.cap, .int .i64 i_, .int .i64 j_] (.one (.c .sl)) H k :=
  call_of_E Pg_mixed Try.func90 (by kernel_rfl) (by kernel_rfl) (by kernel_rfl) (by kernel_rfl) ((e_slices_Delete_Sl_int_int s_ i_ j_ H k).symm ▸ h)
/-- hindcast/plan.touch -/
def v_plan_touch (a_ : Sl × Sl × Sl × Sl × ByteArray × Int × Int × Sl) (b_ : Sl × Sl × Sl × Sl × ByteArray × Int × Int × Sl) (H : Heap) (k : Bool → Heap → Prop) : Prop :=
    Nw #[.slice a_.1.a a_.1.len a_.1.cap, .slice a_.2.1.a a_.2.1.len a_.2.1.cap, .slice a_.2.2.1.a a_.2.2.1.len a_.2.2.1.cap, .slice a_.2.2.2.1.a a_.2.2.2.1.len a_.2.2.2.1.cap, .string a_.2.2.2.2.1, .int .i64 a_.2.2.2.2.2.1, .int .i64 a_.2.2.2.2.2.2.1, .slice a_.2.2.2.2.2.2.2.a a_.2.2.2.2.2.2.2.len a_.2.2.2.2.2.2.2.cap] T_api_System H fun b1 H1 =>
    Nw #[.slice b_.1.a b_.1.len b_.1.cap, .slice b_.2.1.a b_.2.1.len b_.2.1.cap, .slice b_.2.2.1.a b_.2.2.1.len b_.2.2.1.cap, .slice b_.2.2.2.1.a b_.2.2.2.1.len b_.2.2.2.1.cap, .string b_.2.2.2.2.1, .int .i64 b_.2.2.2.2.2.1, .int .i64 b_.2.2.2.2.2.2.1, .slice b_.2.2.2.2.2.2.2.a b_.2.2.2.2.2.2.2.len b_.2.2.2.2.2.2.2.cap] T_api_System H1 fun b2 H2 =>
    Jn (σ := Bool) /-  -/ (fun kk1 =>
      Ld .sl ((adr b1).add 3) H2 fun (x1 : Sl) =>
      Ld .sl ((adr b2).add 2) H2 fun (x2 : Sl) =>
      CallT Pg f_plan_meet [.slice x1.a x1.len x1.cap, .slice x2.a x2.len x2.cap] (.one (.c .bool)) H2 fun (r1 : Bool) H4 =>
      Br r1 (
        kk1 true H4) (
        Ld .sl ((adr b1).add 3) H4 fun (x3 : Sl) =>
        Ld .sl ((adr b2).add 3) H4 fun (x4 : Sl) =>
        CallT Pg f_plan_meet [.slice x3.a x3.len x3.cap, .slice x4.a x4.len x4.cap] (.one (.c .bool)) H4 fun (r2 : Bool) H5 =>
        kk1 r2 H5)) fun j1 H3 =>
    k j1 H3
def h_plan_touch : Hint := (.two .no (.two (.join [(4, (.c .bool))] .no) .no))
theorem e_plan_touch (a_ : Sl × Sl × Sl × Sl × ByteArray × Int × Int × Sl) (b_ : Sl × Sl × Sl × Sl × ByteArray × Int × Int × Sl) (H : Heap) (k : Bool → Heap → Prop) : EFun Pg Try.f94 h_plan_touch [.agg #[.slice a_.1.a a_.1.len a_.1.cap, .slice a_.2.1.a a_.2.1.len a_.2.1.cap, .slice a_.2.2.1.a a_.2.2.1.len a_.2.2.1.cap, .slice a_.2.2.2.1.a a_.2.2.2.1.len a_.2.2.2.1.cap, .string a_.2.2.2.2.1, .int .i64 a_.2.2.2.2.2.1, .int .i64 a_.2.2.2.2.2.2.1, .slice a_.2.2.2.2.2.2.2.a a_.2.2.2.2.2.2.2.len a_.2.2.2.2.2.2.2.cap], .agg #[.slice b_.1.a b_.1.len b_.1.cap, .slice b_.2.1.a b_.2.1.len b_.2.1.cap, .slice b_.2.2.1.a b_.2.2.1.len b_.2.2.1.cap, .slice b_.2.2.2.1.a b_.2.2.2.1.len b_.2.2.2.1.cap, .string b_.2.2.2.2.1, .int .i64 b_.2.2.2.2.2.1, .int .i64 b_.2.2.2.2.2.2.1, .slice b_.2.2.2.2.2.2.2.a b_.2.2.2.2.2.2.2.len b_.2.2.2.2.2.2.2.cap]] (.one (.c .bool)) H k = v_plan_touch a_ b_ H k := by kernel_rfl
theorem c_plan_touch (a_ : Sl × Sl × Sl × Sl × ByteArray × Int × Int × Sl) (b_ : Sl × Sl × Sl × Sl × ByteArray × Int × Int × Sl) {H : Heap} {k : Bool → Heap → Prop} (h : v_plan_touch a_ b_ H k) : CallT Pg f_plan_touch [.agg #[.slice a_.1.a a_.1.len a_.1.cap, .slice a_.2.1.a a_.2.1.len a_.2.1.cap, .slice a_.2.2.1.a a_.2.2.1.len a_.2.2.1.cap, .slice a_.2.2.2.1.a a_.2.2.2.1.len a_.2.2.2.1.cap, .string a_.2.2.2.2.1, .int .i64 a_.2.2.2.2.2.1, .int .i64 a_.2.2.2.2.2.2.1, .slice a_.2.2.2.2.2.2.2.a a_.2.2.2.2.2.2.2.len a_.2.2.2.2.2.2.2.cap], .agg #[.slice b_.1.a b_.1.len b_.1.cap, .slice b_.2.1.a b_.2.1.len b_.2.1.cap, .slice b_.2.2.1.a b_.2.2.1.len b_.2.2.1.cap, .slice b_.2.2.2.1.a b_.2.2.2.1.len b_.2.2.2.1.cap, .string b_.2.2.2.2.1, .int .i64 b_.2.2.2.2.2.1, .int .i64 b_.2.2.2.2.2.2.1, .slice b_.2.2.2.2.2.2.2.a b_.2.2.2.2.2.2.2.len b_.2.2.2.2.2.2.2.cap]] (.one (.c .bool)) H k :=
  call_of_E Pg_mixed Try.func94 (by kernel_rfl) (by kernel_rfl) (by kernel_rfl) (by kernel_rfl) ((e_plan_touch a_ b_ H k).symm ▸ h)
/-- (*hindcast/hindcastref18.Plan).stage -/
def v_hindcastref18_Plan_stage (p_ : Option Addr) (H : Heap) (k : Sl → Heap → Prop) : Prop :=
    LoopT (σ := Sl × Int) /- out, i -/ (fun next1 s1 H1 =>
      NilCk p_ fun a1 =>
      Ld .sl (a1.add 1) H1 fun (x1 : Sl) =>
      Br (decide (s1.2 < (x1.len : Int))) (
        LoopT (σ := Int × Int) /- s, k -/ (fun next2 s2 H2 =>
          Br (decide (s2.2 < s1.2)) (
            Jn (σ := Int) /- s -/ (fun kk1 =>
              CallT Pg f_hindcastref18_Plan_Conflict [.pointer p_, .int .i64 s2.2, .int .i64 s1.2] (.one (.c .bool)) H2 fun (r1 : Bool) H4 =>
              Jn (σ := Bool) /-  -/ (fun kk2 =>
                Br r1 (
                  IxA 1 s1.1 s2.2 fun a2 =>
                  Ld (.int .i64) a2 H4 fun (x2 : Int) =>
                  Lt (IntKind.wrap .i64 (x2 + 1)) fun t1 =>
                  kk2 (decide (t1 > s2.1)) H4) (
                  kk2 false H4)) fun j2 H5 =>
              Jn (σ := Int) /- s -/ (fun kk3 =>
                Br j2 (
                  IxA 1 s1.1 s2.2 fun a3 =>
                  Ld (.int .i64) a3 H5 fun (x3 : Int) =>
                  Lt (IntKind.wrap .i64 (x3 + 1)) fun t2 =>
                  kk3 t2 H5) (
                  kk3 s2.1 H5)) fun j3 H6 =>
              kk1 j3 H6) fun j1 H3 =>
            Lt (IntKind.wrap .i64 (s2.2 + 1)) fun t3 =>
            next2 (j1, t3) H3) (
            Nw #[.int .i64 s2.1] T_int H2 fun b1 H7 =>
            App T_int 1 8 #[.int .i64 0] s1.1 ⟨some (adr b1), 1, 1⟩ H7 fun l1 H8 =>
            Lt (IntKind.wrap .i64 (s1.2 + 1)) fun t4 =>
            next1 (l1, t4) H8)) (0, 0) H1) (
        k s1.1 H1)) (⟨none, 0, 0⟩, 0) H
def h_hindcastref18_Plan_stage : Hint := (.two .no (.two .no (.two (.two .no (.one (.loop [(3, (.c .sl)), (4, (.c (.int .i64)))] (.two .no (.two (.one (.two .no (.two (.two .no (.one (.loop [(5, (.c (.int .i64))), (6, (.c (.int .i64)))] (.two .no (.two (.join [(5, (.c (.int .i64)))] (.one (.two .no (.two (.join [(35, (.c .bool))] .no) (.join [(5, (.c (.int .i64)))] .no))))) .no))))) .no))) .no))))) .no)))
theorem e_hindcastref18_Plan_stage (p_ : Option Addr) (H : Heap) (k : Sl → Heap → Prop) : EFun Pg Try.f95 h_hindcastref18_Plan_stage [.pointer p_] (.one (.c .sl)) H k = v_hindcastref18_Plan_stage p_ H k := by kernel_rfl
theorem c_hindcastref18_Plan_stage (p_ : Option Addr) {H : Heap} {k : Sl → Heap → Prop} (h : v_hindcastref18_Plan_stage p_ H k) : CallT Pg f_hindcastref18_Plan_stage [.pointer p_] (.one (.c .sl)) H k :=
  call_of_E Pg_mixed Try.func95 (by kernel_rfl) (by kernel_rfl) (by kernel_rfl) (by kernel_rfl) ((e_hindcastref18_Plan_stage p_ H k).symm ▸ h)
/-- hindcast/plan.meet -/
def v_plan_meet (a_ : Sl) (b_ : Sl) (H : Heap) (k : Bool → Heap → Prop) : Prop :=
    Nw #[.slice b_.a b_.len b_.cap] T_Sl_int H fun b1 H1 =>
    CallT Pg f_slices_ContainsFunc_Sl_int_int [.slice a_.a a_.len a_.cap, .func (.func 98) #[] #[.pointer (some (adr b1))]] (.one (.c .bool)) H1 fun (r1 : Bool) H2 =>
    k r1 H2
def h_plan_meet : Hint := .no
theorem e_plan_meet (a_ : Sl) (b_ : Sl) (H : Heap) (k : Bool → Heap → Prop) : EFun Pg Try.f96 h_plan_meet [.slice a_.a a_.len a_.cap, .slice b_.a b_.len b_.cap] (.one (.c .bool)) H k = v_plan_meet a_ b_ H k := by kernel_rfl
theorem c_plan_meet (a_ : Sl) (b_ : Sl) {H : Heap} {k : Bool → Heap → Prop} (h : v_plan_meet a_ b_ H k) : CallT Pg f_plan_meet [.slice a_.a a_.len a_.cap, .slice b_.a b_.len b_.cap] (.one (.c .bool)) H k :=
  call_of_E Pg_mixed Try.func96 (by kernel_rfl) (by kernel_rfl) (by kernel_rfl) (by kernel_rfl) ((e_plan_meet a_ b_ H k).symm ▸ h)
/-- slices.ContainsFunc[[]int,int] -/
def v_slices_ContainsFunc_Sl_int_int__planmeet1 (s_ : Sl) (g1_0_ : Addr) (H : Heap) (k : Bool → Heap → Prop) : Prop :=
    CallT Pg f_slices_IndexFunc_Sl_int_int [.slice s_.a s_.len s_.cap, .func (.func 98) #[] #[.pointer (some g1_0_)]] (.one (.c (.int .i64))) H fun (r1 : Int) H1 =>
    k (decide (r1 ≥ 0)) H1
def h_slices_ContainsFunc_Sl_int_int__planmeet1 : Hint := .no
theorem e_slices_ContainsFunc_Sl_int_int__planmeet1 (s_ : Sl) (g1_0_ : Addr) (H : Heap) (k : Bool → Heap → Prop) : EFun Pg Try.f97 h_slices_ContainsFunc_Sl_int_int__planmeet1 [.slice s_.a s_.len s_.cap, .func (.func 98) #[] #[.pointer (some g1_0_)]] (.one (.c .bool)) H k = v_slices_ContainsFunc_Sl_int_int__planmeet1 s_ g1_0_ H k := by kernel_rfl
theorem c_slices_ContainsFunc_Sl_int_int__planmeet1 (s_ : Sl) (g1_0_ : Addr) {H : Heap} {k : Bool → Heap → Prop} (h : v_slices_ContainsFunc_Sl_int_int__planmeet1 s_ g1_0_ H k) : CallT Pg f_slices_ContainsFunc_Sl_int_int [.slice s_.a s_.len s_.cap, .func (.func 98) #[] #[.pointer (some g1_0_)]] (.one (.c .bool)) H k :=
  call_of_E Pg_mixed Try.func97 (by kernel_rfl) (by kernel_rfl) (by kernel_rfl) (by kernel_rfl) ((e_slices_ContainsFunc_Sl_int_int__planmeet1 s_ g1_0_ H k).symm ▸ h)
/-- hindcast/plan.meet$1 -/
def v_plan_meet_1 (k_ : Int) (free0_ : Addr) (H : Heap) (k : Bool → Heap → Prop) : Prop :=
    Ld .sl free0_ H fun (x1 : Sl) =>
    CallT Pg f_slices_Contains_Sl_int_int [.slice x1.a x1.len x1.cap, .int .i64 k_] (.one (.c .bool)) H fun (r1 : Bool) H1 =>
    k r1 H1
def h_plan_meet_1 : Hint := .no
theorem e_plan_meet_1 (k_ : Int) (free0_ : Addr) (H : Heap) (k : Bool → Heap → Prop) : EFun Pg Try.f98 h_plan_meet_1 [.int .i64 k_, .pointer (some free0_)] (.one (.c .bool)) H k = v_plan_meet_1 k_ free0_ H k := by kernel_rfl
theorem c_plan_meet_1 (k_ : Int) (free0_ : Addr) {H : Heap} {k : Bool → Heap → Prop} (h : v_plan_meet_1 k_ free0_ H k) : CallT Pg f_plan_meet_1 [.int .i64 k_, .pointer (some free0_)] (.one (.c .bool)) H k :=
  call_of_E Pg_mixed Try.func98 (by kernel_rfl) (by kernel_rfl) (by kernel_rfl) (by kernel_rfl) ((e_plan_meet_1 k_ free0_ H k).symm ▸ h)
/-- slices.Contains[[]int,int] -/
def v_slices_Contains_Sl_int_int (s_ : Sl) (v_ : Int) (H : Heap) (k : Bool → Heap → Prop) : Prop :=
    CallT Pg f_slices_Index_Sl_int_int [.slice s_.a s_.len s_.cap, .int .i64 v_] (.one (.c (.int .i64))) H fun (r1 : Int) H1 =>
    k (decide (r1 ≥ 0)) H1
def h_slices_Contains_Sl_int_int : Hint := .no
theorem e_slices_Contains_Sl_int_int (s_ : Sl) (v_ : Int) (H : Heap) (k : Bool → Heap → Prop) : EFun Pg Try.f99 h_slices_Contains_Sl_int_int [.slice s_.a s_.len s_.cap, .int .i64 v_] (.one (.c .bool)) H k = v_slices_Contains_Sl_int_int s_ v_ H k := by kernel_rfl
theorem c_slices_Contains_Sl_int_int (s_ : Sl) (v_ : Int) {H : Heap} {k : Bool → Heap → Prop} (h : v_slices_Contains_Sl_int_int s_ v_ H k) : CallT Pg f_slices_Contains_Sl_int_int [.slice s_.a s_.len s_.cap, .int .i64 v_] (.one (.c .bool)) H k :=
  call_of_E Pg_mixed Try.func99 (by kernel_rfl) (by kernel_rfl) (by kernel_rfl) (by kernel_rfl) ((e_slices_Contains_Sl_int_int s_ v_ H k).symm ▸ h)
/-- slices.IndexFunc[[]int,int] -/
def v_slices_IndexFunc_Sl_int_int__planmeet1 (s_ : Sl) (g1_0_ : Addr) (H : Heap) (k : Int → Heap → Prop) : Prop :=
    LoopT (σ := Int) /-  -/ (fun next1 s1 H1 =>
      Br (decide (s1 < (s_.len : Int))) (
        IxA 1 s_ s1 fun a1 =>
        Ld (.int .i64) a1 H1 fun (x1 : Int) =>
        CallT Pg f_plan_meet_1 [.int .i64 x1, .pointer (some g1_0_)] (.one (.c .bool)) H1 fun (r1 : Bool) H2 =>
        Br r1 (
          k s1 H2) (
          Lt (IntKind.wrap .i64 (s1 + 1)) fun t1 =>
          next1 t1 H2)) (
        k (-1) H1)) 0 H
def h_slices_IndexFunc_Sl_int_int__planmeet1 : Hint := (.two .no (.two (.two .no (.one (.loop [(8, (.c (.int .i64)))] .no))) .no))
theorem e_slices_IndexFunc_Sl_int_int__planmeet1 (s_ : Sl) (g1_0_ : Addr) (H : Heap) (k : Int → Heap → Prop) : EFun Pg Try.f100 h_slices_IndexFunc_Sl_int_int__planmeet1 [.slice s_.a s_.len s_.cap, .func (.func 98) #[] #[.pointer (some g1_0_)]] (.one (.c (.int .i64))) H k = v_slices_IndexFunc_Sl_int_int__planmeet1 s_ g1_0_ H k := by kernel_rfl
theorem c_slices_IndexFunc_Sl_int_int__planmeet1 (s_ : Sl) (g1_0_ : Addr) {H : Heap} {k : Int → Heap → Prop} (h : v_slices_IndexFunc_Sl_int_int__planmeet1 s_ g1_0_ H k) : CallT Pg f_slices_IndexFunc_Sl_int_int [.slice s_.a s_.len s_.cap, .func (.func 98) #[] #[.pointer (some g1_0_)]] (.one (.c (.int .i64))) H k :=
  call_of_E Pg_mixed Try.func100 (by kernel_rfl) (by kernel_rfl) (by kernel_rfl) (by kernel_rfl) ((e_slices_IndexFunc_Sl_int_int__planmeet1 s_ g1_0_ H k).symm ▸ h)
/-- slices.Index[[]int,int] -/
def v_slices_Index_Sl_int_int (s_ : Sl) (v_ : Int) (H : Heap) (k : Int → Heap → Prop) : Prop :=
    LoopT (σ := Int) /-  -/ (fun next1 s1 H1 =>
      Br (decide (s1 < (s_.len : Int))) (
        IxA 1 s_ s1 fun a1 =>
        Ld (.int .i64) a1 H1 fun (x1 : Int) =>
        Br (v_ == x1) (
          k s1 H1) (
          Lt (IntKind.wrap .i64 (s1 + 1)) fun t1 =>
          next1 t1 H1)) (
        k (-1) H1)) 0 H
def h_slices_Index_Sl_int_int : Hint := (.two .no (.two (.two .no (.one (.loop [(8, (.c (.int .i64)))] .no))) .no))
theorem e_slices_Index_Sl_int_int (s_ : Sl) (v_ : Int) (H : Heap) (k : Int → Heap → Prop) : EFun Pg Try.f101 h_slices_Index_Sl_int_int [.slice s_.a s_.len s_.cap, .int .i64 v_] (.one (.c (.int .i64))) H k = v_slices_Index_Sl_int_int s_ v_ H k := by kernel_rfl
theorem c_slices_Index_Sl_int_int (s_ : Sl) (v_ : Int) {H : Heap} {k : Int → Heap → Prop} (h : v_slices_Index_Sl_int_int s_ v_ H k) : CallT Pg f_slices_Index_Sl_int_int [.slice s_.a s_.len s_.cap, .int .i64 v_] (.one (.c (.int .i64))) H k :=
  call_of_E Pg_mixed Try.func101 (by kernel_rfl) (by kernel_rfl) (by kernel_rfl) (by kernel_rfl) ((e_slices_Index_Sl_int_int s_ v_ H k).symm ▸ h)
end Go.Proofs.Ytpkpebgpiakbeaa
