import Derived.Test.YtlkmmplgfjicjaaGreatHcFun
import Derived.KernelRfl
import Derived.Test.YtlkmmplgfjicjaaGreatProg
namespace Go.Proofs.YtlkmmplgfjicjaaGreat
set_option linter.unusedVariables false
set_option linter.unusedSimpArgs false
open Go.Proofs.YtlkmmplgfjicjaaGreat.Hc
noncomputable abbrev Pg : Program := Tryz.prog
abbrev T_2_int : TypeId := 162
abbrev T_4_P_Sl_int : TypeId := 109
abbrev T_65_bool : TypeId := 131
abbrev T_Map_int_bool : TypeId := 82
abbrev T_P_api_Fault : TypeId := 57
abbrev T_P_verify_checker : TypeId := 71
abbrev T_P_verify_flow : TypeId := 79
abbrev T_Sl_int : TypeId := 36
abbrev T_api_Fault : TypeId := 60
abbrev T_api_Instr : TypeId := 28
abbrev T_api_Kind : TypeId := 63
abbrev T_api_Program : TypeId := 25
abbrev T_api_Routine : TypeId := 35
abbrev T_api_System : TypeId := 38
abbrev T_bool : TypeId := 4
abbrev T_code_shape : TypeId := 143
abbrev T_func_int_int_Map_int_bool_bool : TypeId := 120
abbrev T_funcverify_checker_P_api_Fault : TypeId := 76
abbrev T_hindcastref13_row : TypeId := 172
abbrev T_ids_Pool : TypeId := 135
abbrev T_int : TypeId := 3
abbrev T_int64 : TypeId := 2
abbrev T_string : TypeId := 9
abbrev T_uint8 : TypeId := 5
abbrev T_verify_checker : TypeId := 75
abbrev T_verify_flow : TypeId := 85
abbrev T_verify_routine : TypeId := 114
abbrev T_verify_state : TypeId := 154
abbrev T_world_World : TypeId := 106
abbrev f_hindcastlaw15_shown : FuncId := 4
abbrev f_hindcastlaw15_lent : FuncId := 5
abbrev f_hindcastlaw15_pick : FuncId := 7
abbrev f_hindcastlaw15_one : FuncId := 8
abbrev f_hindcastlaw15_fault : FuncId := 9
abbrev f_verify_Verify : FuncId := 10
abbrev f_hindcastlaw15_small : FuncId := 11
abbrev f_verify_Depths : FuncId := 12
abbrev f_hindcastlaw15_set : FuncId := 13
abbrev f_hindcastlaw15_row : FuncId := 14
abbrev f_hindcastlaw15_still : FuncId := 16
abbrev f_world_New : FuncId := 19
abbrev f_verify_fault : FuncId := 20
abbrev f_code_Encode : FuncId := 21
abbrev f_verify_routines : FuncId := 22
abbrev f_verify_checker_sets : FuncId := 23
abbrev f_verify_checker_touches : FuncId := 24
abbrev f_verify_checker_calls : FuncId := 25
abbrev f_verify_checker_ways : FuncId := 26
abbrev f_verify_whole : FuncId := 27
abbrev f_hindcastlaw15_sameSet : FuncId := 28
abbrev f_hindcastlaw15_sameRow : FuncId := 29
abbrev f_hindcastref15_Depths : FuncId := 35
abbrev f_world_may : FuncId := 37
abbrev f_ids_New : FuncId := 38
abbrev f_world_copied : FuncId := 39
abbrev f_code_may : FuncId := 40
abbrev f_code_put : FuncId := 41
abbrev f_code_sets : FuncId := 42
abbrev f_code_putRoutine : FuncId := 43
abbrev f_slices_ContainsFunc_Sl_int_int : FuncId := 44
abbrev f_verify_checker_sets_1 : FuncId := 45
abbrev f_verify_checker_access : FuncId := 46
abbrev f_verify_jumps : FuncId := 47
abbrev f_verify_op : FuncId := 48
abbrev f_verify_checker_calls_1 : FuncId := 49
abbrev f_verify_flow_idle : FuncId := 50
abbrev f_verify_flow_round : FuncId := 51
abbrev f_verify_reach : FuncId := 52
abbrev f_verify_flow_first : FuncId := 53
abbrev f_hindcastref15_reached : FuncId := 59
abbrev f_hindcastref15_wrong : FuncId := 60
abbrev f_hindcastref15_next : FuncId := 61
abbrev f_world_words : FuncId := 62
abbrev f_slices_Clone_Sl_api_Kind_api_Kind : FuncId := 63
abbrev f_slices_Clone_Sl_string_string : FuncId := 64
abbrev f_code_rises : FuncId := 65
abbrev f_code_written : FuncId := 66
abbrev f_pack_Put : FuncId := 67
abbrev f_pack_PutText : FuncId := 68
abbrev f_code_shapeOf : FuncId := 69
abbrev f_pack_PutInt : FuncId := 70
abbrev f_slices_IndexFunc_Sl_int_int : FuncId := 71
abbrev f_verify_outer : FuncId := 72
abbrev f_verify_checker_declared : FuncId := 73
abbrev f_verify_checker_whole : FuncId := 74
abbrev f_verify_row : FuncId := 75
abbrev f_verify_checker_fields : FuncId := 76
abbrev f_verify_next : FuncId := 77
abbrev f_verify_flow_fits : FuncId := 78
abbrev f_verify_there : FuncId := 79
abbrev f_verify_flow_wrong : FuncId := 80
abbrev f_hindcastref13_Effect : FuncId := 83
abbrev f_world_word : FuncId := 84
abbrev f_slices_Contains_Sl_string_string : FuncId := 85
abbrev f_code_sized : FuncId := 86
abbrev f_code_instr : FuncId := 87
abbrev f_pack_add : FuncId := 88
abbrev f_pack_fresh : FuncId := 89
abbrev f_code_reckons : FuncId := 90
abbrev f_code_acts : FuncId := 91
abbrev f_pack_signed : FuncId := 92
abbrev f_slices_Contains_Sl_int_int : FuncId := 93
abbrev f_slices_ContainsFunc_Sl_Sl_int_Sl_int : FuncId := 94
abbrev f_verify_checker_declared_1 : FuncId := 95
abbrev f_code_Effect : FuncId := 96
abbrev f_slices_Contains_Sl_int64_int64 : FuncId := 97
abbrev f_hindcastref13_IsOp : FuncId := 98
abbrev f_hindcastref13_table : FuncId := 100
abbrev f_slices_Index_Sl_string_string : FuncId := 101
abbrev f_code_isOp : FuncId := 102
abbrev f_slices_Index_Sl_int_int : FuncId := 103
abbrev f_slices_IndexFunc_Sl_Sl_int_Sl_int : FuncId := 104
abbrev f_slices_Index_Sl_int64_int64 : FuncId := 105
theorem Pg_mixed : Pg.follows .mixedOrders = true := by kernel_rfl
/-- hindcast/hindcastlaw15.shown -/
def v_hindcastlaw15_shown  (H : Heap) (k : Bool → Heap → Prop) : Prop :=
    Nw #[.int .i64 24, .int .i64 0, .int .i64 4, .int .i64 8, .int .i64 4, .int .i64 16, .int .i64 6, .int .i64 0, .int .i64 5, .int .i64 8, .int .i64 23, .int .i64 0] T_api_Instr H fun b1 H1 =>
    CallT Pg f_hindcastlaw15_one [.slice (some (adr b1)) 6 6] (.one (.agg [.sl, .sl])) H1 fun (r1 : Sl × Sl) H2 =>
    Nw #[.slice none 0 0, .slice none 0 0] T_api_Program H2 fun b2 H3 =>
    St ((adr b2).add 0) (.slice r1.1.a r1.1.len r1.1.cap) H3 fun H4 =>
    St ((adr b2).add 1) (.slice r1.2.a r1.2.len r1.2.cap) H4 fun H5 =>
    LdC [.sl, .sl] (adr b2) H5 fun (c1 : Sl × Sl) =>
    CallT Pg f_hindcastlaw15_small [] (.one (.c .sl)) H5 fun (r2 : Sl) H6 =>
    Stab [((adr b2).add 0, .slice c1.1.a c1.1.len c1.1.cap), ((adr b2).add 1, .slice c1.2.a c1.2.len c1.2.cap)] H6 <|
    CallT Pg f_verify_Verify [.agg #[.slice c1.1.a c1.1.len c1.1.cap, .slice c1.2.a c1.2.len c1.2.cap], .slice r2.a r2.len r2.cap] (.one (.c .raw)) H6 fun (r3 : Value) H7 =>
    CallT Pg f_hindcastlaw15_fault [r3] (.tup [(.c (.int .i64)), (.c (.int .i64)), (.c .bool)]) H7 fun (r4 : Int × Int × Bool) H8 =>
    Stab [((adr b2).add 0, .slice c1.1.a c1.1.len c1.1.cap), ((adr b2).add 1, .slice c1.2.a c1.2.len c1.2.cap)] H8 <|
    LdC [.sl, .sl] (adr b2) H8 fun (c2 : Sl × Sl) =>
    Ld .sl (adr b2) H8 fun (x1 : Sl) =>
    IxA 8 x1 0 fun a1 =>
    LdC [.str, (.int .i64), (.int .i64), .sl] (a1.add 4) H8 fun (c3 : ByteArray × Int × Int × Sl) =>
    CallT Pg f_verify_Depths [.agg #[.slice c2.1.a c2.1.len c2.1.cap, .slice c2.2.a c2.2.len c2.2.cap], .agg #[.string c3.1, .int .i64 c3.2.1, .int .i64 c3.2.2.1, .slice c3.2.2.2.a c3.2.2.2.len c3.2.2.2.cap]] (.tup [(.c .sl), (.c .raw)]) H8 fun (r5 : Sl × Value) H9 =>
    Stab [(adr b2, .slice x1.a x1.len x1.cap)] H9 <|
    Ld .sl (adr b2) H9 fun (x2 : Sl) =>
    IxA 8 x2 0 fun a2 =>
    Ld .sl ((a2.add 4).add 3) H9 fun (x3 : Sl) =>
    IxA 2 x3 4 fun a3 =>
    St (a3.add 1) (.int .i64 16) H9 fun H10 =>
    LdC [.sl, .sl] (adr b2) H10 fun (c4 : Sl × Sl) =>
    CallT Pg f_hindcastlaw15_small [] (.one (.c .sl)) H10 fun (r6 : Sl) H11 =>
    Stab [((adr b2).add 0, .slice c4.1.a c4.1.len c4.1.cap), ((adr b2).add 1, .slice c4.2.a c4.2.len c4.2.cap)] H11 <|
    CallT Pg f_verify_Verify [.agg #[.slice c4.1.a c4.1.len c4.1.cap, .slice c4.2.a c4.2.len c4.2.cap], .slice r6.a r6.len r6.cap] (.one (.c .raw)) H11 fun (r7 : Value) H12 =>
    CallT Pg f_hindcastlaw15_fault [r7] (.tup [(.c (.int .i64)), (.c (.int .i64)), (.c .bool)]) H12 fun (r8 : Int × Int × Bool) H13 =>
    Stab [((adr b2).add 0, .slice c4.1.a c4.1.len c4.1.cap), ((adr b2).add 1, .slice c4.2.a c4.2.len c4.2.cap)] H13 <|
    Nw #[.int .i64 19, .int .i64 0] T_api_Instr H13 fun b3 H14 =>
    CallT Pg f_hindcastlaw15_one [.slice (some (adr b3)) 1 1] (.one (.agg [.sl, .sl])) H14 fun (r9 : Sl × Sl) H15 =>
    Nw #[.slice none 0 0, .slice none 0 0] T_api_Program H15 fun b4 H16 =>
    St ((adr b4).add 0) (.slice r9.1.a r9.1.len r9.1.cap) H16 fun H17 =>
    St ((adr b4).add 1) (.slice r9.2.a r9.2.len r9.2.cap) H17 fun H18 =>
    LdC [.sl, .sl] (adr b4) H18 fun (c5 : Sl × Sl) =>
    CallT Pg f_hindcastlaw15_small [] (.one (.c .sl)) H18 fun (r10 : Sl) H19 =>
    Stab [((adr b4).add 0, .slice c5.1.a c5.1.len c5.1.cap), ((adr b4).add 1, .slice c5.2.a c5.2.len c5.2.cap)] H19 <|
    CallT Pg f_verify_Verify [.agg #[.slice c5.1.a c5.1.len c5.1.cap, .slice c5.2.a c5.2.len c5.2.cap], .slice r10.a r10.len r10.cap] (.one (.c .raw)) H19 fun (r11 : Value) H20 =>
    CallT Pg f_hindcastlaw15_fault [r11] (.tup [(.c (.int .i64)), (.c (.int .i64)), (.c .bool)]) H20 fun (r12 : Int × Int × Bool) H21 =>
    Stab [((adr b4).add 0, .slice c5.1.a c5.1.len c5.1.cap), ((adr b4).add 1, .slice c5.2.a c5.2.len c5.2.cap)] H21 <|
    Jn (σ := Bool) /- t0 -/ (fun kk1 =>
      Br r4.2.2 (
        Br r8.2.2 (
          Br r12.2.2 (
            Br (r4.1 == 0) (
              Br (r4.2.1 == 0) (
                Br (r8.1 == 4) (
                  Br (r8.2.1 == 152) (
                    Br (r12.1 == 0) (
                      Br (r12.2.1 == 153) (
                        IfNil r5.2 fun e1 =>
                        Br e1 (
                          Br ((r5.1.len : Int) == 6) (
                            IxA 1 r5.1 3 fun a4 =>
                            Ld (.int .i64) a4 H21 fun (x4 : Int) =>
                            Br (x4 == 2) (
                              IxA 1 r5.1 5 fun a5 =>
                              Ld (.int .i64) a5 H21 fun (x5 : Int) =>
                              kk1 (x5 == 0) H21) (
                              kk1 false H21)) (
                            kk1 false H21)) (
                          kk1 false H21)) (
                        kk1 false H21)) (
                      kk1 false H21)) (
                    kk1 false H21)) (
                  kk1 false H21)) (
                kk1 false H21)) (
              kk1 false H21)) (
            kk1 false H21)) (
          kk1 false H21)) (
        kk1 false H21)) fun j1 H22 =>
    k j1 H22
def h_hindcastlaw15_shown : Hint := (.two .no (.two .no (.two .no (.two .no (.two .no (.two .no (.two .no (.two .no (.two (.join [(0, (.c .bool))] .no) .no)))))))))
theorem e_hindcastlaw15_shown  (H : Heap) (k : Bool → Heap → Prop) : EFun Pg Tryz.f4 h_hindcastlaw15_shown [] (.one (.c .bool)) H k = v_hindcastlaw15_shown  H k := by kernel_rfl
theorem c_hindcastlaw15_shown  {H : Heap} {k : Bool → Heap → Prop} (h : v_hindcastlaw15_shown  H k) : CallT Pg f_hindcastlaw15_shown [] (.one (.c .bool)) H k :=
  call_of_E Pg_mixed Tryz.func4 (by kernel_rfl) (by kernel_rfl) (by kernel_rfl) (by kernel_rfl) ((e_hindcastlaw15_shown  H k).symm ▸ h)
/-- hindcast/hindcastlaw15.lent -/
def v_hindcastlaw15_lent (t0_ : Sl × Sl) (H : Heap) (k : Sl × Sl → Heap → Prop) : Prop :=
    Nw #[.slice t0_.1.a t0_.1.len t0_.1.cap, .slice t0_.2.a t0_.2.len t0_.2.cap] T_api_Program H fun b1 H1 =>
    Nw #[.slice none 0 0, .slice none 0 0] T_api_Program H1 fun b2 H2 =>
    Nw #[.slice none 0 0, .slice none 0 0] T_api_Program H2 fun b3 H3 =>
    LoopT (σ := Int) /- t4 -/ (fun next1 s1 H4 =>
      Ld .sl (adr b1) H4 fun (x1 : Sl) =>
      Br (decide (s1 < (x1.len : Int))) (
        Ld .sl (adr b1) H4 fun (x2 : Sl) =>
        IxA 8 x2 s1 fun a1 =>
        LdC [.sl, .sl, .sl, .sl, .str, (.int .i64), (.int .i64), .sl] a1 H4 fun (c1 : Sl × Sl × Sl × Sl × ByteArray × Int × Int × Sl) =>
        Nw #[.slice none 0 0, .slice none 0 0, .slice none 0 0, .slice none 0 0, .string ByteArray.empty, .int .i64 0, .int .i64 0, .slice none 0 0] T_api_System H4 fun b4 H5 =>
        St ((adr b4).add 0) (.slice c1.1.a c1.1.len c1.1.cap) H5 fun H6 =>
        St ((adr b4).add 1) (.slice c1.2.1.a c1.2.1.len c1.2.1.cap) H6 fun H7 =>
        St ((adr b4).add 2) (.slice c1.2.2.1.a c1.2.2.1.len c1.2.2.1.cap) H7 fun H8 =>
        St ((adr b4).add 3) (.slice c1.2.2.2.1.a c1.2.2.2.1.len c1.2.2.2.1.cap) H8 fun H9 =>
        St ((adr b4).add 4) (.string c1.2.2.2.2.1) H9 fun H10 =>
        St ((adr b4).add 5) (.int .i64 c1.2.2.2.2.2.1) H10 fun H11 =>
        St ((adr b4).add 6) (.int .i64 c1.2.2.2.2.2.2.1) H11 fun H12 =>
        St ((adr b4).add 7) (.slice c1.2.2.2.2.2.2.2.a c1.2.2.2.2.2.2.2.len c1.2.2.2.2.2.2.2.cap) H12 fun H13 =>
        Ld .sl (adr b4) H13 fun (x3 : Sl) =>
        CallT Pg f_hindcastlaw15_set [.slice x3.a x3.len x3.cap] (.one (.c .sl)) H13 fun (r1 : Sl) H14 =>
        St (adr b4) (.slice r1.a r1.len r1.cap) H14 fun H15 =>
        Ld .sl ((adr b4).add 1) H15 fun (x4 : Sl) =>
        CallT Pg f_hindcastlaw15_set [.slice x4.a x4.len x4.cap] (.one (.c .sl)) H15 fun (r2 : Sl) H16 =>
        St ((adr b4).add 1) (.slice r2.a r2.len r2.cap) H16 fun H17 =>
        Ld .sl ((adr b4).add 2) H17 fun (x5 : Sl) =>
        CallT Pg f_hindcastlaw15_set [.slice x5.a x5.len x5.cap] (.one (.c .sl)) H17 fun (r3 : Sl) H18 =>
        St ((adr b4).add 2) (.slice r3.a r3.len r3.cap) H18 fun H19 =>
        Ld .sl ((adr b4).add 3) H19 fun (x6 : Sl) =>
        CallT Pg f_hindcastlaw15_set [.slice x6.a x6.len x6.cap] (.one (.c .sl)) H19 fun (r4 : Sl) H20 =>
        St ((adr b4).add 3) (.slice r4.a r4.len r4.cap) H20 fun H21 =>
        Ld .sl (((adr b4).add 4).add 3) H21 fun (x7 : Sl) =>
        CallT Pg f_hindcastlaw15_row [.slice x7.a x7.len x7.cap] (.one (.c .sl)) H21 fun (r5 : Sl) H22 =>
        St (((adr b4).add 4).add 3) (.slice r5.a r5.len r5.cap) H22 fun H23 =>
        Ld .sl (adr b3) H23 fun (x8 : Sl) =>
        LdC [.sl, .sl, .sl, .sl, .str, (.int .i64), (.int .i64), .sl] (adr b4) H23 fun (c2 : Sl × Sl × Sl × Sl × ByteArray × Int × Int × Sl) =>
        Nw #[.slice c2.1.a c2.1.len c2.1.cap, .slice c2.2.1.a c2.2.1.len c2.2.1.cap, .slice c2.2.2.1.a c2.2.2.1.len c2.2.2.1.cap, .slice c2.2.2.2.1.a c2.2.2.2.1.len c2.2.2.2.1.cap, .string c2.2.2.2.2.1, .int .i64 c2.2.2.2.2.2.1, .int .i64 c2.2.2.2.2.2.2.1, .slice c2.2.2.2.2.2.2.2.a c2.2.2.2.2.2.2.2.len c2.2.2.2.2.2.2.2.cap] T_api_System H23 fun b5 H24 =>
        App T_api_System 8 152 #[.slice none 0 0, .slice none 0 0, .slice none 0 0, .slice none 0 0, .string ByteArray.empty, .int .i64 0, .int .i64 0, .slice none 0 0] x8 ⟨some (adr b5), 1, 1⟩ H24 fun l1 H25 =>
        St (adr b3) (.slice l1.a l1.len l1.cap) H25 fun H26 =>
        Lt (IntKind.wrap .i64 (s1 + 1)) fun t1 =>
        next1 t1 H26) (
        LoopT (σ := Int) /- t6 -/ (fun next2 s2 H27 =>
          Ld .sl ((adr b1).add 1) H27 fun (x9 : Sl) =>
          Br (decide (s2 < (x9.len : Int))) (
            Ld .sl ((adr b1).add 1) H27 fun (x10 : Sl) =>
            IxA 4 x10 s2 fun a2 =>
            LdC [.str, (.int .i64), (.int .i64), .sl] a2 H27 fun (c3 : ByteArray × Int × Int × Sl) =>
            Nw #[.string ByteArray.empty, .int .i64 0, .int .i64 0, .slice none 0 0] T_api_Routine H27 fun b6 H28 =>
            St ((adr b6).add 0) (.string c3.1) H28 fun H29 =>
            St ((adr b6).add 1) (.int .i64 c3.2.1) H29 fun H30 =>
            St ((adr b6).add 2) (.int .i64 c3.2.2.1) H30 fun H31 =>
            St ((adr b6).add 3) (.slice c3.2.2.2.a c3.2.2.2.len c3.2.2.2.cap) H31 fun H32 =>
            Ld .sl ((adr b6).add 3) H32 fun (x11 : Sl) =>
            CallT Pg f_hindcastlaw15_row [.slice x11.a x11.len x11.cap] (.one (.c .sl)) H32 fun (r6 : Sl) H33 =>
            St ((adr b6).add 3) (.slice r6.a r6.len r6.cap) H33 fun H34 =>
            Ld .sl ((adr b3).add 1) H34 fun (x12 : Sl) =>
            LdC [.str, (.int .i64), (.int .i64), .sl] (adr b6) H34 fun (c4 : ByteArray × Int × Int × Sl) =>
            Nw #[.string c4.1, .int .i64 c4.2.1, .int .i64 c4.2.2.1, .slice c4.2.2.2.a c4.2.2.2.len c4.2.2.2.cap] T_api_Routine H34 fun b7 H35 =>
            App T_api_Routine 4 56 #[.string ByteArray.empty, .int .i64 0, .int .i64 0, .slice none 0 0] x12 ⟨some (adr b7), 1, 1⟩ H35 fun l2 H36 =>
            St ((adr b3).add 1) (.slice l2.a l2.len l2.cap) H36 fun H37 =>
            Lt (IntKind.wrap .i64 (s2 + 1)) fun t2 =>
            next2 t2 H37) (
            Ld .sl (adr b3) H27 fun (x13 : Sl) =>
            Ld .sl ((adr b3).add 1) H27 fun (x14 : Sl) =>
            Ld .sl (adr b3) H27 fun (x15 : Sl) =>
            Nw #[.int .i64 77] T_int H27 fun b8 H38 =>
            Nw #[.slice (some (adr b8)) 1 1, .slice none 0 0, .slice none 0 0, .slice none 0 0, .string ByteArray.empty, .int .i64 0, .int .i64 0, .slice none 0 0] T_api_System H38 fun b9 H39 =>
            App T_api_System 8 152 #[.slice none 0 0, .slice none 0 0, .slice none 0 0, .slice none 0 0, .string ByteArray.empty, .int .i64 0, .int .i64 0, .slice none 0 0] x15 ⟨some (adr b9), 1, 1⟩ H39 fun l3 H40 =>
            SlA 8 l3 0 (x13.len : Int) (l3.cap : Nat) fun l4 =>
            St (adr b3) (.slice l4.a l4.len l4.cap) H40 fun H41 =>
            Ld .sl ((adr b3).add 1) H41 fun (x16 : Sl) =>
            Nw #[.string (⟨#[98, 101, 104, 105, 110, 100]⟩ : ByteArray), .int .i64 0, .int .i64 0, .slice none 0 0] T_api_Routine H41 fun b10 H42 =>
            App T_api_Routine 4 56 #[.string ByteArray.empty, .int .i64 0, .int .i64 0, .slice none 0 0] x16 ⟨some (adr b10), 1, 1⟩ H42 fun l5 H43 =>
            SlA 4 l5 0 (x14.len : Int) (l5.cap : Nat) fun l6 =>
            St ((adr b3).add 1) (.slice l6.a l6.len l6.cap) H43 fun H44 =>
            LdC [.sl, .sl] (adr b3) H44 fun (c5 : Sl × Sl) =>
            St ((adr b2).add 0) (.slice c5.1.a c5.1.len c5.1.cap) H44 fun H45 =>
            St ((adr b2).add 1) (.slice c5.2.a c5.2.len c5.2.cap) H45 fun H46 =>
            LdC [.sl, .sl] (adr b2) H46 fun (c6 : Sl × Sl) =>
            k (c6.1, c6.2) H46)) 0 H4)) 0 H3
def h_hindcastlaw15_lent : Hint := (.two .no (.two .no (.two (.two .no (.one (.loop [(4, (.c (.int .i64)))] .no))) (.two (.two .no (.one (.loop [(6, (.c (.int .i64)))] .no))) .no))))
theorem e_hindcastlaw15_lent (t0_ : Sl × Sl) (H : Heap) (k : Sl × Sl → Heap → Prop) : EFun Pg Tryz.f5 h_hindcastlaw15_lent [.agg #[.slice t0_.1.a t0_.1.len t0_.1.cap, .slice t0_.2.a t0_.2.len t0_.2.cap]] (.one (.agg [.sl, .sl])) H k = v_hindcastlaw15_lent t0_ H k := by kernel_rfl
theorem c_hindcastlaw15_lent (t0_ : Sl × Sl) {H : Heap} {k : Sl × Sl → Heap → Prop} (h : v_hindcastlaw15_lent t0_ H k) : CallT Pg f_hindcastlaw15_lent [.agg #[.slice t0_.1.a t0_.1.len t0_.1.cap, .slice t0_.2.a t0_.2.len t0_.2.cap]] (.one (.agg [.sl, .sl])) H k :=
  call_of_E Pg_mixed Tryz.func5 (by kernel_rfl) (by kernel_rfl) (by kernel_rfl) (by kernel_rfl) ((e_hindcastlaw15_lent t0_ H k).symm ▸ h)
/-- hindcast/hindcastlaw15.pick -/
def v_hindcastlaw15_pick (c_ : Int) (n_ : Int) (H : Heap) (k : Int → Heap → Prop) : Prop :=
    Jn (σ := Int) /- c -/ (fun kk1 =>
      Br (decide (c_ < 0)) (
        Lt (IntKind.wrap .i64 (c_ + 1)) fun t1 =>
        kk1 (IntKind.wrap .i64 (0 - t1)) H) (
        kk1 c_ H)) fun j1 H1 =>
    Rem j1 n_ fun t2 =>
    k t2 H1
def h_hindcastlaw15_pick : Hint := (.two .no (.two (.two .no (.join [(0, (.c (.int .i64)))] .no)) .no))
theorem e_hindcastlaw15_pick (c_ : Int) (n_ : Int) (H : Heap) (k : Int → Heap → Prop) : EFun Pg Tryz.f7 h_hindcastlaw15_pick [.int .i64 c_, .int .i64 n_] (.one (.c (.int .i64))) H k = v_hindcastlaw15_pick c_ n_ H k := by kernel_rfl
theorem c_hindcastlaw15_pick (c_ : Int) (n_ : Int) {H : Heap} {k : Int → Heap → Prop} (h : v_hindcastlaw15_pick c_ n_ H k) : CallT Pg f_hindcastlaw15_pick [.int .i64 c_, .int .i64 n_] (.one (.c (.int .i64))) H k :=
  call_of_E Pg_mixed Tryz.func7 (by kernel_rfl) (by kernel_rfl) (by kernel_rfl) (by kernel_rfl) ((e_hindcastlaw15_pick c_ n_ H k).symm ▸ h)
/-- hindcast/hindcastlaw15.one -/
def v_hindcastlaw15_one (l_ : Sl) (H : Heap) (k : Sl × Sl → Heap → Prop) : Prop :=
    Nw #[.slice none 0 0, .slice none 0 0] T_api_Program H fun b1 H1 =>
    Nw #[.int .i64 2] T_int H1 fun b2 H2 =>
    Nw #[.int .i64 1] T_int H2 fun b3 H3 =>
    Nw #[.slice none 0 0, .slice none 0 0, .slice (some (adr b2)) 1 1, .slice (some (adr b3)) 1 1, .string (⟨#[115]⟩ : ByteArray), .int .i64 0, .int .i64 0, .slice l_.a l_.len l_.cap] T_api_System H3 fun b4 H4 =>
    St ((adr b1).add 0) (.slice (some (adr b4)) 1 1) H4 fun H5 =>
    St ((adr b1).add 1) (.slice none 0 0) H5 fun H6 =>
    LdC [.sl, .sl] (adr b1) H6 fun (c1 : Sl × Sl) =>
    k (c1.1, c1.2) H6
def h_hindcastlaw15_one : Hint := .no
theorem e_hindcastlaw15_one (l_ : Sl) (H : Heap) (k : Sl × Sl → Heap → Prop) : EFun Pg Tryz.f8 h_hindcastlaw15_one [.slice l_.a l_.len l_.cap] (.one (.agg [.sl, .sl])) H k = v_hindcastlaw15_one l_ H k := by kernel_rfl
theorem c_hindcastlaw15_one (l_ : Sl) {H : Heap} {k : Sl × Sl → Heap → Prop} (h : v_hindcastlaw15_one l_ H k) : CallT Pg f_hindcastlaw15_one [.slice l_.a l_.len l_.cap] (.one (.agg [.sl, .sl])) H k :=
  call_of_E Pg_mixed Tryz.func8 (by kernel_rfl) (by kernel_rfl) (by kernel_rfl) (by kernel_rfl) ((e_hindcastlaw15_one l_ H k).symm ▸ h)
/-- hindcast/hindcastlaw15.fault -/
def v_hindcastlaw15_fault (e_ : Value) (H : Heap) (k : Int × Int × Bool → Heap → Prop) : Prop :=
    IfNil e_ fun e1 =>
    Br e1 (
      k (0, 0, true) H) (
      TAs (.c .ptr) T_P_api_Fault none e_ fun (x1 : Option Addr) e2 =>
      Jn (σ := Bool) /-  -/ (fun kk1 =>
        Br (!e2) (
          kk1 true H) (
          kk1 x1.isNone H)) fun j1 H1 =>
      Br j1 (
        k (0, 0, false) H1) (
        NilCk x1 fun a1 =>
        Ld (.int .i64) a1 H1 fun (x2 : Int) =>
        NilCk x1 fun a2 =>
        Ld (.int .i64) (a2.add 1) H1 fun (x3 : Int) =>
        NilCk x1 fun a3 =>
        Ld (.int .i64) (a3.add 1) H1 fun (x4 : Int) =>
        k (x2, x3, x4 != 0) H1))
def h_hindcastlaw15_fault : Hint := (.two .no (.two .no (.two .no (.two (.two (.join [(19, (.c .bool))] .no) .no) .no))))
theorem e_hindcastlaw15_fault (e_ : Value) (H : Heap) (k : Int × Int × Bool → Heap → Prop) : EFun Pg Tryz.f9 h_hindcastlaw15_fault [e_] (.tup [(.c (.int .i64)), (.c (.int .i64)), (.c .bool)]) H k = v_hindcastlaw15_fault e_ H k := by kernel_rfl
theorem c_hindcastlaw15_fault (e_ : Value) {H : Heap} {k : Int × Int × Bool → Heap → Prop} (h : v_hindcastlaw15_fault e_ H k) : CallT Pg f_hindcastlaw15_fault [e_] (.tup [(.c (.int .i64)), (.c (.int .i64)), (.c .bool)]) H k :=
  call_of_E Pg_mixed Tryz.func9 (by kernel_rfl) (by kernel_rfl) (by kernel_rfl) (by kernel_rfl) ((e_hindcastlaw15_fault e_ H k).symm ▸ h)
/-- hindcast/verify.Verify -/
def v_verify_Verify (p_ : Sl × Sl) (kinds_ : Sl) (H : Heap) (k : Value → Heap → Prop) : Prop :=
    Nw #[.slice p_.1.a p_.1.len p_.1.cap, .slice p_.2.a p_.2.len p_.2.cap] T_api_Program H fun b1 H1 =>
    CallT Pg f_world_New [.slice kinds_.a kinds_.len kinds_.cap] (.tup [(.c .ptr), (.c (.int .i64))]) H1 fun (r1 : Option Addr × Int) H2 =>
    Br (r1.2 != 0) (
      CallT Pg f_verify_fault [.int .i64 0, .int .i64 65] (.one (.c .ptr)) H2 fun (r2 : Option Addr) H3 =>
      k ((.iface T_P_api_Fault (.pointer r2))) H3) (
      LdC [.sl, .sl] (adr b1) H2 fun (c1 : Sl × Sl) =>
      CallT Pg f_code_Encode [.agg #[.slice c1.1.a c1.1.len c1.1.cap, .slice c1.2.a c1.2.len c1.2.cap]] (.tup [(.c .sl), (.c (.int .i64))]) H2 fun (r3 : Sl × Int) H4 =>
      Br (r3.2 != 0) (
        CallT Pg f_verify_fault [.int .i64 0, .int .i64 130] (.one (.c .ptr)) H4 fun (r4 : Option Addr) H5 =>
        k ((.iface T_P_api_Fault (.pointer r4))) H5) (
        LdC [.sl, .sl] (adr b1) H4 fun (c2 : Sl × Sl) =>
        LdC [.sl, .sl] (adr b1) H4 fun (c3 : Sl × Sl) =>
        CallT Pg f_verify_routines [.agg #[.slice c3.1.a c3.1.len c3.1.cap, .slice c3.2.a c3.2.len c3.2.cap]] (.one (.c .sl)) H4 fun (r5 : Sl) H6 =>
        Stab [((adr b1).add 0, .slice c2.1.a c2.1.len c2.1.cap), ((adr b1).add 1, .slice c2.2.a c2.2.len c2.2.cap)] H6 <|
        Nw #[.slice c2.1.a c2.1.len c2.1.cap, .slice c2.2.a c2.2.len c2.2.cap, .slice kinds_.a kinds_.len kinds_.cap, .slice r5.a r5.len r5.cap] T_verify_checker H6 fun b2 H7 =>
        Stab [((adr b1).add 0, .slice c3.1.a c3.1.len c3.1.cap), ((adr b1).add 1, .slice c3.2.a c3.2.len c3.2.cap), ((adr b1).add 0, .slice c2.1.a c2.1.len c2.1.cap), ((adr b1).add 1, .slice c2.2.a c2.2.len c2.2.cap)] H7 <|
        Nw #[.func (.func 23) #[] #[], .func (.func 24) #[] #[], .func (.func 25) #[] #[], .func (.func 26) #[] #[]] T_funcverify_checker_P_api_Fault H7 fun b3 H8 =>
        LoopT (σ := Int) /-  -/ (fun next1 s1 H9 =>
          Br (decide (s1 < 4)) (
            IxA 1 ⟨some (adr b3), 4, 4⟩ s1 fun a1 =>
            Ld .raw a1 H9 fun (x1 : Value) =>
            CallX Pg x1 [.pointer (some (adr b2))] (.one (.c .ptr)) H9 fun (r6 : Option Addr) H10 =>
            Br (!r6.isNone) (
              k ((.iface T_P_api_Fault (.pointer r6))) H10) (
              Lt (IntKind.wrap .i64 (s1 + 1)) fun t1 =>
              next1 t1 H10)) (
            k (.nilIface) H9)) 0 H8))
def h_verify_Verify : Hint := (.two .no (.two .no (.two .no (.two .no (.two (.two .no (.one (.loop [(39, (.c (.int .i64)))] .no))) .no)))))
theorem e_verify_Verify (p_ : Sl × Sl) (kinds_ : Sl) (H : Heap) (k : Value → Heap → Prop) : EFun Pg Tryz.f10 h_verify_Verify [.agg #[.slice p_.1.a p_.1.len p_.1.cap, .slice p_.2.a p_.2.len p_.2.cap], .slice kinds_.a kinds_.len kinds_.cap] (.one (.c .raw)) H k = v_verify_Verify p_ kinds_ H k := by kernel_rfl
theorem c_verify_Verify (p_ : Sl × Sl) (kinds_ : Sl) {H : Heap} {k : Value → Heap → Prop} (h : v_verify_Verify p_ kinds_ H k) : CallT Pg f_verify_Verify [.agg #[.slice p_.1.a p_.1.len p_.1.cap, .slice p_.2.a p_.2.len p_.2.cap], .slice kinds_.a kinds_.len kinds_.cap] (.one (.c .raw)) H k :=
  call_of_E Pg_mixed Tryz.func10 (by kernel_rfl) (by kernel_rfl) (by kernel_rfl) (by kernel_rfl) ((e_verify_Verify p_ kinds_ H k).symm ▸ h)
/-- hindcast/hindcastlaw15.small -/
def v_hindcastlaw15_small  (H : Heap) (k : Sl → Heap → Prop) : Prop :=
    Nw #[.string (⟨#[120]⟩ : ByteArray)] T_string H fun b1 H1 =>
    Nw #[.string (⟨#[120]⟩ : ByteArray)] T_string H1 fun b2 H2 =>
    Nw #[.string (⟨#[80, 111, 115]⟩ : ByteArray), .slice (some (adr b1)) 1 1, .string (⟨#[86, 101, 108]⟩ : ByteArray), .slice (some (adr b2)) 1 1] T_api_Kind H2 fun b3 H3 =>
    k ⟨some (adr b3), 2, 2⟩ H3
def h_hindcastlaw15_small : Hint := .no
theorem e_hindcastlaw15_small  (H : Heap) (k : Sl → Heap → Prop) : EFun Pg Tryz.f11 h_hindcastlaw15_small [] (.one (.c .sl)) H k = v_hindcastlaw15_small  H k := by kernel_rfl
theorem c_hindcastlaw15_small  {H : Heap} {k : Sl → Heap → Prop} (h : v_hindcastlaw15_small  H k) : CallT Pg f_hindcastlaw15_small [] (.one (.c .sl)) H k :=
  call_of_E Pg_mixed Tryz.func11 (by kernel_rfl) (by kernel_rfl) (by kernel_rfl) (by kernel_rfl) ((e_hindcastlaw15_small  H k).symm ▸ h)
/-- hindcast/verify.Depths -/
def v_verify_Depths (p_ : Sl × Sl) (r_ : ByteArray × Int × Int × Sl) (H : Heap) (k : Sl × Value → Heap → Prop) : Prop :=
    Nw #[.slice p_.1.a p_.1.len p_.1.cap, .slice p_.2.a p_.2.len p_.2.cap] T_api_Program H fun b1 H1 =>
    Nw #[.string r_.1, .int .i64 r_.2.1, .int .i64 r_.2.2.1, .slice r_.2.2.2.a r_.2.2.2.len r_.2.2.2.cap] T_api_Routine H1 fun b2 H2 =>
    Ld .sl ((adr b2).add 3) H2 fun (x1 : Sl) =>
    Br (decide ((x1.len : Int) > 2000)) (
      CallT Pg f_verify_fault [.int .i64 0, .int .i64 130] (.one (.c .ptr)) H2 fun (r1 : Option Addr) H3 =>
      k ((⟨none, 0, 0⟩, (.iface T_P_api_Fault (.pointer r1)))) H3) (
      LdC [.str, (.int .i64), (.int .i64), .sl] (adr b2) H2 fun (c1 : ByteArray × Int × Int × Sl) =>
      Ld .sl ((adr b1).add 1) H2 fun (x2 : Sl) =>
      CallT Pg f_verify_whole [.agg #[.string c1.1, .int .i64 c1.2.1, .int .i64 c1.2.2.1, .slice c1.2.2.2.a c1.2.2.2.len c1.2.2.2.cap], .slice x2.a x2.len x2.cap] (.tup [(.c .ptr), (.c .ptr)]) H2 fun (r2 : Option Addr × Option Addr) H4 =>
      Br (!r2.2.isNone) (
        k ((⟨none, 0, 0⟩, (.iface T_P_api_Fault (.pointer r2.2)))) H4) (
        Ld .sl ((adr b2).add 3) H4 fun (x3 : Sl) =>
        Mks T_int 1 8 #[.int .i64 0] (x3.len : Int) (x3.len : Int) H4 fun l1 H5 =>
        LoopT (σ := Int) /-  -/ (fun next1 s1 H6 =>
          Br (decide (s1 < (l1.len : Int))) (
            IxA 1 l1 s1 fun a1 =>
            St a1 (.int .i64 (-1)) H6 fun H7 =>
            NilCk r2.1 fun a2 =>
            Ld .sl (a2.add 5) H7 fun (x4 : Sl) =>
            IxA 1 x4 s1 fun a3 =>
            Ld .raw a3 H7 fun (x5 : Value) =>
            MpR x5 H7 fun a4 H8 =>
            LoopT (σ := Unit) /-  -/ (fun next2 s2 H9 =>
              MpXk a4 H9 (fun H10 =>
              Lt (IntKind.wrap .i64 (s1 + 1)) fun t1 =>
              next1 t1 H10) fun (x6 : Value) (y1 : Value) H11 =>
              MpC a4 H11 fun (x7 : Value) (y2 : Value) =>
              AsI .i64 x7 fun n1 =>
              IxA 1 l1 s1 fun a5 =>
              St a5 (.int .i64 n1) H11 fun H12 =>
              next2 () H12) () H8) (
            k ((l1, (.nilIface))) H6)) 0 H5))
def h_verify_Depths : Hint := (.two .no (.two .no (.two .no (.two .no (.two .no (.two (.two .no (.one (.loop [(34, (.c (.int .i64)))] (.two .no (.two .no (.two (.one (.two .no (.two .no (.two .no (.one (.loop [] .no)))))) .no)))))) .no))))))
theorem e_verify_Depths (p_ : Sl × Sl) (r_ : ByteArray × Int × Int × Sl) (H : Heap) (k : Sl × Value → Heap → Prop) : EFun Pg Tryz.f12 h_verify_Depths [.agg #[.slice p_.1.a p_.1.len p_.1.cap, .slice p_.2.a p_.2.len p_.2.cap], .agg #[.string r_.1, .int .i64 r_.2.1, .int .i64 r_.2.2.1, .slice r_.2.2.2.a r_.2.2.2.len r_.2.2.2.cap]] (.tup [(.c .sl), (.c .raw)]) H k = v_verify_Depths p_ r_ H k := by kernel_rfl
theorem c_verify_Depths (p_ : Sl × Sl) (r_ : ByteArray × Int × Int × Sl) {H : Heap} {k : Sl × Value → Heap → Prop} (h : v_verify_Depths p_ r_ H k) : CallT Pg f_verify_Depths [.agg #[.slice p_.1.a p_.1.len p_.1.cap, .slice p_.2.a p_.2.len p_.2.cap], .agg #[.string r_.1, .int .i64 r_.2.1, .int .i64 r_.2.2.1, .slice r_.2.2.2.a r_.2.2.2.len r_.2.2.2.cap]] (.tup [(.c .sl), (.c .raw)]) H k :=
  call_of_E Pg_mixed Tryz.func12 (by kernel_rfl) (by kernel_rfl) (by kernel_rfl) (by kernel_rfl) ((e_verify_Depths p_ r_ H k).symm ▸ h)
/-- hindcast/hindcastlaw15.set -/
def v_hindcastlaw15_set (l_ : Sl) (H : Heap) (k : Sl → Heap → Prop) : Prop :=
    App T_int 1 8 #[.int .i64 0] ⟨none, 0, 0⟩ l_ H fun l1 H1 =>
    Nw #[.int .i64 77, .int .i64 77] T_int H1 fun b1 H2 =>
    App T_int 1 8 #[.int .i64 0] l1 ⟨some (adr b1), 2, 2⟩ H2 fun l2 H3 =>
    SlA 1 l2 0 (l_.len : Int) (l2.cap : Nat) fun l3 =>
    k l3 H3
def h_hindcastlaw15_set : Hint := .no
theorem e_hindcastlaw15_set (l_ : Sl) (H : Heap) (k : Sl → Heap → Prop) : EFun Pg Tryz.f13 h_hindcastlaw15_set [.slice l_.a l_.len l_.cap] (.one (.c .sl)) H k = v_hindcastlaw15_set l_ H k := by kernel_rfl
theorem c_hindcastlaw15_set (l_ : Sl) {H : Heap} {k : Sl → Heap → Prop} (h : v_hindcastlaw15_set l_ H k) : CallT Pg f_hindcastlaw15_set [.slice l_.a l_.len l_.cap] (.one (.c .sl)) H k :=
  call_of_E Pg_mixed Tryz.func13 (by kernel_rfl) (by kernel_rfl) (by kernel_rfl) (by kernel_rfl) ((e_hindcastlaw15_set l_ H k).symm ▸ h)
/-- hindcast/hindcastlaw15.row -/
def v_hindcastlaw15_row (l_ : Sl) (H : Heap) (k : Sl → Heap → Prop) : Prop :=
    App T_api_Instr 2 16 #[.int .i64 0, .int .i64 0] ⟨none, 0, 0⟩ l_ H fun l1 H1 =>
    LoopT (σ := Sl × Int) /- out, i -/ (fun next1 s1 H2 =>
      Br (decide (s1.2 < 8)) (
        Nw #[.int .i64 77, .int .i64 0] T_api_Instr H2 fun b1 H3 =>
        App T_api_Instr 2 16 #[.int .i64 0, .int .i64 0] s1.1 ⟨some (adr b1), 1, 1⟩ H3 fun l2 H4 =>
        Lt (IntKind.wrap .i64 (s1.2 + 1)) fun t1 =>
        next1 (l2, t1) H4) (
        SlA 2 s1.1 0 (l_.len : Int) (s1.1.cap : Nat) fun l3 =>
        k l3 H2)) (l1, 0) H1
def h_hindcastlaw15_row : Hint := (.two .no (.two .no (.two .no (.two (.two .no (.one (.loop [(3, (.c .sl)), (4, (.c (.int .i64)))] .no))) .no))))
theorem e_hindcastlaw15_row (l_ : Sl) (H : Heap) (k : Sl → Heap → Prop) : EFun Pg Tryz.f14 h_hindcastlaw15_row [.slice l_.a l_.len l_.cap] (.one (.c .sl)) H k = v_hindcastlaw15_row l_ H k := by kernel_rfl
theorem c_hindcastlaw15_row (l_ : Sl) {H : Heap} {k : Sl → Heap → Prop} (h : v_hindcastlaw15_row l_ H k) : CallT Pg f_hindcastlaw15_row [.slice l_.a l_.len l_.cap] (.one (.c .sl)) H k :=
  call_of_E Pg_mixed Tryz.func14 (by kernel_rfl) (by kernel_rfl) (by kernel_rfl) (by kernel_rfl) ((e_hindcastlaw15_row l_ H k).symm ▸ h)
/-- hindcast/hindcastlaw15.still -/
def v_hindcastlaw15_still (t0_ : Sl × Sl) (t1_ : Sl × Sl) (H : Heap) (k : Bool → Heap → Prop) : Prop :=
    Nw #[.slice t0_.1.a t0_.1.len t0_.1.cap, .slice t0_.2.a t0_.2.len t0_.2.cap] T_api_Program H fun b1 H1 =>
    Nw #[.slice t1_.1.a t1_.1.len t1_.1.cap, .slice t1_.2.a t1_.2.len t1_.2.cap] T_api_Program H1 fun b2 H2 =>
    Jn (σ := Bool) /- t35 -/ (fun kk1 =>
      Ld .sl (adr b1) H2 fun (x1 : Sl) =>
      Ld .sl (adr b2) H2 fun (x2 : Sl) =>
      Br ((x1.len : Int) != (x2.len : Int)) (
        kk1 true H2) (
        Ld .sl ((adr b1).add 1) H2 fun (x3 : Sl) =>
        Ld .sl ((adr b2).add 1) H2 fun (x4 : Sl) =>
        kk1 ((x3.len : Int) != (x4.len : Int)) H2)) fun j1 H3 =>
    Br j1 (
      k false H3) (
      LoopT (σ := Int) /- t5 -/ (fun next1 s1 H4 =>
        Ld .sl (adr b2) H4 fun (x5 : Sl) =>
        Br (decide (s1 < (x5.len : Int))) (
          Ld .sl (adr b1) H4 fun (x6 : Sl) =>
          IxA 8 x6 s1 fun a1 =>
          LdC [.sl, .sl, .sl, .sl, .str, (.int .i64), (.int .i64), .sl] a1 H4 fun (c1 : Sl × Sl × Sl × Sl × ByteArray × Int × Int × Sl) =>
          Nw #[.slice none 0 0, .slice none 0 0, .slice none 0 0, .slice none 0 0, .string ByteArray.empty, .int .i64 0, .int .i64 0, .slice none 0 0] T_api_System H4 fun b3 H5 =>
          St ((adr b3).add 0) (.slice c1.1.a c1.1.len c1.1.cap) H5 fun H6 =>
          St ((adr b3).add 1) (.slice c1.2.1.a c1.2.1.len c1.2.1.cap) H6 fun H7 =>
          St ((adr b3).add 2) (.slice c1.2.2.1.a c1.2.2.1.len c1.2.2.1.cap) H7 fun H8 =>
          St ((adr b3).add 3) (.slice c1.2.2.2.1.a c1.2.2.2.1.len c1.2.2.2.1.cap) H8 fun H9 =>
          St ((adr b3).add 4) (.string c1.2.2.2.2.1) H9 fun H10 =>
          St ((adr b3).add 5) (.int .i64 c1.2.2.2.2.2.1) H10 fun H11 =>
          St ((adr b3).add 6) (.int .i64 c1.2.2.2.2.2.2.1) H11 fun H12 =>
          St ((adr b3).add 7) (.slice c1.2.2.2.2.2.2.2.a c1.2.2.2.2.2.2.2.len c1.2.2.2.2.2.2.2.cap) H12 fun H13 =>
          Ld .sl (adr b2) H13 fun (x7 : Sl) =>
          IxA 8 x7 s1 fun a2 =>
          LdC [.sl, .sl, .sl, .sl, .str, (.int .i64), (.int .i64), .sl] a2 H13 fun (c2 : Sl × Sl × Sl × Sl × ByteArray × Int × Int × Sl) =>
          Nw #[.slice none 0 0, .slice none 0 0, .slice none 0 0, .slice none 0 0, .string ByteArray.empty, .int .i64 0, .int .i64 0, .slice none 0 0] T_api_System H13 fun b4 H14 =>
          St ((adr b4).add 0) (.slice c2.1.a c2.1.len c2.1.cap) H14 fun H15 =>
          St ((adr b4).add 1) (.slice c2.2.1.a c2.2.1.len c2.2.1.cap) H15 fun H16 =>
          St ((adr b4).add 2) (.slice c2.2.2.1.a c2.2.2.1.len c2.2.2.1.cap) H16 fun H17 =>
          St ((adr b4).add 3) (.slice c2.2.2.2.1.a c2.2.2.2.1.len c2.2.2.2.1.cap) H17 fun H18 =>
          St ((adr b4).add 4) (.string c2.2.2.2.2.1) H18 fun H19 =>
          St ((adr b4).add 5) (.int .i64 c2.2.2.2.2.2.1) H19 fun H20 =>
          St ((adr b4).add 6) (.int .i64 c2.2.2.2.2.2.2.1) H20 fun H21 =>
          St ((adr b4).add 7) (.slice c2.2.2.2.2.2.2.2.a c2.2.2.2.2.2.2.2.len c2.2.2.2.2.2.2.2.cap) H21 fun H22 =>
          Ld .sl (adr b3) H22 fun (x8 : Sl) =>
          Ld .sl (adr b4) H22 fun (x9 : Sl) =>
          CallT Pg f_hindcastlaw15_sameSet [.slice x8.a x8.len x8.cap, .slice x9.a x9.len x9.cap] (.one (.c .bool)) H22 fun (r1 : Bool) H23 =>
          Ld .sl ((adr b3).add 1) H23 fun (x10 : Sl) =>
          Ld .sl ((adr b4).add 1) H23 fun (x11 : Sl) =>
          CallT Pg f_hindcastlaw15_sameSet [.slice x10.a x10.len x10.cap, .slice x11.a x11.len x11.cap] (.one (.c .bool)) H23 fun (r2 : Bool) H24 =>
          Ld .sl ((adr b3).add 2) H24 fun (x12 : Sl) =>
          Ld .sl ((adr b4).add 2) H24 fun (x13 : Sl) =>
          CallT Pg f_hindcastlaw15_sameSet [.slice x12.a x12.len x12.cap, .slice x13.a x13.len x13.cap] (.one (.c .bool)) H24 fun (r3 : Bool) H25 =>
          Ld .sl ((adr b3).add 3) H25 fun (x14 : Sl) =>
          Ld .sl ((adr b4).add 3) H25 fun (x15 : Sl) =>
          CallT Pg f_hindcastlaw15_sameSet [.slice x14.a x14.len x14.cap, .slice x15.a x15.len x15.cap] (.one (.c .bool)) H25 fun (r4 : Bool) H26 =>
          Ld .sl (((adr b3).add 4).add 3) H26 fun (x16 : Sl) =>
          Ld .sl (((adr b4).add 4).add 3) H26 fun (x17 : Sl) =>
          CallT Pg f_hindcastlaw15_sameRow [.slice x16.a x16.len x16.cap, .slice x17.a x17.len x17.cap] (.one (.c .bool)) H26 fun (r5 : Bool) H27 =>
          Jn (σ := Bool) /- t124 -/ (fun kk2 =>
            Br (!r1) (
              kk2 true H27) (
              Br (!r2) (
                kk2 true H27) (
                Br (!r3) (
                  kk2 true H27) (
                  Br (!r4) (
                    kk2 true H27) (
                    Br (!r5) (
                      kk2 true H27) (
                      Ld .str ((adr b3).add 4) H27 fun (x18 : ByteArray) =>
                      Ld .str ((adr b4).add 4) H27 fun (x19 : ByteArray) =>
                      Br (!(x18.toList == x19.toList)) (
                        kk2 true H27) (
                        Ld (.int .i64) (((adr b3).add 4).add 1) H27 fun (x20 : Int) =>
                        Ld (.int .i64) (((adr b4).add 4).add 1) H27 fun (x21 : Int) =>
                        Br (x20 != x21) (
                          kk2 true H27) (
                          Ld (.int .i64) (((adr b3).add 4).add 2) H27 fun (x22 : Int) =>
                          Ld (.int .i64) (((adr b4).add 4).add 2) H27 fun (x23 : Int) =>
                          kk2 (x22 != x23) H27)))))))) fun j2 H28 =>
          Br j2 (
            k false H28) (
            Lt (IntKind.wrap .i64 (s1 + 1)) fun t1 =>
            next1 t1 H28)) (
          LoopT (σ := Int) /- t13 -/ (fun next2 s2 H29 =>
            Ld .sl ((adr b2).add 1) H29 fun (x24 : Sl) =>
            Br (decide (s2 < (x24.len : Int))) (
              Ld .sl ((adr b1).add 1) H29 fun (x25 : Sl) =>
              IxA 4 x25 s2 fun a3 =>
              LdC [.str, (.int .i64), (.int .i64), .sl] a3 H29 fun (c3 : ByteArray × Int × Int × Sl) =>
              Nw #[.string ByteArray.empty, .int .i64 0, .int .i64 0, .slice none 0 0] T_api_Routine H29 fun b5 H30 =>
              St ((adr b5).add 0) (.string c3.1) H30 fun H31 =>
              St ((adr b5).add 1) (.int .i64 c3.2.1) H31 fun H32 =>
              St ((adr b5).add 2) (.int .i64 c3.2.2.1) H32 fun H33 =>
              St ((adr b5).add 3) (.slice c3.2.2.2.a c3.2.2.2.len c3.2.2.2.cap) H33 fun H34 =>
              Ld .sl ((adr b2).add 1) H34 fun (x26 : Sl) =>
              IxA 4 x26 s2 fun a4 =>
              LdC [.str, (.int .i64), (.int .i64), .sl] a4 H34 fun (c4 : ByteArray × Int × Int × Sl) =>
              Nw #[.string ByteArray.empty, .int .i64 0, .int .i64 0, .slice none 0 0] T_api_Routine H34 fun b6 H35 =>
              St ((adr b6).add 0) (.string c4.1) H35 fun H36 =>
              St ((adr b6).add 1) (.int .i64 c4.2.1) H36 fun H37 =>
              St ((adr b6).add 2) (.int .i64 c4.2.2.1) H37 fun H38 =>
              St ((adr b6).add 3) (.slice c4.2.2.2.a c4.2.2.2.len c4.2.2.2.cap) H38 fun H39 =>
              Ld .sl ((adr b5).add 3) H39 fun (x27 : Sl) =>
              Ld .sl ((adr b6).add 3) H39 fun (x28 : Sl) =>
              CallT Pg f_hindcastlaw15_sameRow [.slice x27.a x27.len x27.cap, .slice x28.a x28.len x28.cap] (.one (.c .bool)) H39 fun (r6 : Bool) H40 =>
              Jn (σ := Bool) /- t169 -/ (fun kk3 =>
                Br (!r6) (
                  kk3 true H40) (
                  Ld .str (adr b5) H40 fun (x29 : ByteArray) =>
                  Ld .str (adr b6) H40 fun (x30 : ByteArray) =>
                  Br (!(x29.toList == x30.toList)) (
                    kk3 true H40) (
                    Ld (.int .i64) ((adr b5).add 1) H40 fun (x31 : Int) =>
                    Ld (.int .i64) ((adr b6).add 1) H40 fun (x32 : Int) =>
                    Br (x31 != x32) (
                      kk3 true H40) (
                      Ld (.int .i64) ((adr b5).add 2) H40 fun (x33 : Int) =>
                      Ld (.int .i64) ((adr b6).add 2) H40 fun (x34 : Int) =>
                      kk3 (x33 != x34) H40)))) fun j3 H41 =>
              Br j3 (
                k false H41) (
                Lt (IntKind.wrap .i64 (s2 + 1)) fun t2 =>
                next2 t2 H41)) (
              Ld .sl (adr b1) H29 fun (x35 : Sl) =>
              Ld .sl (adr b2) H29 fun (x36 : Sl) =>
              Lt (IntKind.wrap .i64 ((x36.len : Int) + 1)) fun t3 =>
              SlA 8 x35 0 t3 (x35.cap : Nat) fun l1 =>
              Ld .sl ((adr b1).add 1) H29 fun (x37 : Sl) =>
              Ld .sl ((adr b2).add 1) H29 fun (x38 : Sl) =>
              Lt (IntKind.wrap .i64 ((x38.len : Int) + 1)) fun t4 =>
              SlA 4 x37 0 t4 (x37.cap : Nat) fun l2 =>
              Ld .sl (adr b2) H29 fun (x39 : Sl) =>
              IxA 8 l1 (x39.len : Int) fun a5 =>
              LdC [.sl, .sl, .sl, .sl, .str, (.int .i64), (.int .i64), .sl] a5 H29 fun (c5 : Sl × Sl × Sl × Sl × ByteArray × Int × Int × Sl) =>
              Nw #[.slice none 0 0, .slice none 0 0, .slice none 0 0, .slice none 0 0, .string ByteArray.empty, .int .i64 0, .int .i64 0, .slice none 0 0] T_api_System H29 fun b7 H42 =>
              St ((adr b7).add 0) (.slice c5.1.a c5.1.len c5.1.cap) H42 fun H43 =>
              St ((adr b7).add 1) (.slice c5.2.1.a c5.2.1.len c5.2.1.cap) H43 fun H44 =>
              St ((adr b7).add 2) (.slice c5.2.2.1.a c5.2.2.1.len c5.2.2.1.cap) H44 fun H45 =>
              St ((adr b7).add 3) (.slice c5.2.2.2.1.a c5.2.2.2.1.len c5.2.2.2.1.cap) H45 fun H46 =>
              St ((adr b7).add 4) (.string c5.2.2.2.2.1) H46 fun H47 =>
              St ((adr b7).add 5) (.int .i64 c5.2.2.2.2.2.1) H47 fun H48 =>
              St ((adr b7).add 6) (.int .i64 c5.2.2.2.2.2.2.1) H48 fun H49 =>
              St ((adr b7).add 7) (.slice c5.2.2.2.2.2.2.2.a c5.2.2.2.2.2.2.2.len c5.2.2.2.2.2.2.2.cap) H49 fun H50 =>
              Jn (σ := Bool) /- t4 -/ (fun kk4 =>
                Ld .sl (adr b7) H50 fun (x40 : Sl) =>
                Br ((x40.len : Int) == 1) (
                  Ld .sl (adr b7) H50 fun (x41 : Sl) =>
                  IxA 1 x41 0 fun a6 =>
                  Ld (.int .i64) a6 H50 fun (x42 : Int) =>
                  Br (x42 == 77) (
                    Ld .sl ((adr b2).add 1) H50 fun (x43 : Sl) =>
                    IxA 4 l2 (x43.len : Int) fun a7 =>
                    Ld .str a7 H50 fun (x44 : ByteArray) =>
                    kk4 ((x44.toList == (⟨#[98, 101, 104, 105, 110, 100]⟩ : ByteArray).toList)) H50) (
                    kk4 false H50)) (
                  kk4 false H50)) fun j4 H51 =>
              k j4 H51)) 0 H4)) 0 H3)
def h_hindcastlaw15_still : Hint := (.two .no (.two (.two (.join [(35, (.c .bool))] .no) .no) (.two (.two .no (.one (.loop [(5, (.c (.int .i64)))] (.two .no (.two (.one (.two .no (.two .no (.two .no (.two .no (.two .no (.two .no (.two .no (.two (.join [(124, (.c .bool))] .no) .no))))))))) .no))))) (.two (.two .no (.one (.loop [(13, (.c (.int .i64)))] (.two .no (.two (.one (.two .no (.two .no (.two .no (.two (.join [(169, (.c .bool))] .no) .no))))) .no))))) (.two .no (.two .no (.two .no (.two (.join [(4, (.c .bool))] .no) .no))))))))
theorem e_hindcastlaw15_still (t0_ : Sl × Sl) (t1_ : Sl × Sl) (H : Heap) (k : Bool → Heap → Prop) : EFun Pg Tryz.f16 h_hindcastlaw15_still [.agg #[.slice t0_.1.a t0_.1.len t0_.1.cap, .slice t0_.2.a t0_.2.len t0_.2.cap], .agg #[.slice t1_.1.a t1_.1.len t1_.1.cap, .slice t1_.2.a t1_.2.len t1_.2.cap]] (.one (.c .bool)) H k = v_hindcastlaw15_still t0_ t1_ H k := by kernel_rfl
theorem c_hindcastlaw15_still (t0_ : Sl × Sl) (t1_ : Sl × Sl) {H : Heap} {k : Bool → Heap → Prop} (h : v_hindcastlaw15_still t0_ t1_ H k) : CallT Pg f_hindcastlaw15_still [.agg #[.slice t0_.1.a t0_.1.len t0_.1.cap, .slice t0_.2.a t0_.2.len t0_.2.cap], .agg #[.slice t1_.1.a t1_.1.len t1_.1.cap, .slice t1_.2.a t1_.2.len t1_.2.cap]] (.one (.c .bool)) H k :=
  call_of_E Pg_mixed Tryz.func16 (by kernel_rfl) (by kernel_rfl) (by kernel_rfl) (by kernel_rfl) ((e_hindcastlaw15_still t0_ t1_ H k).symm ▸ h)
/-- hindcast/world.New -/
def v_world_New (kinds_ : Sl) (H : Heap) (k : Option Addr × Int → Heap → Prop) : Prop :=
    CallT Pg f_world_may [.slice kinds_.a kinds_.len kinds_.cap] (.one (.c .bool)) H fun (r1 : Bool) H1 =>
    Br (!r1) (
      k (none, 65) H1) (
      CallT Pg f_ids_New [.int .i64 200] (.tup [(.c .ptr), (.c (.int .i64))]) H1 fun (r2 : Option Addr × Int) H2 =>
      Br (r2.2 != 0) (
        k (none, r2.2) H2) (
        CallT Pg f_world_copied [.slice kinds_.a kinds_.len kinds_.cap] (.one (.c .sl)) H2 fun (r3 : Sl) H3 =>
        MkM H3 fun m1 H4 =>
        MkM H4 fun m2 H5 =>
        Nw #[.slice r3.a r3.len r3.cap, .pointer r2.1, m1, m2] T_world_World H5 fun b1 H6 =>
        k ((some (adr b1), 0)) H6))
def h_world_New : Hint := .no
theorem e_world_New (kinds_ : Sl) (H : Heap) (k : Option Addr × Int → Heap → Prop) : EFun Pg Tryz.f19 h_world_New [.slice kinds_.a kinds_.len kinds_.cap] (.tup [(.c .ptr), (.c (.int .i64))]) H k = v_world_New kinds_ H k := by kernel_rfl
theorem c_world_New (kinds_ : Sl) {H : Heap} {k : Option Addr × Int → Heap → Prop} (h : v_world_New kinds_ H k) : CallT Pg f_world_New [.slice kinds_.a kinds_.len kinds_.cap] (.tup [(.c .ptr), (.c (.int .i64))]) H k :=
  call_of_E Pg_mixed Tryz.func19 (by kernel_rfl) (by kernel_rfl) (by kernel_rfl) (by kernel_rfl) ((e_world_New kinds_ H k).symm ▸ h)
/-- hindcast/verify.fault -/
def v_verify_fault (at_ : Int) (e_ : Int) (H : Heap) (k : Option Addr → Heap → Prop) : Prop :=
    Nw #[.int .i64 at_, .int .i64 e_] T_api_Fault H fun b1 H1 =>
    k (some (adr b1)) H1
def h_verify_fault : Hint := .no
theorem e_verify_fault (at_ : Int) (e_ : Int) (H : Heap) (k : Option Addr → Heap → Prop) : EFun Pg Tryz.f20 h_verify_fault [.int .i64 at_, .int .i64 e_] (.one (.c .ptr)) H k = v_verify_fault at_ e_ H k := by kernel_rfl
theorem c_verify_fault (at_ : Int) (e_ : Int) {H : Heap} {k : Option Addr → Heap → Prop} (h : v_verify_fault at_ e_ H k) : CallT Pg f_verify_fault [.int .i64 at_, .int .i64 e_] (.one (.c .ptr)) H k :=
  call_of_E Pg_mixed Tryz.func20 (by kernel_rfl) (by kernel_rfl) (by kernel_rfl) (by kernel_rfl) ((e_verify_fault at_ e_ H k).symm ▸ h)
/-- hindcast/code.Encode -/
def v_code_Encode (t0_ : Sl × Sl) (H : Heap) (k : Sl × Int → Heap → Prop) : Prop :=
    Nw #[.slice t0_.1.a t0_.1.len t0_.1.cap, .slice t0_.2.a t0_.2.len t0_.2.cap] T_api_Program H fun b1 H1 =>
    LdC [.sl, .sl] (adr b1) H1 fun (c1 : Sl × Sl) =>
    CallT Pg f_code_may [.agg #[.slice c1.1.a c1.1.len c1.1.cap, .slice c1.2.a c1.2.len c1.2.cap]] (.one (.c .bool)) H1 fun (r1 : Bool) H2 =>
    Br (!r1) (
      k (⟨none, 0, 0⟩, 130) H2) (
      Ld .sl (adr b1) H2 fun (x1 : Sl) =>
      CallT Pg f_code_put [.slice none 0 0, .int .i64 (x1.len : Int)] (.one (.c .sl)) H2 fun (r2 : Sl) H3 =>
      Ld .sl (adr b1) H3 fun (x2 : Sl) =>
      LoopT (σ := Sl × Int) /- t4, t23 -/ (fun next1 s1 H4 =>
        Br (decide (s1.2 < (x2.len : Int))) (
          IxA 8 x2 s1.2 fun a1 =>
          LdC [.sl, .sl, .sl, .sl, .str, (.int .i64), (.int .i64), .sl] a1 H4 fun (c2 : Sl × Sl × Sl × Sl × ByteArray × Int × Int × Sl) =>
          Nw #[.slice none 0 0, .slice none 0 0, .slice none 0 0, .slice none 0 0, .string ByteArray.empty, .int .i64 0, .int .i64 0, .slice none 0 0] T_api_System H4 fun b2 H5 =>
          St ((adr b2).add 0) (.slice c2.1.a c2.1.len c2.1.cap) H5 fun H6 =>
          St ((adr b2).add 1) (.slice c2.2.1.a c2.2.1.len c2.2.1.cap) H6 fun H7 =>
          St ((adr b2).add 2) (.slice c2.2.2.1.a c2.2.2.1.len c2.2.2.1.cap) H7 fun H8 =>
          St ((adr b2).add 3) (.slice c2.2.2.2.1.a c2.2.2.2.1.len c2.2.2.2.1.cap) H8 fun H9 =>
          St ((adr b2).add 4) (.string c2.2.2.2.2.1) H9 fun H10 =>
          St ((adr b2).add 5) (.int .i64 c2.2.2.2.2.2.1) H10 fun H11 =>
          St ((adr b2).add 6) (.int .i64 c2.2.2.2.2.2.2.1) H11 fun H12 =>
          St ((adr b2).add 7) (.slice c2.2.2.2.2.2.2.2.a c2.2.2.2.2.2.2.2.len c2.2.2.2.2.2.2.2.cap) H12 fun H13 =>
          CallT Pg f_code_sets [.pointer (some (adr b2))] (.one (.agg [.ptr, .ptr, .ptr, .ptr])) H13 fun (r3 : Option Addr × Option Addr × Option Addr × Option Addr) H14 =>
          LoopT (σ := Sl × Int) /- t4, t28 -/ (fun next2 s2 H15 =>
            Br (decide (s2.2 < 4)) (
              ArI .ptr 4 #[.pointer r3.1, .pointer r3.2.1, .pointer r3.2.2.1, .pointer r3.2.2.2] s2.2 fun (b3 : Option Addr) =>
              NilCk b3 fun a2 =>
              Ld .sl a2 H15 fun (x3 : Sl) =>
              CallT Pg f_code_put [.slice s2.1.a s2.1.len s2.1.cap, .int .i64 (x3.len : Int)] (.one (.c .sl)) H15 fun (r4 : Sl) H16 =>
              NilCk b3 fun a3 =>
              Ld .sl a3 H16 fun (x4 : Sl) =>
              LoopT (σ := Sl × Int) /- t4, t41 -/ (fun next3 s3 H17 =>
                Br (decide (s3.2 < (x4.len : Int))) (
                  IxA 1 x4 s3.2 fun a4 =>
                  Ld (.int .i64) a4 H17 fun (x5 : Int) =>
                  CallT Pg f_code_put [.slice s3.1.a s3.1.len s3.1.cap, .int .i64 x5] (.one (.c .sl)) H17 fun (r5 : Sl) H18 =>
                  Lt (IntKind.wrap .i64 (s3.2 + 1)) fun t1 =>
                  next3 (r5, t1) H18) (
                  Lt (IntKind.wrap .i64 (s2.2 + 1)) fun t2 =>
                  next2 (s3.1, t2) H17)) (r4, 0) H16) (
              LdC [.str, (.int .i64), (.int .i64), .sl] ((adr b2).add 4) H15 fun (c3 : ByteArray × Int × Int × Sl) =>
              CallT Pg f_code_putRoutine [.slice s2.1.a s2.1.len s2.1.cap, .agg #[.string c3.1, .int .i64 c3.2.1, .int .i64 c3.2.2.1, .slice c3.2.2.2.a c3.2.2.2.len c3.2.2.2.cap]] (.one (.c .sl)) H15 fun (r6 : Sl) H19 =>
              Lt (IntKind.wrap .i64 (s1.2 + 1)) fun t3 =>
              next1 (r6, t3) H19)) (s1.1, 0) H14) (
          Ld .sl ((adr b1).add 1) H4 fun (x6 : Sl) =>
          CallT Pg f_code_put [.slice s1.1.a s1.1.len s1.1.cap, .int .i64 (x6.len : Int)] (.one (.c .sl)) H4 fun (r7 : Sl) H20 =>
          Ld .sl ((adr b1).add 1) H20 fun (x7 : Sl) =>
          LoopT (σ := Sl × Int) /- t4, t63 -/ (fun next4 s4 H21 =>
            Br (decide (s4.2 < (x7.len : Int))) (
              IxA 4 x7 s4.2 fun a5 =>
              LdC [.str, (.int .i64), (.int .i64), .sl] a5 H21 fun (c4 : ByteArray × Int × Int × Sl) =>
              Nw #[.string ByteArray.empty, .int .i64 0, .int .i64 0, .slice none 0 0] T_api_Routine H21 fun b4 H22 =>
              St ((adr b4).add 0) (.string c4.1) H22 fun H23 =>
              St ((adr b4).add 1) (.int .i64 c4.2.1) H23 fun H24 =>
              St ((adr b4).add 2) (.int .i64 c4.2.2.1) H24 fun H25 =>
              St ((adr b4).add 3) (.slice c4.2.2.2.a c4.2.2.2.len c4.2.2.2.cap) H25 fun H26 =>
              LdC [.str, (.int .i64), (.int .i64), .sl] (adr b4) H26 fun (c5 : ByteArray × Int × Int × Sl) =>
              CallT Pg f_code_putRoutine [.slice s4.1.a s4.1.len s4.1.cap, .agg #[.string c5.1, .int .i64 c5.2.1, .int .i64 c5.2.2.1, .slice c5.2.2.2.a c5.2.2.2.len c5.2.2.2.cap]] (.one (.c .sl)) H26 fun (r8 : Sl) H27 =>
              Lt (IntKind.wrap .i64 (s4.2 + 1)) fun t4 =>
              next4 (r8, t4) H27) (
              k (s4.1, 0) H21)) (r7, 0) H20)) (r2, 0) H3)
def h_code_Encode : Hint := (.two .no (.two .no (.two .no (.two (.two .no (.one (.loop [(4, (.c .sl)), (23, (.c (.int .i64)))] (.two .no (.two .no (.two (.one (.two .no (.two (.two .no (.one (.loop [(4, (.c .sl)), (28, (.c (.int .i64)))] (.two .no (.two .no (.two (.one (.two .no (.two .no (.two .no (.one (.loop [(4, (.c .sl)), (41, (.c (.int .i64)))] .no)))))) .no)))))) .no))) .no)))))) (.two .no (.two (.two .no (.one (.loop [(4, (.c .sl)), (63, (.c (.int .i64)))] .no))) .no))))))
theorem e_code_Encode (t0_ : Sl × Sl) (H : Heap) (k : Sl × Int → Heap → Prop) : EFun Pg Tryz.f21 h_code_Encode [.agg #[.slice t0_.1.a t0_.1.len t0_.1.cap, .slice t0_.2.a t0_.2.len t0_.2.cap]] (.tup [(.c .sl), (.c (.int .i64))]) H k = v_code_Encode t0_ H k := by kernel_rfl
theorem c_code_Encode (t0_ : Sl × Sl) {H : Heap} {k : Sl × Int → Heap → Prop} (h : v_code_Encode t0_ H k) : CallT Pg f_code_Encode [.agg #[.slice t0_.1.a t0_.1.len t0_.1.cap, .slice t0_.2.a t0_.2.len t0_.2.cap]] (.tup [(.c .sl), (.c (.int .i64))]) H k :=
  call_of_E Pg_mixed Tryz.func21 (by kernel_rfl) (by kernel_rfl) (by kernel_rfl) (by kernel_rfl) ((e_code_Encode t0_ H k).symm ▸ h)
/-- hindcast/verify.routines -/
def v_verify_routines (p_ : Sl × Sl) (H : Heap) (k : Sl → Heap → Prop) : Prop :=
    Nw #[.slice p_.1.a p_.1.len p_.1.cap, .slice p_.2.a p_.2.len p_.2.cap] T_api_Program H fun b1 H1 =>
    Ld .sl (adr b1) H1 fun (x1 : Sl) =>
    LoopT (σ := Sl × Int × Int) /- out, at,  -/ (fun next1 s1 H2 =>
      Br (decide (s1.2.2 < (x1.len : Int))) (
        Ld .sl (adr b1) H2 fun (x2 : Sl) =>
        IxA 8 x2 s1.2.2 fun a1 =>
        NilCk (some a1) fun a2 =>
        LdC [.str, (.int .i64), (.int .i64), .sl] (a2.add 4) H2 fun (c1 : ByteArray × Int × Int × Sl) =>
        Nw #[.int .i64 s1.2.1, .string c1.1, .int .i64 c1.2.1, .int .i64 c1.2.2.1, .slice c1.2.2.2.a c1.2.2.2.len c1.2.2.2.cap, .pointer (some a1)] T_verify_routine H2 fun b2 H3 =>
        App T_verify_routine 6 72 #[.int .i64 0, .string ByteArray.empty, .int .i64 0, .int .i64 0, .slice none 0 0, .pointer none] s1.1 ⟨some (adr b2), 1, 1⟩ H3 fun l1 H4 =>
        NilCk (some a1) fun a3 =>
        Ld .sl ((a3.add 4).add 3) H4 fun (x3 : Sl) =>
        Lt (IntKind.wrap .i64 (s1.2.1 + (x3.len : Int))) fun t1 =>
        Lt (IntKind.wrap .i64 (s1.2.2 + 1)) fun t2 =>
        next1 (l1, t1, t2) H4) (
        Ld .sl ((adr b1).add 1) H2 fun (x4 : Sl) =>
        LoopT (σ := Sl × Int × Int) /- out, at,  -/ (fun next2 s2 H5 =>
          Br (decide (s2.2.2 < (x4.len : Int))) (
            IxA 4 x4 s2.2.2 fun a4 =>
            LdC [.str, (.int .i64), (.int .i64), .sl] a4 H5 fun (c2 : ByteArray × Int × Int × Sl) =>
            Nw #[.string ByteArray.empty, .int .i64 0, .int .i64 0, .slice none 0 0] T_api_Routine H5 fun b3 H6 =>
            St ((adr b3).add 0) (.string c2.1) H6 fun H7 =>
            St ((adr b3).add 1) (.int .i64 c2.2.1) H7 fun H8 =>
            St ((adr b3).add 2) (.int .i64 c2.2.2.1) H8 fun H9 =>
            St ((adr b3).add 3) (.slice c2.2.2.2.a c2.2.2.2.len c2.2.2.2.cap) H9 fun H10 =>
            LdC [.str, (.int .i64), (.int .i64), .sl] (adr b3) H10 fun (c3 : ByteArray × Int × Int × Sl) =>
            Nw #[.int .i64 s2.2.1, .string c3.1, .int .i64 c3.2.1, .int .i64 c3.2.2.1, .slice c3.2.2.2.a c3.2.2.2.len c3.2.2.2.cap, .pointer none] T_verify_routine H10 fun b4 H11 =>
            App T_verify_routine 6 72 #[.int .i64 0, .string ByteArray.empty, .int .i64 0, .int .i64 0, .slice none 0 0, .pointer none] s2.1 ⟨some (adr b4), 1, 1⟩ H11 fun l2 H12 =>
            Ld .sl ((adr b3).add 3) H12 fun (x5 : Sl) =>
            Lt (IntKind.wrap .i64 (s2.2.1 + (x5.len : Int))) fun t3 =>
            Lt (IntKind.wrap .i64 (s2.2.2 + 1)) fun t4 =>
            next2 (l2, t3, t4) H12) (
            k s2.1 H5)) (s1.1, s1.2.1, 0) H2)) (⟨none, 0, 0⟩, 0, 0) H1
def h_verify_routines : Hint := (.two .no (.two .no (.two .no (.two (.two .no (.one (.loop [(3, (.c .sl)), (4, (.c (.int .i64))), (12, (.c (.int .i64)))] .no))) (.two (.two .no (.one (.loop [(3, (.c .sl)), (4, (.c (.int .i64))), (41, (.c (.int .i64)))] .no))) .no)))))
theorem e_verify_routines (p_ : Sl × Sl) (H : Heap) (k : Sl → Heap → Prop) : EFun Pg Tryz.f22 h_verify_routines [.agg #[.slice p_.1.a p_.1.len p_.1.cap, .slice p_.2.a p_.2.len p_.2.cap]] (.one (.c .sl)) H k = v_verify_routines p_ H k := by kernel_rfl
theorem c_verify_routines (p_ : Sl × Sl) {H : Heap} {k : Sl → Heap → Prop} (h : v_verify_routines p_ H k) : CallT Pg f_verify_routines [.agg #[.slice p_.1.a p_.1.len p_.1.cap, .slice p_.2.a p_.2.len p_.2.cap]] (.one (.c .sl)) H k :=
  call_of_E Pg_mixed Tryz.func22 (by kernel_rfl) (by kernel_rfl) (by kernel_rfl) (by kernel_rfl) ((e_verify_routines p_ H k).symm ▸ h)
/-- (*hindcast/verify.checker).sets -/
def v_verify_checker_sets (c_ : Option Addr) (H : Heap) (k : Option Addr → Heap → Prop) : Prop :=
    Nw #[.pointer c_] T_P_verify_checker H fun b1 H1 =>
    Ld .ptr (adr b1) H1 fun (x1 : Option Addr) =>
    NilCk x1 fun a1 =>
    Ld .sl a1 H1 fun (x2 : Sl) =>
    LoopT (σ := Int) /-  -/ (fun next1 s1 H2 =>
      Br (decide (s1 < (x2.len : Int))) (
        IxA 8 x2 s1 fun a2 =>
        LdC [.sl, .sl, .sl, .sl, .str, (.int .i64), (.int .i64), .sl] a2 H2 fun (c1 : Sl × Sl × Sl × Sl × ByteArray × Int × Int × Sl) =>
        Nw #[.slice none 0 0, .slice none 0 0, .slice none 0 0, .slice none 0 0, .string ByteArray.empty, .int .i64 0, .int .i64 0, .slice none 0 0] T_api_System H2 fun b2 H3 =>
        St ((adr b2).add 0) (.slice c1.1.a c1.1.len c1.1.cap) H3 fun H4 =>
        St ((adr b2).add 1) (.slice c1.2.1.a c1.2.1.len c1.2.1.cap) H4 fun H5 =>
        St ((adr b2).add 2) (.slice c1.2.2.1.a c1.2.2.1.len c1.2.2.1.cap) H5 fun H6 =>
        St ((adr b2).add 3) (.slice c1.2.2.2.1.a c1.2.2.2.1.len c1.2.2.2.1.cap) H6 fun H7 =>
        St ((adr b2).add 4) (.string c1.2.2.2.2.1) H7 fun H8 =>
        St ((adr b2).add 5) (.int .i64 c1.2.2.2.2.2.1) H8 fun H9 =>
        St ((adr b2).add 6) (.int .i64 c1.2.2.2.2.2.2.1) H9 fun H10 =>
        St ((adr b2).add 7) (.slice c1.2.2.2.2.2.2.2.a c1.2.2.2.2.2.2.2.len c1.2.2.2.2.2.2.2.cap) H10 fun H11 =>
        Ld .sl (adr b2) H11 fun (x3 : Sl) =>
        Ld .sl ((adr b2).add 1) H11 fun (x4 : Sl) =>
        Ld .sl ((adr b2).add 2) H11 fun (x5 : Sl) =>
        Ld .sl ((adr b2).add 3) H11 fun (x6 : Sl) =>
        Nw #[.slice x3.a x3.len x3.cap, .slice x4.a x4.len x4.cap, .slice x5.a x5.len x5.cap, .slice x6.a x6.len x6.cap] T_Sl_int H11 fun b3 H12 =>
        LoopT (σ := Int) /-  -/ (fun next2 s2 H13 =>
          Br (decide (s2 < 4)) (
            IxA 1 ⟨some (adr b3), 4, 4⟩ s2 fun a3 =>
            Ld .sl a3 H13 fun (x7 : Sl) =>
            CallT Pg f_slices_ContainsFunc_Sl_int_int [.slice x7.a x7.len x7.cap, .func (.func 45) #[] #[.pointer (some (adr b1))]] (.one (.c .bool)) H13 fun (r1 : Bool) H14 =>
            Br r1 (
              Ld .ptr (adr b1) H14 fun (x8 : Option Addr) =>
              NilCk x8 fun a4 =>
              Ld .sl (a4.add 3) H14 fun (x9 : Sl) =>
              IxA 6 x9 s1 fun a5 =>
              Ld (.int .i64) a5 H14 fun (x10 : Int) =>
              CallT Pg f_verify_fault [.int .i64 x10, .int .i64 60] (.one (.c .ptr)) H14 fun (r2 : Option Addr) H15 =>
              k r2 H15) (
              Lt (IntKind.wrap .i64 (s2 + 1)) fun t1 =>
              next2 t1 H14)) (
            Lt (IntKind.wrap .i64 (s1 + 1)) fun t2 =>
            next1 t2 H13)) 0 H12) (
        k none H2)) 0 H1
def h_verify_checker_sets : Hint := (.two .no (.two (.two .no (.one (.loop [(13, (.c (.int .i64)))] (.two .no (.two .no (.two (.one (.two .no (.two .no (.one (.loop [(28, (.c (.int .i64)))] .no))))) .no)))))) .no))
theorem e_verify_checker_sets (c_ : Option Addr) (H : Heap) (k : Option Addr → Heap → Prop) : EFun Pg Tryz.f23 h_verify_checker_sets [.pointer c_] (.one (.c .ptr)) H k = v_verify_checker_sets c_ H k := by kernel_rfl
theorem c_verify_checker_sets (c_ : Option Addr) {H : Heap} {k : Option Addr → Heap → Prop} (h : v_verify_checker_sets c_ H k) : CallT Pg f_verify_checker_sets [.pointer c_] (.one (.c .ptr)) H k :=
  call_of_E Pg_mixed Tryz.func23 (by kernel_rfl) (by kernel_rfl) (by kernel_rfl) (by kernel_rfl) ((e_verify_checker_sets c_ H k).symm ▸ h)
/-- (*hindcast/verify.checker).touches -/
def v_verify_checker_touches (t0_ : Option Addr) (H : Heap) (k : Option Addr → Heap → Prop) : Prop :=
    NilCk t0_ fun a1 =>
    Ld .sl (a1.add 3) H fun (x1 : Sl) =>
    LoopT (σ := Int) /- t12 -/ (fun next1 s1 H1 =>
      Br (decide (s1 < (x1.len : Int))) (
        IxA 6 x1 s1 fun a2 =>
        LdC [(.int .i64), .str, (.int .i64), (.int .i64), .sl, .ptr] a2 H1 fun (c1 : Int × ByteArray × Int × Int × Sl × Option Addr) =>
        Nw #[.int .i64 0, .string ByteArray.empty, .int .i64 0, .int .i64 0, .slice none 0 0, .pointer none] T_verify_routine H1 fun b1 H2 =>
        St ((adr b1).add 0) (.int .i64 c1.1) H2 fun H3 =>
        St ((adr b1).add 1) (.string c1.2.1) H3 fun H4 =>
        St ((adr b1).add 2) (.int .i64 c1.2.2.1) H4 fun H5 =>
        St ((adr b1).add 3) (.int .i64 c1.2.2.2.1) H5 fun H6 =>
        St ((adr b1).add 4) (.slice c1.2.2.2.2.1.a c1.2.2.2.2.1.len c1.2.2.2.2.1.cap) H6 fun H7 =>
        St ((adr b1).add 5) (.pointer c1.2.2.2.2.2) H7 fun H8 =>
        Ld .sl (((adr b1).add 1).add 3) H8 fun (x2 : Sl) =>
        LoopT (σ := Int) /- t20 -/ (fun next2 s2 H9 =>
          Br (decide (s2 < (x2.len : Int))) (
            IxA 2 x2 s2 fun a3 =>
            LdC [(.int .i64), (.int .i64)] a3 H9 fun (c2 : Int × Int) =>
            Nw #[.int .i64 0, .int .i64 0] T_api_Instr H9 fun b2 H10 =>
            St ((adr b2).add 0) (.int .i64 c2.1) H10 fun H11 =>
            St ((adr b2).add 1) (.int .i64 c2.2) H11 fun H12 =>
            LdC [(.int .i64), .str, (.int .i64), (.int .i64), .sl, .ptr] (adr b1) H12 fun (c3 : Int × ByteArray × Int × Int × Sl × Option Addr) =>
            CallT Pg f_verify_checker_access [.pointer t0_, .agg #[.int .i64 c3.1, .string c3.2.1, .int .i64 c3.2.2.1, .int .i64 c3.2.2.2.1, .slice c3.2.2.2.2.1.a c3.2.2.2.2.1.len c3.2.2.2.2.1.cap, .pointer c3.2.2.2.2.2], .int .i64 s2] (.one (.c .bool)) H12 fun (r1 : Bool) H13 =>
            Br (!r1) (
              Ld (.int .i64) (adr b1) H13 fun (x3 : Int) =>
              Lt (IntKind.wrap .i64 (x3 + s2)) fun t1 =>
              CallT Pg f_verify_fault [.int .i64 t1, .int .i64 152] (.one (.c .ptr)) H13 fun (r2 : Option Addr) H14 =>
              k r2 H14) (
              Jn (σ := Bool) /- t59 -/ (fun kk1 =>
                LdC [(.int .i64), (.int .i64)] (adr b2) H13 fun (c4 : Int × Int) =>
                CallT Pg f_verify_jumps [.agg #[.int .i64 c4.1, .int .i64 c4.2]] (.one (.c .bool)) H13 fun (r3 : Bool) H16 =>
                Br r3 (
                  Ld (.int .i64) ((adr b2).add 1) H16 fun (x4 : Int) =>
                  Br (decide (x4 ≥ 1)) (
                    Ld (.int .i64) ((adr b2).add 1) H16 fun (x5 : Int) =>
                    Ld .sl (((adr b1).add 1).add 3) H16 fun (x6 : Sl) =>
                    Br (decide (x5 < (x6.len : Int))) (
                      LdC [.str, (.int .i64), (.int .i64), .sl] ((adr b1).add 1) H16 fun (c5 : ByteArray × Int × Int × Sl) =>
                      Ld (.int .i64) ((adr b2).add 1) H16 fun (x7 : Int) =>
                      Lt (IntKind.wrap .i64 (x7 - 1)) fun t2 =>
                      CallT Pg f_verify_op [.agg #[.string c5.1, .int .i64 c5.2.1, .int .i64 c5.2.2.1, .slice c5.2.2.2.a c5.2.2.2.len c5.2.2.2.cap], .int .i64 t2] (.one (.c (.int .i64))) H16 fun (r4 : Int) H17 =>
                      kk1 (r4 == 26) H17) (
                      kk1 false H16)) (
                    kk1 false H16)) (
                  kk1 false H16)) fun j1 H15 =>
              Br j1 (
                Ld (.int .i64) (adr b1) H15 fun (x8 : Int) =>
                Lt (IntKind.wrap .i64 (x8 + s2)) fun t3 =>
                CallT Pg f_verify_fault [.int .i64 t3, .int .i64 150] (.one (.c .ptr)) H15 fun (r5 : Option Addr) H18 =>
                k r5 H18) (
                Lt (IntKind.wrap .i64 (s2 + 1)) fun t4 =>
                next2 t4 H15))) (
            Lt (IntKind.wrap .i64 (s1 + 1)) fun t5 =>
            next1 t5 H9)) 0 H8) (
        k none H1)) 0 H
def h_verify_checker_touches : Hint := (.two .no (.two (.two .no (.one (.loop [(12, (.c (.int .i64)))] (.two .no (.two .no (.two (.one (.two .no (.two .no (.one (.loop [(20, (.c (.int .i64)))] (.two .no (.two .no (.two (.one (.two .no (.two .no (.two (.join [(59, (.c .bool))] .no) .no)))) .no)))))))) .no)))))) .no))
theorem e_verify_checker_touches (t0_ : Option Addr) (H : Heap) (k : Option Addr → Heap → Prop) : EFun Pg Tryz.f24 h_verify_checker_touches [.pointer t0_] (.one (.c .ptr)) H k = v_verify_checker_touches t0_ H k := by kernel_rfl
theorem c_verify_checker_touches (t0_ : Option Addr) {H : Heap} {k : Option Addr → Heap → Prop} (h : v_verify_checker_touches t0_ H k) : CallT Pg f_verify_checker_touches [.pointer t0_] (.one (.c .ptr)) H k :=
  call_of_E Pg_mixed Tryz.func24 (by kernel_rfl) (by kernel_rfl) (by kernel_rfl) (by kernel_rfl) ((e_verify_checker_touches t0_ H k).symm ▸ h)
/-- (*hindcast/verify.checker).calls -/
def v_verify_checker_calls (c_ : Option Addr) (H : Heap) (k : Option Addr → Heap → Prop) : Prop :=
    Nw #[.pointer c_] T_P_verify_checker H fun b1 H1 =>
    Nw #[.nilFunc] T_func_int_int_Map_int_bool_bool H1 fun b2 H2 =>
    StV (adr b2) ((.func (.func 49) #[] #[.pointer (some (adr b1)), .pointer (some (adr b2))])) H2 fun H3 =>
    Ld .ptr (adr b1) H3 fun (x1 : Option Addr) =>
    NilCk x1 fun a1 =>
    Ld .sl (a1.add 1) H3 fun (x2 : Sl) =>
    LoopT (σ := Int) /-  -/ (fun next1 s1 H4 =>
      Br (decide (s1 < (x2.len : Int))) (
        Ld .raw (adr b2) H4 fun (x3 : Value) =>
        MkM H4 fun m1 H5 =>
        CallX Pg x3 [.int .i64 s1, .int .i64 s1, m1] (.one (.c .bool)) H5 fun (r1 : Bool) H6 =>
        Br r1 (
          Ld .ptr (adr b1) H6 fun (x4 : Option Addr) =>
          NilCk x4 fun a2 =>
          Ld .sl (a2.add 3) H6 fun (x5 : Sl) =>
          Ld .ptr (adr b1) H6 fun (x6 : Option Addr) =>
          NilCk x6 fun a3 =>
          Ld .sl a3 H6 fun (x7 : Sl) =>
          Lt (IntKind.wrap .i64 ((x7.len : Int) + s1)) fun t1 =>
          IxA 6 x5 t1 fun a4 =>
          Ld (.int .i64) a4 H6 fun (x8 : Int) =>
          CallT Pg f_verify_fault [.int .i64 x8, .int .i64 115] (.one (.c .ptr)) H6 fun (r2 : Option Addr) H7 =>
          Stab [(a3, .slice x7.a x7.len x7.cap), (adr b1, .pointer x6), (a2.add 3, .slice x5.a x5.len x5.cap), (adr b1, .pointer x4)] H7 <|
          k r2 H7) (
          Lt (IntKind.wrap .i64 (s1 + 1)) fun t2 =>
          next1 t2 H6)) (
        k none H4)) 0 H3
def h_verify_checker_calls : Hint := (.two .no (.two .no (.two .no (.two (.two .no (.one (.loop [(12, (.c (.int .i64)))] .no))) .no))))
theorem e_verify_checker_calls (c_ : Option Addr) (H : Heap) (k : Option Addr → Heap → Prop) : EFun Pg Tryz.f25 h_verify_checker_calls [.pointer c_] (.one (.c .ptr)) H k = v_verify_checker_calls c_ H k := by kernel_rfl
theorem c_verify_checker_calls (c_ : Option Addr) {H : Heap} {k : Option Addr → Heap → Prop} (h : v_verify_checker_calls c_ H k) : CallT Pg f_verify_checker_calls [.pointer c_] (.one (.c .ptr)) H k :=
  call_of_E Pg_mixed Tryz.func25 (by kernel_rfl) (by kernel_rfl) (by kernel_rfl) (by kernel_rfl) ((e_verify_checker_calls c_ H k).symm ▸ h)
/-- (*hindcast/verify.checker).ways -/
def v_verify_checker_ways (t0_ : Option Addr) (H : Heap) (k : Option Addr → Heap → Prop) : Prop :=
    NilCk t0_ fun a1 =>
    Ld .sl (a1.add 3) H fun (x1 : Sl) =>
    LoopT (σ := Sl × Int) /- t3, t16 -/ (fun next1 s1 H1 =>
      Br (decide (s1.2 < (x1.len : Int))) (
        IxA 6 x1 s1.2 fun a2 =>
        LdC [(.int .i64), .str, (.int .i64), (.int .i64), .sl, .ptr] a2 H1 fun (c1 : Int × ByteArray × Int × Int × Sl × Option Addr) =>
        Nw #[.int .i64 0, .string ByteArray.empty, .int .i64 0, .int .i64 0, .slice none 0 0, .pointer none] T_verify_routine H1 fun b1 H2 =>
        St ((adr b1).add 0) (.int .i64 c1.1) H2 fun H3 =>
        St ((adr b1).add 1) (.string c1.2.1) H3 fun H4 =>
        St ((adr b1).add 2) (.int .i64 c1.2.2.1) H4 fun H5 =>
        St ((adr b1).add 3) (.int .i64 c1.2.2.2.1) H5 fun H6 =>
        St ((adr b1).add 4) (.slice c1.2.2.2.2.1.a c1.2.2.2.2.1.len c1.2.2.2.2.1.cap) H6 fun H7 =>
        St ((adr b1).add 5) (.pointer c1.2.2.2.2.2) H7 fun H8 =>
        LdC [.str, (.int .i64), (.int .i64), .sl] ((adr b1).add 1) H8 fun (c2 : ByteArray × Int × Int × Sl) =>
        NilCk t0_ fun a3 =>
        Ld .sl (a3.add 1) H8 fun (x2 : Sl) =>
        CallT Pg f_verify_whole [.agg #[.string c2.1, .int .i64 c2.2.1, .int .i64 c2.2.2.1, .slice c2.2.2.2.a c2.2.2.2.len c2.2.2.2.cap], .slice x2.a x2.len x2.cap] (.tup [(.c .ptr), (.c .ptr)]) H8 fun (r1 : Option Addr × Option Addr) H9 =>
        Br (!r1.2.isNone) (
          Ld (.int .i64) (adr b1) H9 fun (x3 : Int) =>
          NilCk r1.2 fun a4 =>
          Ld (.int .i64) a4 H9 fun (x4 : Int) =>
          Lt (IntKind.wrap .i64 (x3 + x4)) fun t1 =>
          NilCk r1.2 fun a5 =>
          Ld (.int .i64) (a5.add 1) H9 fun (x5 : Int) =>
          CallT Pg f_verify_fault [.int .i64 t1, .int .i64 x5] (.one (.c .ptr)) H9 fun (r2 : Option Addr) H10 =>
          Stab [(a4, .int .i64 x4), (adr b1, .int .i64 x3)] H10 <|
          k r2 H10) (
          Nw #[.pointer r1.1] T_P_verify_flow H9 fun b2 H11 =>
          App T_P_verify_flow 1 8 #[.pointer none] s1.1 ⟨some (adr b2), 1, 1⟩ H11 fun l1 H12 =>
          Lt (IntKind.wrap .i64 (s1.2 + 1)) fun t2 =>
          next1 (l1, t2) H12)) (
        LoopT (σ := Int) /- t52 -/ (fun next2 s2 H13 =>
          Br (decide (s2 < (s1.1.len : Int))) (
            IxA 1 s1.1 s2 fun a6 =>
            Ld .ptr a6 H13 fun (x6 : Option Addr) =>
            NilCk x6 fun a7 =>
            Ld .sl (a7.add 3) H13 fun (x7 : Sl) =>
            LoopT (σ := Int) /- t63 -/ (fun next3 s3 H14 =>
              Br (decide (s3 < (x7.len : Int))) (
                Jn (σ := Bool) /- t73 -/ (fun kk1 =>
                  CallT Pg f_verify_flow_idle [.pointer x6, .int .i64 s3] (.one (.c .bool)) H14 fun (r3 : Bool) H16 =>
                  Br r3 (
                    CallT Pg f_verify_flow_round [.pointer x6, .int .i64 s3] (.one (.c .bool)) H16 fun (r4 : Bool) H17 =>
                    kk1 r4 H17) (
                    kk1 false H16)) fun j1 H15 =>
                Br j1 (
                  NilCk t0_ fun a8 =>
                  Ld .sl (a8.add 3) H15 fun (x8 : Sl) =>
                  IxA 6 x8 s2 fun a9 =>
                  Ld (.int .i64) a9 H15 fun (x9 : Int) =>
                  Lt (IntKind.wrap .i64 (x9 + s3)) fun t3 =>
                  CallT Pg f_verify_fault [.int .i64 t3, .int .i64 153] (.one (.c .ptr)) H15 fun (r5 : Option Addr) H18 =>
                  k r5 H18) (
                  Lt (IntKind.wrap .i64 (s3 + 1)) fun t4 =>
                  next3 t4 H15)) (
                Lt (IntKind.wrap .i64 (s2 + 1)) fun t5 =>
                next2 t5 H14)) 0 H13) (
            k none H13)) 0 H1)) (⟨none, 0, 0⟩, 0) H
def h_verify_checker_ways : Hint := (.two .no (.two .no (.two (.two .no (.one (.loop [(3, (.c .sl)), (16, (.c (.int .i64)))] .no))) (.two (.two .no (.one (.loop [(52, (.c (.int .i64)))] (.two .no (.two .no (.two (.one (.two .no (.two .no (.one (.loop [(63, (.c (.int .i64)))] (.two .no (.two .no (.two (.one (.two .no (.two (.join [(73, (.c .bool))] .no) .no))) .no)))))))) .no)))))) .no))))
theorem e_verify_checker_ways (t0_ : Option Addr) (H : Heap) (k : Option Addr → Heap → Prop) : EFun Pg Tryz.f26 h_verify_checker_ways [.pointer t0_] (.one (.c .ptr)) H k = v_verify_checker_ways t0_ H k := by kernel_rfl
theorem c_verify_checker_ways (t0_ : Option Addr) {H : Heap} {k : Option Addr → Heap → Prop} (h : v_verify_checker_ways t0_ H k) : CallT Pg f_verify_checker_ways [.pointer t0_] (.one (.c .ptr)) H k :=
  call_of_E Pg_mixed Tryz.func26 (by kernel_rfl) (by kernel_rfl) (by kernel_rfl) (by kernel_rfl) ((e_verify_checker_ways t0_ H k).symm ▸ h)
/-- hindcast/verify.whole -/
def v_verify_whole (r_ : ByteArray × Int × Int × Sl) (funcs_ : Sl) (H : Heap) (k : Option Addr × Option Addr → Heap → Prop) : Prop :=
    Nw #[.string r_.1, .int .i64 r_.2.1, .int .i64 r_.2.2.1, .slice r_.2.2.2.a r_.2.2.2.len r_.2.2.2.cap] T_api_Routine H fun b1 H1 =>
    Ld .sl ((adr b1).add 3) H1 fun (x1 : Sl) =>
    Br ((x1.len : Int) == 0) (
      CallT Pg f_verify_fault [.int .i64 0, .int .i64 153] (.one (.c .ptr)) H1 fun (r1 : Option Addr) H2 =>
      k (none, r1) H2) (
      LdC [.str, (.int .i64), (.int .i64), .sl] (adr b1) H1 fun (c1 : ByteArray × Int × Int × Sl) =>
      CallT Pg f_verify_reach [.agg #[.string c1.1, .int .i64 c1.2.1, .int .i64 c1.2.2.1, .slice c1.2.2.2.a c1.2.2.2.len c1.2.2.2.cap], .slice funcs_.a funcs_.len funcs_.cap] (.one (.c .ptr)) H1 fun (r2 : Option Addr) H3 =>
      CallT Pg f_verify_flow_first [.pointer r2] (.one (.c .ptr)) H3 fun (r3 : Option Addr) H4 =>
      Br (!r3.isNone) (
        k (none, r3) H4) (
        k (r2, none) H4))
def h_verify_whole : Hint := .no
theorem e_verify_whole (r_ : ByteArray × Int × Int × Sl) (funcs_ : Sl) (H : Heap) (k : Option Addr × Option Addr → Heap → Prop) : EFun Pg Tryz.f27 h_verify_whole [.agg #[.string r_.1, .int .i64 r_.2.1, .int .i64 r_.2.2.1, .slice r_.2.2.2.a r_.2.2.2.len r_.2.2.2.cap], .slice funcs_.a funcs_.len funcs_.cap] (.tup [(.c .ptr), (.c .ptr)]) H k = v_verify_whole r_ funcs_ H k := by kernel_rfl
theorem c_verify_whole (r_ : ByteArray × Int × Int × Sl) (funcs_ : Sl) {H : Heap} {k : Option Addr × Option Addr → Heap → Prop} (h : v_verify_whole r_ funcs_ H k) : CallT Pg f_verify_whole [.agg #[.string r_.1, .int .i64 r_.2.1, .int .i64 r_.2.2.1, .slice r_.2.2.2.a r_.2.2.2.len r_.2.2.2.cap], .slice funcs_.a funcs_.len funcs_.cap] (.tup [(.c .ptr), (.c .ptr)]) H k :=
  call_of_E Pg_mixed Tryz.func27 (by kernel_rfl) (by kernel_rfl) (by kernel_rfl) (by kernel_rfl) ((e_verify_whole r_ funcs_ H k).symm ▸ h)
/-- hindcast/hindcastlaw15.sameSet -/
def v_hindcastlaw15_sameSet (l_ : Sl) (was_ : Sl) (H : Heap) (k : Bool → Heap → Prop) : Prop :=
    Jn (σ := Bool) /-  -/ (fun kk1 =>
      Br ((l_.len : Int) != (was_.len : Int)) (
        kk1 true H) (
        Lt (IntKind.wrap .i64 ((was_.len : Int) + 2)) fun t1 =>
        kk1 (decide ((l_.cap : Int) < t1)) H)) fun j1 H1 =>
    Br j1 (
      k false H1) (
      Lt (IntKind.wrap .i64 ((was_.len : Int) + 2)) fun t2 =>
      SlA 1 l_ 0 t2 (l_.cap : Nat) fun l1 =>
      LoopT (σ := Int) /- i -/ (fun next1 s1 H2 =>
        Br (decide (s1 < (l1.len : Int))) (
          Jn (σ := Bool) /-  -/ (fun kk2 =>
            Br (decide (s1 < (was_.len : Int))) (
              IxA 1 l1 s1 fun a1 =>
              Ld (.int .i64) a1 H2 fun (x1 : Int) =>
              IxA 1 was_ s1 fun a2 =>
              Ld (.int .i64) a2 H2 fun (x2 : Int) =>
              Br (x1 != x2) (
                kk2 true H2) (
                Br (decide (s1 ≥ (was_.len : Int))) (
                  IxA 1 l1 s1 fun a3 =>
                  Ld (.int .i64) a3 H2 fun (x3 : Int) =>
                  kk2 (x3 != 77) H2) (
                  kk2 false H2))) (
              Br (decide (s1 ≥ (was_.len : Int))) (
                IxA 1 l1 s1 fun a4 =>
                Ld (.int .i64) a4 H2 fun (x4 : Int) =>
                kk2 (x4 != 77) H2) (
                kk2 false H2))) fun j2 H3 =>
          Br j2 (
            k false H3) (
            Lt (IntKind.wrap .i64 (s1 + 1)) fun t3 =>
            next1 t3 H3)) (
          k true H2)) 0 H1)
def h_hindcastlaw15_sameSet : Hint := (.two .no (.two (.two (.join [(19, (.c .bool))] .no) .no) (.two .no (.two (.two .no (.one (.loop [(6, (.c (.int .i64)))] (.two .no (.two (.one (.two (.join [(58, (.c .bool))] .no) .no)) .no))))) .no))))
theorem e_hindcastlaw15_sameSet (l_ : Sl) (was_ : Sl) (H : Heap) (k : Bool → Heap → Prop) : EFun Pg Tryz.f28 h_hindcastlaw15_sameSet [.slice l_.a l_.len l_.cap, .slice was_.a was_.len was_.cap] (.one (.c .bool)) H k = v_hindcastlaw15_sameSet l_ was_ H k := by kernel_rfl
theorem c_hindcastlaw15_sameSet (l_ : Sl) (was_ : Sl) {H : Heap} {k : Bool → Heap → Prop} (h : v_hindcastlaw15_sameSet l_ was_ H k) : CallT Pg f_hindcastlaw15_sameSet [.slice l_.a l_.len l_.cap, .slice was_.a was_.len was_.cap] (.one (.c .bool)) H k :=
  call_of_E Pg_mixed Tryz.func28 (by kernel_rfl) (by kernel_rfl) (by kernel_rfl) (by kernel_rfl) ((e_hindcastlaw15_sameSet l_ was_ H k).symm ▸ h)
/-- hindcast/hindcastlaw15.sameRow -/
def v_hindcastlaw15_sameRow (l_ : Sl) (was_ : Sl) (H : Heap) (k : Bool → Heap → Prop) : Prop :=
    Jn (σ := Bool) /-  -/ (fun kk1 =>
      Br ((l_.len : Int) != (was_.len : Int)) (
        kk1 true H) (
        Lt (IntKind.wrap .i64 ((was_.len : Int) + 8)) fun t1 =>
        kk1 (decide ((l_.cap : Int) < t1)) H)) fun j1 H1 =>
    Br j1 (
      k false H1) (
      Lt (IntKind.wrap .i64 ((was_.len : Int) + 8)) fun t2 =>
      SlA 2 l_ 0 t2 (l_.cap : Nat) fun l1 =>
      LoopT (σ := Int) /- i -/ (fun next1 s1 H2 =>
        Br (decide (s1 < (l1.len : Int))) (
          Nw #[.int .i64 0, .int .i64 0] T_api_Instr H2 fun b1 H3 =>
          St ((adr b1).add 0) (.int .i64 77) H3 fun H4 =>
          St ((adr b1).add 1) (.int .i64 0) H4 fun H5 =>
          Jn (σ := Unit) /-  -/ (fun kk2 =>
            Br (decide (s1 < (was_.len : Int))) (
              IxA 2 was_ s1 fun a1 =>
              LdC [(.int .i64), (.int .i64)] a1 H5 fun (c1 : Int × Int) =>
              St ((adr b1).add 0) (.int .i64 c1.1) H5 fun H7 =>
              St ((adr b1).add 1) (.int .i64 c1.2) H7 fun H8 =>
              kk2 () H8) (
              kk2 () H5)) fun j2 H6 =>
          IxA 2 l1 s1 fun a2 =>
          LdC [(.int .i64), (.int .i64)] a2 H6 fun (c2 : Int × Int) =>
          LdC [(.int .i64), (.int .i64)] (adr b1) H6 fun (c3 : Int × Int) =>
          Br (!(eqL [(.int .i64), (.int .i64)] (c2.1, c2.2) (c3.1, c3.2))) (
            k false H6) (
            Lt (IntKind.wrap .i64 (s1 + 1)) fun t3 =>
            next1 t3 H6)) (
          k true H2)) 0 H1)
def h_hindcastlaw15_sameRow : Hint := (.two .no (.two (.two (.join [(20, (.c .bool))] .no) .no) (.two .no (.two (.two .no (.one (.loop [(6, (.c (.int .i64)))] (.two .no (.two (.one (.two .no (.two (.two .no (.join [] .no)) .no))) .no))))) .no))))
theorem e_hindcastlaw15_sameRow (l_ : Sl) (was_ : Sl) (H : Heap) (k : Bool → Heap → Prop) : EFun Pg Tryz.f29 h_hindcastlaw15_sameRow [.slice l_.a l_.len l_.cap, .slice was_.a was_.len was_.cap] (.one (.c .bool)) H k = v_hindcastlaw15_sameRow l_ was_ H k := by kernel_rfl
theorem c_hindcastlaw15_sameRow (l_ : Sl) (was_ : Sl) {H : Heap} {k : Bool → Heap → Prop} (h : v_hindcastlaw15_sameRow l_ was_ H k) : CallT Pg f_hindcastlaw15_sameRow [.slice l_.a l_.len l_.cap, .slice was_.a was_.len was_.cap] (.one (.c .bool)) H k :=
  call_of_E Pg_mixed Tryz.func29 (by kernel_rfl) (by kernel_rfl) (by kernel_rfl) (by kernel_rfl) ((e_hindcastlaw15_sameRow l_ was_ H k).symm ▸ h)
/-- hindcast/hindcastref15.Depths -/
def v_hindcastref15_Depths (t0_ : Sl × Sl) (t1_ : ByteArray × Int × Int × Sl) (H : Heap) (k : Sl × Int × Int → Heap → Prop) : Prop :=
    Nw #[.slice t0_.1.a t0_.1.len t0_.1.cap, .slice t0_.2.a t0_.2.len t0_.2.cap] T_api_Program H fun b1 H1 =>
    Nw #[.string t1_.1, .int .i64 t1_.2.1, .int .i64 t1_.2.2.1, .slice t1_.2.2.2.a t1_.2.2.2.len t1_.2.2.2.cap] T_api_Routine H1 fun b2 H2 =>
    Ld .sl ((adr b2).add 3) H2 fun (x1 : Sl) =>
    Br (decide ((x1.len : Int) > 2000)) (
      k (⟨none, 0, 0⟩, 0, 130) H2) (
      Br ((x1.len : Int) == 0) (
        k (⟨none, 0, 0⟩, 0, 153) H2) (
        Ld .sl ((adr b1).add 1) H2 fun (x2 : Sl) =>
        CallT Pg f_hindcastref15_reached [.slice x1.a x1.len x1.cap, .slice x2.a x2.len x2.cap] (.one (.c .sl)) H2 fun (r1 : Sl) H3 =>
        LoopT (σ := Sl × Int) /- t9, t10 -/ (fun next1 s1 H4 =>
          Br (decide (s1.2 < (x1.len : Int))) (
            LoopT (σ := Int × Int) /- t11, t12 -/ (fun next2 s2 H5 =>
              Br (decide (s2.2 ≥ 0)) (
                Jn (σ := Int) /- t11 -/ (fun kk1 =>
                  IxA 65 r1 s1.2 fun a1 =>
                  IxR 1 65 a1 s2.2 fun a2 =>
                  Ld .bool a2 H5 fun (x3 : Bool) =>
                  Jn (σ := Int) /- t11 -/ (fun kk2 =>
                    Br x3 (
                      kk2 s2.2 H5) (
                      kk2 s2.1 H5)) fun j2 H7 =>
                  kk1 j2 H7) fun j1 H6 =>
                Lt (IntKind.wrap .i64 (s2.2 - 1)) fun t1 =>
                next2 (j1, t1) H6) (
                Jn (σ := Unit) /-  -/ (fun kk3 =>
                  Br (decide (s2.1 ≥ 0)) (
                    IxA 65 r1 s1.2 fun a3 =>
                    LdB 65 a3 H5 fun c1 =>
                    Ld .sl ((adr b1).add 1) H5 fun (x4 : Sl) =>
                    CallT Pg f_hindcastref15_wrong [.slice x1.a x1.len x1.cap, .int .i64 s1.2, (.agg ⟨c1⟩), .slice x4.a x4.len x4.cap] (.one (.c (.int .i64))) H5 fun (r2 : Int) H9 =>
                    Br (r2 != 0) (
                      k (⟨none, 0, 0⟩, s1.2, r2) H9) (
                      kk3 () H9)) (
                    kk3 () H5)) fun j3 H8 =>
                Nw #[.int .i64 s2.1] T_int H8 fun b3 H10 =>
                App T_int 1 8 #[.int .i64 0] s1.1 ⟨some (adr b3), 1, 1⟩ H10 fun l1 H11 =>
                Lt (IntKind.wrap .i64 (s1.2 + 1)) fun t2 =>
                next1 (l1, t2) H11)) (-1, 64) H4) (
            k (s1.1, 0, 0) H4)) (⟨none, 0, 0⟩, 0) H3))
def h_hindcastref15_Depths : Hint := (.two .no (.two .no (.two .no (.two .no (.two .no (.two (.two .no (.one (.loop [(9, (.c .sl)), (10, (.c (.int .i64)))] (.two .no (.two (.one (.two .no (.two (.two .no (.one (.loop [(11, (.c (.int .i64))), (12, (.c (.int .i64)))] (.two .no (.two (.join [(11, (.c (.int .i64)))] (.one (.two .no (.join [(11, (.c (.int .i64)))] .no)))) .no))))) (.two (.two .no (.join [] .no)) .no)))) .no))))) .no))))))
theorem e_hindcastref15_Depths (t0_ : Sl × Sl) (t1_ : ByteArray × Int × Int × Sl) (H : Heap) (k : Sl × Int × Int → Heap → Prop) : EFun Pg Tryz.f35 h_hindcastref15_Depths [.agg #[.slice t0_.1.a t0_.1.len t0_.1.cap, .slice t0_.2.a t0_.2.len t0_.2.cap], .agg #[.string t1_.1, .int .i64 t1_.2.1, .int .i64 t1_.2.2.1, .slice t1_.2.2.2.a t1_.2.2.2.len t1_.2.2.2.cap]] (.tup [(.c .sl), (.c (.int .i64)), (.c (.int .i64))]) H k = v_hindcastref15_Depths t0_ t1_ H k := by kernel_rfl
theorem c_hindcastref15_Depths (t0_ : Sl × Sl) (t1_ : ByteArray × Int × Int × Sl) {H : Heap} {k : Sl × Int × Int → Heap → Prop} (h : v_hindcastref15_Depths t0_ t1_ H k) : CallT Pg f_hindcastref15_Depths [.agg #[.slice t0_.1.a t0_.1.len t0_.1.cap, .slice t0_.2.a t0_.2.len t0_.2.cap], .agg #[.string t1_.1, .int .i64 t1_.2.1, .int .i64 t1_.2.2.1, .slice t1_.2.2.2.a t1_.2.2.2.len t1_.2.2.2.cap]] (.tup [(.c .sl), (.c (.int .i64)), (.c (.int .i64))]) H k :=
  call_of_E Pg_mixed Tryz.func35 (by kernel_rfl) (by kernel_rfl) (by kernel_rfl) (by kernel_rfl) ((e_hindcastref15_Depths t0_ t1_ H k).symm ▸ h)
/-- hindcast/world.may -/
def v_world_may (kinds_ : Sl) (H : Heap) (k : Bool → Heap → Prop) : Prop :=
    LoopT (σ := Sl × Int) /- names,  -/ (fun next1 s1 H1 =>
      Br (decide (s1.2 < (kinds_.len : Int))) (
        IxA 2 kinds_ s1.2 fun a1 =>
        LdC [.str, .sl] a1 H1 fun (c1 : ByteArray × Sl) =>
        Nw #[.string ByteArray.empty, .slice none 0 0] T_api_Kind H1 fun b1 H2 =>
        St ((adr b1).add 0) (.string c1.1) H2 fun H3 =>
        St ((adr b1).add 1) (.slice c1.2.a c1.2.len c1.2.cap) H3 fun H4 =>
        Jn (σ := Bool) /-  -/ (fun kk1 =>
          Ld .sl ((adr b1).add 1) H4 fun (x1 : Sl) =>
          Br (decide ((x1.len : Int) > 4)) (
            kk1 true H4) (
            Ld .sl ((adr b1).add 1) H4 fun (x2 : Sl) =>
            CallT Pg f_world_words [.slice x2.a x2.len x2.cap] (.one (.c .bool)) H4 fun (r1 : Bool) H6 =>
            kk1 (!r1) H6)) fun j1 H5 =>
        Br j1 (
          k false H5) (
          Ld .str (adr b1) H5 fun (x3 : ByteArray) =>
          Nw #[.string x3] T_string H5 fun b2 H7 =>
          App T_string 1 16 #[.string ByteArray.empty] s1.1 ⟨some (adr b2), 1, 1⟩ H7 fun l1 H8 =>
          Lt (IntKind.wrap .i64 (s1.2 + 1)) fun t1 =>
          next1 (l1, t1) H8)) (
        Jn (σ := Bool) /-  -/ (fun kk2 =>
          Br (decide ((kinds_.len : Int) ≥ 1)) (
            Br (decide ((kinds_.len : Int) ≤ 12)) (
              CallT Pg f_world_words [.slice s1.1.a s1.1.len s1.1.cap] (.one (.c .bool)) H1 fun (r2 : Bool) H10 =>
              kk2 r2 H10) (
              kk2 false H1)) (
            kk2 false H1)) fun j2 H9 =>
        k j2 H9)) (⟨none, 0, 0⟩, 0) H
def h_world_may : Hint := (.two .no (.two .no (.two (.two .no (.one (.loop [(3, (.c .sl)), (8, (.c (.int .i64)))] (.two .no (.two .no (.two (.one (.two .no (.two (.two (.join [(21, (.c .bool))] .no) .no) .no))) .no)))))) (.two (.join [(2, (.c .bool))] .no) .no))))
theorem e_world_may (kinds_ : Sl) (H : Heap) (k : Bool → Heap → Prop) : EFun Pg Tryz.f37 h_world_may [.slice kinds_.a kinds_.len kinds_.cap] (.one (.c .bool)) H k = v_world_may kinds_ H k := by kernel_rfl
theorem c_world_may (kinds_ : Sl) {H : Heap} {k : Bool → Heap → Prop} (h : v_world_may kinds_ H k) : CallT Pg f_world_may [.slice kinds_.a kinds_.len kinds_.cap] (.one (.c .bool)) H k :=
  call_of_E Pg_mixed Tryz.func37 (by kernel_rfl) (by kernel_rfl) (by kernel_rfl) (by kernel_rfl) ((e_world_may kinds_ H k).symm ▸ h)
/-- hindcast/ids.New -/
def v_ids_New (most_ : Int) (H : Heap) (k : Option Addr × Int → Heap → Prop) : Prop :=
    Jn (σ := Bool) /-  -/ (fun kk1 =>
      Br (decide (most_ < 1)) (
        kk1 true H) (
        kk1 (decide (most_ > 200)) H)) fun j1 H1 =>
    Br j1 (
      k (none, 1) H1) (
      Nw #[.int .i64 most_, .slice none 0 0, .slice none 0 0, .slice none 0 0] T_ids_Pool H1 fun b1 H2 =>
      k ((some (adr b1), 0)) H2)
def h_ids_New : Hint := (.two .no (.two (.two (.join [(9, (.c .bool))] .no) .no) .no))
theorem e_ids_New (most_ : Int) (H : Heap) (k : Option Addr × Int → Heap → Prop) : EFun Pg Tryz.f38 h_ids_New [.int .i64 most_] (.tup [(.c .ptr), (.c (.int .i64))]) H k = v_ids_New most_ H k := by kernel_rfl
theorem c_ids_New (most_ : Int) {H : Heap} {k : Option Addr × Int → Heap → Prop} (h : v_ids_New most_ H k) : CallT Pg f_ids_New [.int .i64 most_] (.tup [(.c .ptr), (.c (.int .i64))]) H k :=
  call_of_E Pg_mixed Tryz.func38 (by kernel_rfl) (by kernel_rfl) (by kernel_rfl) (by kernel_rfl) ((e_ids_New most_ H k).symm ▸ h)
/-- hindcast/world.copied -/
def v_world_copied (kinds_ : Sl) (H : Heap) (k : Sl → Heap → Prop) : Prop :=
    CallT Pg f_slices_Clone_Sl_api_Kind_api_Kind [.slice kinds_.a kinds_.len kinds_.cap] (.one (.c .sl)) H fun (r1 : Sl) H1 =>
    LoopT (σ := Int) /-  -/ (fun next1 s1 H2 =>
      Br (decide (s1 < (r1.len : Int))) (
        IxA 2 r1 s1 fun a1 =>
        Ld .sl (a1.add 1) H2 fun (x1 : Sl) =>
        CallT Pg f_slices_Clone_Sl_string_string [.slice x1.a x1.len x1.cap] (.one (.c .sl)) H2 fun (r2 : Sl) H3 =>
        IxA 2 r1 s1 fun a2 =>
        St (a2.add 1) (.slice r2.a r2.len r2.cap) H3 fun H4 =>
        Lt (IntKind.wrap .i64 (s1 + 1)) fun t1 =>
        next1 t1 H4) (
        k r1 H2)) 0 H1
def h_world_copied : Hint := (.two .no (.two .no (.two (.two .no (.one (.loop [(9, (.c (.int .i64)))] .no))) .no)))
theorem e_world_copied (kinds_ : Sl) (H : Heap) (k : Sl → Heap → Prop) : EFun Pg Tryz.f39 h_world_copied [.slice kinds_.a kinds_.len kinds_.cap] (.one (.c .sl)) H k = v_world_copied kinds_ H k := by kernel_rfl
theorem c_world_copied (kinds_ : Sl) {H : Heap} {k : Sl → Heap → Prop} (h : v_world_copied kinds_ H k) : CallT Pg f_world_copied [.slice kinds_.a kinds_.len kinds_.cap] (.one (.c .sl)) H k :=
  call_of_E Pg_mixed Tryz.func39 (by kernel_rfl) (by kernel_rfl) (by kernel_rfl) (by kernel_rfl) ((e_world_copied kinds_ H k).symm ▸ h)
/-- hindcast/code.may -/
def v_code_may (p_ : Sl × Sl) (H : Heap) (k : Bool → Heap → Prop) : Prop :=
    Nw #[.slice p_.1.a p_.1.len p_.1.cap, .slice p_.2.a p_.2.len p_.2.cap] T_api_Program H fun b1 H1 =>
    Nw #[.int .i64 0] T_int H1 fun b2 H2 =>
    St (adr b2) (.int .i64 2000) H2 fun H3 =>
    Jn (σ := Bool) /-  -/ (fun kk1 =>
      Ld .sl (adr b1) H3 fun (x1 : Sl) =>
      Br (decide ((x1.len : Int) > 16)) (
        kk1 true H3) (
        Ld .sl ((adr b1).add 1) H3 fun (x2 : Sl) =>
        kk1 (decide ((x2.len : Int) > 16)) H3)) fun j1 H4 =>
    Br j1 (
      k false H4) (
      Ld .sl (adr b1) H4 fun (x3 : Sl) =>
      LoopT (σ := Int) /-  -/ (fun next1 s1 H5 =>
        Br (decide (s1 < (x3.len : Int))) (
          IxA 8 x3 s1 fun a1 =>
          LdC [.sl, .sl, .sl, .sl, .str, (.int .i64), (.int .i64), .sl] a1 H5 fun (c1 : Sl × Sl × Sl × Sl × ByteArray × Int × Int × Sl) =>
          Nw #[.slice none 0 0, .slice none 0 0, .slice none 0 0, .slice none 0 0, .string ByteArray.empty, .int .i64 0, .int .i64 0, .slice none 0 0] T_api_System H5 fun b3 H6 =>
          St ((adr b3).add 0) (.slice c1.1.a c1.1.len c1.1.cap) H6 fun H7 =>
          St ((adr b3).add 1) (.slice c1.2.1.a c1.2.1.len c1.2.1.cap) H7 fun H8 =>
          St ((adr b3).add 2) (.slice c1.2.2.1.a c1.2.2.1.len c1.2.2.1.cap) H8 fun H9 =>
          St ((adr b3).add 3) (.slice c1.2.2.2.1.a c1.2.2.2.1.len c1.2.2.2.1.cap) H9 fun H10 =>
          St ((adr b3).add 4) (.string c1.2.2.2.2.1) H10 fun H11 =>
          St ((adr b3).add 5) (.int .i64 c1.2.2.2.2.2.1) H11 fun H12 =>
          St ((adr b3).add 6) (.int .i64 c1.2.2.2.2.2.2.1) H12 fun H13 =>
          St ((adr b3).add 7) (.slice c1.2.2.2.2.2.2.2.a c1.2.2.2.2.2.2.2.len c1.2.2.2.2.2.2.2.cap) H13 fun H14 =>
          CallT Pg f_code_sets [.pointer (some (adr b3))] (.one (.agg [.ptr, .ptr, .ptr, .ptr])) H14 fun (r1 : Option Addr × Option Addr × Option Addr × Option Addr) H15 =>
          LoopT (σ := Int) /-  -/ (fun next2 s2 H16 =>
            Br (decide (s2 < 4)) (
              ArI .ptr 4 #[.pointer r1.1, .pointer r1.2.1, .pointer r1.2.2.1, .pointer r1.2.2.2] s2 fun (b4 : Option Addr) =>
              NilCk b4 fun a2 =>
              Ld .sl a2 H16 fun (x4 : Sl) =>
              CallT Pg f_code_rises [.slice x4.a x4.len x4.cap] (.one (.c .bool)) H16 fun (r2 : Bool) H17 =>
              Br (!r2) (
                k false H17) (
                Lt (IntKind.wrap .i64 (s2 + 1)) fun t1 =>
                next2 t1 H17)) (
              LdC [.str, (.int .i64), (.int .i64), .sl] ((adr b3).add 4) H16 fun (c2 : ByteArray × Int × Int × Sl) =>
              CallT Pg f_code_written [.agg #[.string c2.1, .int .i64 c2.2.1, .int .i64 c2.2.2.1, .slice c2.2.2.2.a c2.2.2.2.len c2.2.2.2.cap], .pointer (some (adr b2))] (.one (.c .bool)) H16 fun (r3 : Bool) H18 =>
              Br (!r3) (
                k false H18) (
                Lt (IntKind.wrap .i64 (s1 + 1)) fun t2 =>
                next1 t2 H18))) 0 H15) (
          Ld .sl ((adr b1).add 1) H5 fun (x5 : Sl) =>
          LoopT (σ := Int) /-  -/ (fun next3 s3 H19 =>
            Br (decide (s3 < (x5.len : Int))) (
              IxA 4 x5 s3 fun a3 =>
              LdC [.str, (.int .i64), (.int .i64), .sl] a3 H19 fun (c3 : ByteArray × Int × Int × Sl) =>
              Nw #[.string ByteArray.empty, .int .i64 0, .int .i64 0, .slice none 0 0] T_api_Routine H19 fun b5 H20 =>
              St ((adr b5).add 0) (.string c3.1) H20 fun H21 =>
              St ((adr b5).add 1) (.int .i64 c3.2.1) H21 fun H22 =>
              St ((adr b5).add 2) (.int .i64 c3.2.2.1) H22 fun H23 =>
              St ((adr b5).add 3) (.slice c3.2.2.2.a c3.2.2.2.len c3.2.2.2.cap) H23 fun H24 =>
              LdC [.str, (.int .i64), (.int .i64), .sl] (adr b5) H24 fun (c4 : ByteArray × Int × Int × Sl) =>
              CallT Pg f_code_written [.agg #[.string c4.1, .int .i64 c4.2.1, .int .i64 c4.2.2.1, .slice c4.2.2.2.a c4.2.2.2.len c4.2.2.2.cap], .pointer (some (adr b2))] (.one (.c .bool)) H24 fun (r4 : Bool) H25 =>
              Br (!r4) (
                k false H25) (
                Lt (IntKind.wrap .i64 (s3 + 1)) fun t3 =>
                next3 t3 H25)) (
              k true H19)) 0 H5)) 0 H4)
def h_code_may : Hint := (.two .no (.two .no (.two (.two (.join [(19, (.c .bool))] .no) .no) (.two (.two .no (.one (.loop [(23, (.c (.int .i64)))] (.two .no (.two .no (.two (.one (.two .no (.two (.two .no (.one (.loop [(28, (.c (.int .i64)))] .no))) .no))) .no)))))) (.two (.two .no (.one (.loop [(45, (.c (.int .i64)))] .no))) .no)))))
theorem e_code_may (p_ : Sl × Sl) (H : Heap) (k : Bool → Heap → Prop) : EFun Pg Tryz.f40 h_code_may [.agg #[.slice p_.1.a p_.1.len p_.1.cap, .slice p_.2.a p_.2.len p_.2.cap]] (.one (.c .bool)) H k = v_code_may p_ H k := by kernel_rfl
theorem c_code_may (p_ : Sl × Sl) {H : Heap} {k : Bool → Heap → Prop} (h : v_code_may p_ H k) : CallT Pg f_code_may [.agg #[.slice p_.1.a p_.1.len p_.1.cap, .slice p_.2.a p_.2.len p_.2.cap]] (.one (.c .bool)) H k :=
  call_of_E Pg_mixed Tryz.func40 (by kernel_rfl) (by kernel_rfl) (by kernel_rfl) (by kernel_rfl) ((e_code_may p_ H k).symm ▸ h)
/-- hindcast/code.put -/
def v_code_put (b_ : Sl) (n_ : Int) (H : Heap) (k : Sl → Heap → Prop) : Prop :=
    CallT Pg f_pack_Put [.slice b_.a b_.len b_.cap, .int .u64 (IntKind.wrap .u64 n_)] (.one (.c .sl)) H fun (r1 : Sl) H1 =>
    k r1 H1
def h_code_put : Hint := .no
theorem e_code_put (b_ : Sl) (n_ : Int) (H : Heap) (k : Sl → Heap → Prop) : EFun Pg Tryz.f41 h_code_put [.slice b_.a b_.len b_.cap, .int .i64 n_] (.one (.c .sl)) H k = v_code_put b_ n_ H k := by kernel_rfl
theorem c_code_put (b_ : Sl) (n_ : Int) {H : Heap} {k : Sl → Heap → Prop} (h : v_code_put b_ n_ H k) : CallT Pg f_code_put [.slice b_.a b_.len b_.cap, .int .i64 n_] (.one (.c .sl)) H k :=
  call_of_E Pg_mixed Tryz.func41 (by kernel_rfl) (by kernel_rfl) (by kernel_rfl) (by kernel_rfl) ((e_code_put b_ n_ H k).symm ▸ h)
/-- hindcast/code.sets -/
def v_code_sets (s_ : Option Addr) (H : Heap) (k : Option Addr × Option Addr × Option Addr × Option Addr → Heap → Prop) : Prop :=
    Nw #[.pointer none, .pointer none, .pointer none, .pointer none] T_4_P_Sl_int H fun b1 H1 =>
    NilCk s_ fun a1 =>
    NilCk s_ fun a2 =>
    NilCk s_ fun a3 =>
    NilCk s_ fun a4 =>
    St ((adr b1).add 0) (.pointer (some a1)) H1 fun H2 =>
    St ((adr b1).add 1) (.pointer (some (a2.add 1))) H2 fun H3 =>
    St ((adr b1).add 2) (.pointer (some (a3.add 2))) H3 fun H4 =>
    St ((adr b1).add 3) (.pointer (some (a4.add 3))) H4 fun H5 =>
    LdC [.ptr, .ptr, .ptr, .ptr] (adr b1) H5 fun (c1 : Option Addr × Option Addr × Option Addr × Option Addr) =>
    k (c1.1, c1.2.1, c1.2.2.1, c1.2.2.2) H5
def h_code_sets : Hint := .no
theorem e_code_sets (s_ : Option Addr) (H : Heap) (k : Option Addr × Option Addr × Option Addr × Option Addr → Heap → Prop) : EFun Pg Tryz.f42 h_code_sets [.pointer s_] (.one (.agg [.ptr, .ptr, .ptr, .ptr])) H k = v_code_sets s_ H k := by kernel_rfl
theorem c_code_sets (s_ : Option Addr) {H : Heap} {k : Option Addr × Option Addr × Option Addr × Option Addr → Heap → Prop} (h : v_code_sets s_ H k) : CallT Pg f_code_sets [.pointer s_] (.one (.agg [.ptr, .ptr, .ptr, .ptr])) H k :=
  call_of_E Pg_mixed Tryz.func42 (by kernel_rfl) (by kernel_rfl) (by kernel_rfl) (by kernel_rfl) ((e_code_sets s_ H k).symm ▸ h)
/-- hindcast/code.putRoutine -/
def v_code_putRoutine (b_ : Sl) (r_ : ByteArray × Int × Int × Sl) (H : Heap) (k : Sl → Heap → Prop) : Prop :=
    Nw #[.string r_.1, .int .i64 r_.2.1, .int .i64 r_.2.2.1, .slice r_.2.2.2.a r_.2.2.2.len r_.2.2.2.cap] T_api_Routine H fun b1 H1 =>
    Ld .str (adr b1) H1 fun (x1 : ByteArray) =>
    Ld (.int .i64) ((adr b1).add 1) H1 fun (x2 : Int) =>
    Ld (.int .i64) ((adr b1).add 2) H1 fun (x3 : Int) =>
    Ld .sl ((adr b1).add 3) H1 fun (x4 : Sl) =>
    CallT Pg f_pack_PutText [.slice b_.a b_.len b_.cap, .string x1] (.one (.c .sl)) H1 fun (r1 : Sl) H2 =>
    Stab [((adr b1).add 3, .slice x4.a x4.len x4.cap), ((adr b1).add 2, .int .i64 x3), ((adr b1).add 1, .int .i64 x2)] H2 <|
    CallT Pg f_code_put [.slice r1.a r1.len r1.cap, .int .i64 x2] (.one (.c .sl)) H2 fun (r2 : Sl) H3 =>
    Stab [((adr b1).add 3, .slice x4.a x4.len x4.cap), ((adr b1).add 2, .int .i64 x3), (adr b1, .string x1)] H3 <|
    CallT Pg f_code_put [.slice r2.a r2.len r2.cap, .int .i64 x3] (.one (.c .sl)) H3 fun (r3 : Sl) H4 =>
    Stab [((adr b1).add 3, .slice x4.a x4.len x4.cap), ((adr b1).add 1, .int .i64 x2), (adr b1, .string x1)] H4 <|
    CallT Pg f_code_put [.slice r3.a r3.len r3.cap, .int .i64 (x4.len : Int)] (.one (.c .sl)) H4 fun (r4 : Sl) H5 =>
    Stab [((adr b1).add 3, .slice x4.a x4.len x4.cap), ((adr b1).add 2, .int .i64 x3), ((adr b1).add 1, .int .i64 x2), (adr b1, .string x1)] H5 <|
    Ld .sl ((adr b1).add 3) H5 fun (x5 : Sl) =>
    LoopT (σ := Sl × Int) /- b,  -/ (fun next1 s1 H6 =>
      Br (decide (s1.2 < (x5.len : Int))) (
        Jn (σ := Sl) /- b -/ (fun kk1 =>
          IxA 2 x5 s1.2 fun a1 =>
          LdC [(.int .i64), (.int .i64)] a1 H6 fun (c1 : Int × Int) =>
          Nw #[.int .i64 0, .int .i64 0] T_api_Instr H6 fun b2 H8 =>
          St ((adr b2).add 0) (.int .i64 c1.1) H8 fun H9 =>
          St ((adr b2).add 1) (.int .i64 c1.2) H9 fun H10 =>
          Ld (.int .i64) (adr b2) H10 fun (x6 : Int) =>
          CallT Pg f_code_put [.slice s1.1.a s1.1.len s1.1.cap, .int .i64 x6] (.one (.c .sl)) H10 fun (r5 : Sl) H11 =>
          Ld (.int .i64) (adr b2) H11 fun (x7 : Int) =>
          CallT Pg f_code_shapeOf [.int .i64 x7] (.one (.agg [.str, .bool, (.int .i64), (.int .i64), (.int .i64)])) H11 fun (r6 : ByteArray × Bool × Int × Int × Int) H12 =>
          Jn (σ := Sl) /- b -/ (fun kk2 =>
            Br r6.2.1 (
              Ld (.int .i64) ((adr b2).add 1) H12 fun (x8 : Int) =>
              CallT Pg f_pack_PutInt [.slice r5.a r5.len r5.cap, .int .i64 x8] (.one (.c .sl)) H12 fun (r7 : Sl) H14 =>
              kk2 r7 H14) (
              kk2 r5 H12)) fun j2 H13 =>
          kk1 j2 H13) fun j1 H7 =>
        Lt (IntKind.wrap .i64 (s1.2 + 1)) fun t1 =>
        next1 (j1, t1) H7) (
        k s1.1 H6)) (r4, 0) H5
def h_code_putRoutine : Hint := (.two .no (.two .no (.two (.two .no (.one (.loop [(0, (.c .sl)), (24, (.c (.int .i64)))] (.two .no (.two .no (.two (.join [(0, (.c .sl))] (.one (.two .no (.two .no (.two .no (.join [(0, (.c .sl))] .no)))))) .no)))))) .no)))
theorem e_code_putRoutine (b_ : Sl) (r_ : ByteArray × Int × Int × Sl) (H : Heap) (k : Sl → Heap → Prop) : EFun Pg Tryz.f43 h_code_putRoutine [.slice b_.a b_.len b_.cap, .agg #[.string r_.1, .int .i64 r_.2.1, .int .i64 r_.2.2.1, .slice r_.2.2.2.a r_.2.2.2.len r_.2.2.2.cap]] (.one (.c .sl)) H k = v_code_putRoutine b_ r_ H k := by kernel_rfl
theorem c_code_putRoutine (b_ : Sl) (r_ : ByteArray × Int × Int × Sl) {H : Heap} {k : Sl → Heap → Prop} (h : v_code_putRoutine b_ r_ H k) : CallT Pg f_code_putRoutine [.slice b_.a b_.len b_.cap, .agg #[.string r_.1, .int .i64 r_.2.1, .int .i64 r_.2.2.1, .slice r_.2.2.2.a r_.2.2.2.len r_.2.2.2.cap]] (.one (.c .sl)) H k :=
  call_of_E Pg_mixed Tryz.func43 (by kernel_rfl) (by kernel_rfl) (by kernel_rfl) (by kernel_rfl) ((e_code_putRoutine b_ r_ H k).symm ▸ h)
/-- slices.ContainsFunc[[]int,int] -/
def v_slices_ContainsFunc_Sl_int_int (s_ : Sl) (f_ : Value) (H : Heap) (k : Bool → Heap → Prop) : Prop :=
    CallT Pg f_slices_IndexFunc_Sl_int_int [.slice s_.a s_.len s_.cap, f_] (.one (.c (.int .i64))) H fun (r1 : Int) H1 =>
    k (decide (r1 ≥ 0)) H1
def h_slices_ContainsFunc_Sl_int_int : Hint := .no
theorem e_slices_ContainsFunc_Sl_int_int (s_ : Sl) (f_ : Value) (H : Heap) (k : Bool → Heap → Prop) : EFun Pg Tryz.f44 h_slices_ContainsFunc_Sl_int_int [.slice s_.a s_.len s_.cap, f_] (.one (.c .bool)) H k = v_slices_ContainsFunc_Sl_int_int s_ f_ H k := by kernel_rfl
theorem c_slices_ContainsFunc_Sl_int_int (s_ : Sl) (f_ : Value) {H : Heap} {k : Bool → Heap → Prop} (h : v_slices_ContainsFunc_Sl_int_int s_ f_ H k) : CallT Pg f_slices_ContainsFunc_Sl_int_int [.slice s_.a s_.len s_.cap, f_] (.one (.c .bool)) H k :=
  call_of_E Pg_mixed Tryz.func44 (by kernel_rfl) (by kernel_rfl) (by kernel_rfl) (by kernel_rfl) ((e_slices_ContainsFunc_Sl_int_int s_ f_ H k).symm ▸ h)
/-- (*hindcast/verify.checker).sets$1 -/
def v_verify_checker_sets_1 (k_ : Int) (free0_ : Addr) (H : Heap) (k : Bool → Heap → Prop) : Prop :=
    Ld .ptr free0_ H fun (x1 : Option Addr) =>
    NilCk x1 fun a1 =>
    Ld .sl (a1.add 2) H fun (x2 : Sl) =>
    k (decide (k_ > (x2.len : Int))) H
def h_verify_checker_sets_1 : Hint := .no
theorem e_verify_checker_sets_1 (k_ : Int) (free0_ : Addr) (H : Heap) (k : Bool → Heap → Prop) : EFun Pg Tryz.f45 h_verify_checker_sets_1 [.int .i64 k_, .pointer (some free0_)] (.one (.c .bool)) H k = v_verify_checker_sets_1 k_ free0_ H k := by kernel_rfl
theorem c_verify_checker_sets_1 (k_ : Int) (free0_ : Addr) {H : Heap} {k : Bool → Heap → Prop} (h : v_verify_checker_sets_1 k_ free0_ H k) : CallT Pg f_verify_checker_sets_1 [.int .i64 k_, .pointer (some free0_)] (.one (.c .bool)) H k :=
  call_of_E Pg_mixed Tryz.func45 (by kernel_rfl) (by kernel_rfl) (by kernel_rfl) (by kernel_rfl) ((e_verify_checker_sets_1 k_ free0_ H k).symm ▸ h)
/-- (*hindcast/verify.checker).access -/
def v_verify_checker_access (t0_ : Option Addr) (t1_ : Int × ByteArray × Int × Int × Sl × Option Addr) (t2_ : Int) (H : Heap) (k : Bool → Heap → Prop) : Prop :=
    Nw #[.int .i64 t1_.1, .string t1_.2.1, .int .i64 t1_.2.2.1, .int .i64 t1_.2.2.2.1, .slice t1_.2.2.2.2.1.a t1_.2.2.2.2.1.len t1_.2.2.2.2.1.cap, .pointer t1_.2.2.2.2.2] T_verify_routine H fun b1 H1 =>
    Ld .sl (((adr b1).add 1).add 3) H1 fun (x1 : Sl) =>
    IxA 2 x1 t2_ fun a1 =>
    LdC [(.int .i64), (.int .i64)] a1 H1 fun (c1 : Int × Int) =>
    Nw #[.int .i64 0, .int .i64 0] T_api_Instr H1 fun b2 H2 =>
    St ((adr b2).add 0) (.int .i64 c1.1) H2 fun H3 =>
    St ((adr b2).add 1) (.int .i64 c1.2) H3 fun H4 =>
    Jn (σ := Bool) /- t21 -/ (fun kk1 =>
      Ld .ptr ((adr b1).add 5) H4 fun (x2 : Option Addr) =>
      Br x2.isNone (
        Ld (.int .i64) (adr b2) H4 fun (x3 : Int) =>
        CallT Pg f_verify_outer [.int .i64 x3] (.one (.c .bool)) H4 fun (r1 : Bool) H6 =>
        kk1 r1 H6) (
        kk1 false H4)) fun j1 H5 =>
    Br j1 (
      k false H5) (
      Ld (.int .i64) (adr b2) H5 fun (x4 : Int) =>
      Jn (σ := Bool) /- t24 -/ (fun kk2 =>
        Br (x4 == 2) (
          kk2 true H5) (
          kk2 (x4 == 3) H5)) fun j2 H7 =>
      Br j2 (
        Jn (σ := Bool) /- t6 -/ (fun kk3 =>
          Ld (.int .i64) ((adr b2).add 1) H7 fun (x5 : Int) =>
          Br (decide (x5 ≥ 0)) (
            Ld (.int .i64) ((adr b2).add 1) H7 fun (x6 : Int) =>
            Ld (.int .i64) (((adr b1).add 1).add 2) H7 fun (x7 : Int) =>
            kk3 (decide (x6 < x7)) H7) (
            kk3 false H7)) fun j3 H8 =>
        k j3 H8) (
        Br (x4 == 4) (
          Ld (.int .i64) ((adr b2).add 1) H7 fun (x8 : Int) =>
          Ld .ptr ((adr b1).add 5) H7 fun (x9 : Option Addr) =>
          NilCk x9 fun a2 =>
          Ld .sl (a2.add 2) H7 fun (x10 : Sl) =>
          Ld .ptr ((adr b1).add 5) H7 fun (x11 : Option Addr) =>
          NilCk x11 fun a3 =>
          Ld .sl (a3.add 3) H7 fun (x12 : Sl) =>
          Nw #[.slice x10.a x10.len x10.cap, .slice x12.a x12.len x12.cap] T_Sl_int H7 fun b3 H9 =>
          Stab [((adr b1).add 5, .pointer x11), ((adr b1).add 5, .pointer x9), ((adr b2).add 1, .int .i64 x8)] H9 <|
          CallT Pg f_verify_checker_declared [.pointer t0_, .int .i64 x8, .slice (some (adr b3)) 2 2] (.one (.c .bool)) H9 fun (r2 : Bool) H10 =>
          Stab [(a3.add 3, .slice x12.a x12.len x12.cap), ((adr b1).add 5, .pointer x11), (a2.add 2, .slice x10.a x10.len x10.cap), ((adr b1).add 5, .pointer x9)] H10 <|
          k r2 H10) (
          Br (x4 == 5) (
            Ld (.int .i64) ((adr b2).add 1) H7 fun (x13 : Int) =>
            Ld .ptr ((adr b1).add 5) H7 fun (x14 : Option Addr) =>
            NilCk x14 fun a4 =>
            Ld .sl (a4.add 3) H7 fun (x15 : Sl) =>
            Nw #[.slice x15.a x15.len x15.cap] T_Sl_int H7 fun b4 H11 =>
            Stab [((adr b1).add 5, .pointer x14), ((adr b2).add 1, .int .i64 x13)] H11 <|
            CallT Pg f_verify_checker_declared [.pointer t0_, .int .i64 x13, .slice (some (adr b4)) 1 1] (.one (.c .bool)) H11 fun (r3 : Bool) H12 =>
            Stab [(a4.add 3, .slice x15.a x15.len x15.cap), ((adr b1).add 5, .pointer x14)] H12 <|
            k r3 H12) (
            Br (x4 == 21) (
              Jn (σ := Bool) /- t6 -/ (fun kk4 =>
                Ld (.int .i64) ((adr b2).add 1) H7 fun (x16 : Int) =>
                Br (decide (x16 ≥ 0)) (
                  Ld (.int .i64) ((adr b2).add 1) H7 fun (x17 : Int) =>
                  NilCk t0_ fun a5 =>
                  Ld .sl (a5.add 1) H7 fun (x18 : Sl) =>
                  kk4 (decide (x17 < (x18.len : Int))) H7) (
                  kk4 false H7)) fun j4 H13 =>
              k j4 H13) (
              Br (x4 == 22) (
                Ld .ptr ((adr b1).add 5) H7 fun (x19 : Option Addr) =>
                k x19.isNone H7) (
                Br (x4 == 26) (
                  Jn (σ := Bool) /- t6 -/ (fun kk5 =>
                    Ld (.int .i64) ((adr b2).add 1) H7 fun (x20 : Int) =>
                    CallT Pg f_verify_checker_whole [.pointer t0_, .int .i64 x20] (.one (.c .bool)) H7 fun (r4 : Bool) H15 =>
                    Br r4 (
                      LdC [.str, (.int .i64), (.int .i64), .sl] ((adr b1).add 1) H15 fun (c2 : ByteArray × Int × Int × Sl) =>
                      CallT Pg f_verify_row [.agg #[.string c2.1, .int .i64 c2.2.1, .int .i64 c2.2.2.1, .slice c2.2.2.2.a c2.2.2.2.len c2.2.2.2.cap], .int .i64 t2_] (.one (.c .bool)) H15 fun (r5 : Bool) H16 =>
                      kk5 r5 H16) (
                      kk5 false H15)) fun j5 H14 =>
                  k j5 H14) (
                  Br (x4 == 28) (
                    Ld (.int .i64) ((adr b2).add 1) H7 fun (x21 : Int) =>
                    CallT Pg f_verify_checker_whole [.pointer t0_, .int .i64 x21] (.one (.c .bool)) H7 fun (r6 : Bool) H17 =>
                    k r6 H17) (
                    Jn (σ := Bool) /- t106 -/ (fun kk6 =>
                      Br (x4 == 29) (
                        kk6 true H7) (
                        kk6 (x4 == 35) H7)) fun j6 H18 =>
                    Br j6 (
                      Ld (.int .i64) ((adr b2).add 1) H18 fun (x22 : Int) =>
                      CallT Pg f_verify_checker_fields [.pointer t0_, .int .i64 x22] (.one (.c (.int .i64))) H18 fun (r7 : Int) H19 =>
                      k (decide (r7 ≥ 0)) H19) (
                      k true H18)))))))))
def h_verify_checker_access : Hint := (.two .no (.two .no (.two (.two (.join [(21, (.c .bool))] .no) .no) (.two (.two .no (.one (.two (.two .no (.join [(24, (.c .bool))] .no)) (.two (.two (.join [(6, (.c .bool))] .no) .no) (.two .no (.two .no (.two .no (.two .no (.two .no (.two (.two (.join [(6, (.c .bool))] .no) .no) (.two .no (.two .no (.two .no (.two (.two (.join [(6, (.c .bool))] .no) .no) (.two .no (.two .no (.two (.two .no (.join [(106, (.c .bool))] .no)) .no))))))))))))))))) .no))))
theorem e_verify_checker_access (t0_ : Option Addr) (t1_ : Int × ByteArray × Int × Int × Sl × Option Addr) (t2_ : Int) (H : Heap) (k : Bool → Heap → Prop) : EFun Pg Tryz.f46 h_verify_checker_access [.pointer t0_, .agg #[.int .i64 t1_.1, .string t1_.2.1, .int .i64 t1_.2.2.1, .int .i64 t1_.2.2.2.1, .slice t1_.2.2.2.2.1.a t1_.2.2.2.2.1.len t1_.2.2.2.2.1.cap, .pointer t1_.2.2.2.2.2], .int .i64 t2_] (.one (.c .bool)) H k = v_verify_checker_access t0_ t1_ t2_ H k := by kernel_rfl
theorem c_verify_checker_access (t0_ : Option Addr) (t1_ : Int × ByteArray × Int × Int × Sl × Option Addr) (t2_ : Int) {H : Heap} {k : Bool → Heap → Prop} (h : v_verify_checker_access t0_ t1_ t2_ H k) : CallT Pg f_verify_checker_access [.pointer t0_, .agg #[.int .i64 t1_.1, .string t1_.2.1, .int .i64 t1_.2.2.1, .int .i64 t1_.2.2.2.1, .slice t1_.2.2.2.2.1.a t1_.2.2.2.2.1.len t1_.2.2.2.2.1.cap, .pointer t1_.2.2.2.2.2], .int .i64 t2_] (.one (.c .bool)) H k :=
  call_of_E Pg_mixed Tryz.func46 (by kernel_rfl) (by kernel_rfl) (by kernel_rfl) (by kernel_rfl) ((e_verify_checker_access t0_ t1_ t2_ H k).symm ▸ h)
/-- hindcast/verify.jumps -/
def v_verify_jumps (i_ : Int × Int) (H : Heap) (k : Bool → Heap → Prop) : Prop :=
    Nw #[.int .i64 i_.1, .int .i64 i_.2] T_api_Instr H fun b1 H1 =>
    Jn (σ := Bool) /-  -/ (fun kk1 =>
      Ld (.int .i64) (adr b1) H1 fun (x1 : Int) =>
      Br (x1 == 19) (
        kk1 true H1) (
        Ld (.int .i64) (adr b1) H1 fun (x2 : Int) =>
        kk1 (x2 == 20) H1)) fun j1 H2 =>
    k j1 H2
def h_verify_jumps : Hint := (.two .no (.two (.join [(2, (.c .bool))] .no) .no))
theorem e_verify_jumps (i_ : Int × Int) (H : Heap) (k : Bool → Heap → Prop) : EFun Pg Tryz.f47 h_verify_jumps [.agg #[.int .i64 i_.1, .int .i64 i_.2]] (.one (.c .bool)) H k = v_verify_jumps i_ H k := by kernel_rfl
theorem c_verify_jumps (i_ : Int × Int) {H : Heap} {k : Bool → Heap → Prop} (h : v_verify_jumps i_ H k) : CallT Pg f_verify_jumps [.agg #[.int .i64 i_.1, .int .i64 i_.2]] (.one (.c .bool)) H k :=
  call_of_E Pg_mixed Tryz.func47 (by kernel_rfl) (by kernel_rfl) (by kernel_rfl) (by kernel_rfl) ((e_verify_jumps i_ H k).symm ▸ h)
/-- hindcast/verify.op -/
def v_verify_op (r_ : ByteArray × Int × Int × Sl) (at_ : Int) (H : Heap) (k : Int → Heap → Prop) : Prop :=
    Nw #[.string r_.1, .int .i64 r_.2.1, .int .i64 r_.2.2.1, .slice r_.2.2.2.a r_.2.2.2.len r_.2.2.2.cap] T_api_Routine H fun b1 H1 =>
    Jn (σ := Bool) /-  -/ (fun kk1 =>
      Br (decide (at_ < 0)) (
        kk1 true H1) (
        Ld .sl ((adr b1).add 3) H1 fun (x1 : Sl) =>
        kk1 (decide (at_ ≥ (x1.len : Int))) H1)) fun j1 H2 =>
    Br j1 (
      k 0 H2) (
      Ld .sl ((adr b1).add 3) H2 fun (x2 : Sl) =>
      IxA 2 x2 at_ fun a1 =>
      Ld (.int .i64) a1 H2 fun (x3 : Int) =>
      k x3 H2)
def h_verify_op : Hint := (.two .no (.two (.two (.join [(13, (.c .bool))] .no) .no) .no))
theorem e_verify_op (r_ : ByteArray × Int × Int × Sl) (at_ : Int) (H : Heap) (k : Int → Heap → Prop) : EFun Pg Tryz.f48 h_verify_op [.agg #[.string r_.1, .int .i64 r_.2.1, .int .i64 r_.2.2.1, .slice r_.2.2.2.a r_.2.2.2.len r_.2.2.2.cap], .int .i64 at_] (.one (.c (.int .i64))) H k = v_verify_op r_ at_ H k := by kernel_rfl
theorem c_verify_op (r_ : ByteArray × Int × Int × Sl) (at_ : Int) {H : Heap} {k : Int → Heap → Prop} (h : v_verify_op r_ at_ H k) : CallT Pg f_verify_op [.agg #[.string r_.1, .int .i64 r_.2.1, .int .i64 r_.2.2.1, .slice r_.2.2.2.a r_.2.2.2.len r_.2.2.2.cap], .int .i64 at_] (.one (.c (.int .i64))) H k :=
  call_of_E Pg_mixed Tryz.func48 (by kernel_rfl) (by kernel_rfl) (by kernel_rfl) (by kernel_rfl) ((e_verify_op r_ at_ H k).symm ▸ h)
/-- (*hindcast/verify.checker).calls$1 -/
def v_verify_checker_calls_1 (from_ : Int) (to_ : Int) (seen_ : Value) (free0_ : Addr) (free1_ : Addr) (H : Heap) (k : Bool → Heap → Prop) : Prop :=
    Ld .ptr free0_ H fun (x1 : Option Addr) =>
    NilCk x1 fun a1 =>
    Ld .sl (a1.add 1) H fun (x2 : Sl) =>
    IxA 4 x2 from_ fun a2 =>
    Ld .sl (a2.add 3) H fun (x3 : Sl) =>
    LoopT (σ := Int) /-  -/ (fun next1 s1 H1 =>
      Br (decide (s1 < (x3.len : Int))) (
        Jn (σ := Unit) /-  -/ (fun kk1 =>
          IxA 2 x3 s1 fun a3 =>
          LdC [(.int .i64), (.int .i64)] a3 H1 fun (c1 : Int × Int) =>
          Nw #[.int .i64 0, .int .i64 0] T_api_Instr H1 fun b1 H3 =>
          St ((adr b1).add 0) (.int .i64 c1.1) H3 fun H4 =>
          St ((adr b1).add 1) (.int .i64 c1.2) H4 fun H5 =>
          Jn (σ := Bool) /-  -/ (fun kk2 =>
            Ld (.int .i64) (adr b1) H5 fun (x4 : Int) =>
            Br (x4 != 21) (
              kk2 true H5) (
              Ld (.int .i64) ((adr b1).add 1) H5 fun (x5 : Int) =>
              MpL (.int .i64) (.c .bool) false seen_ (.int .i64 x5) H5 fun (x6 : Bool) e1 =>
              kk2 x6 H5)) fun j2 H6 =>
          Br j2 (
            kk1 () H6) (
            Ld (.int .i64) ((adr b1).add 1) H6 fun (x7 : Int) =>
            MpU (.int .i64) seen_ (.int .i64 x7) (.bool true) H6 fun H7 =>
            Jn (σ := Bool) /-  -/ (fun kk3 =>
              Ld (.int .i64) ((adr b1).add 1) H7 fun (x8 : Int) =>
              Br (x8 == to_) (
                kk3 true H7) (
                Ld .raw free1_ H7 fun (x9 : Value) =>
                Ld (.int .i64) ((adr b1).add 1) H7 fun (x10 : Int) =>
                CallX Pg x9 [.int .i64 x10, .int .i64 to_, seen_] (.one (.c .bool)) H7 fun (r1 : Bool) H9 =>
                kk3 r1 H9)) fun j3 H8 =>
            Br j3 (
              k true H8) (
              kk1 () H8))) fun j1 H2 =>
        Lt (IntKind.wrap .i64 (s1 + 1)) fun t1 =>
        next1 t1 H2) (
        k false H1)) 0 H
def h_verify_checker_calls_1 : Hint := (.two .no (.two (.two .no (.one (.loop [(21, (.c (.int .i64)))] (.two .no (.two .no (.two (.join [] (.one (.two .no (.two (.two (.join [(33, (.c .bool))] .no) .no) (.two .no (.two (.join [(48, (.c .bool))] .no) .no)))))) .no)))))) .no))
theorem e_verify_checker_calls_1 (from_ : Int) (to_ : Int) (seen_ : Value) (free0_ : Addr) (free1_ : Addr) (H : Heap) (k : Bool → Heap → Prop) : EFun Pg Tryz.f49 h_verify_checker_calls_1 [.int .i64 from_, .int .i64 to_, seen_, .pointer (some free0_), .pointer (some free1_)] (.one (.c .bool)) H k = v_verify_checker_calls_1 from_ to_ seen_ free0_ free1_ H k := by kernel_rfl
theorem c_verify_checker_calls_1 (from_ : Int) (to_ : Int) (seen_ : Value) (free0_ : Addr) (free1_ : Addr) {H : Heap} {k : Bool → Heap → Prop} (h : v_verify_checker_calls_1 from_ to_ seen_ free0_ free1_ H k) : CallT Pg f_verify_checker_calls_1 [.int .i64 from_, .int .i64 to_, seen_, .pointer (some free0_), .pointer (some free1_)] (.one (.c .bool)) H k :=
  call_of_E Pg_mixed Tryz.func49 (by kernel_rfl) (by kernel_rfl) (by kernel_rfl) (by kernel_rfl) ((e_verify_checker_calls_1 from_ to_ seen_ free0_ free1_ H k).symm ▸ h)
/-- (*hindcast/verify.flow).idle -/
def v_verify_flow_idle (f_ : Option Addr) (at_ : Int) (H : Heap) (k : Bool → Heap → Prop) : Prop :=
    NilCk f_ fun a1 =>
    Ld .sl (a1.add 3) H fun (x1 : Sl) =>
    IxA 2 x1 at_ fun a2 =>
    LdC [(.int .i64), (.int .i64)] a2 H fun (c1 : Int × Int) =>
    Nw #[.int .i64 0, .int .i64 0] T_api_Instr H fun b1 H1 =>
    St ((adr b1).add 0) (.int .i64 c1.1) H1 fun H2 =>
    St ((adr b1).add 1) (.int .i64 c1.2) H2 fun H3 =>
    Jn (σ := Bool) /-  -/ (fun kk1 =>
      NilCk f_ fun a3 =>
      Ld .sl (a3.add 5) H3 fun (x2 : Sl) =>
      IxA 1 x2 at_ fun a4 =>
      Ld .raw a4 H3 fun (x3 : Value) =>
      MpN x3 H3 fun n1 =>
      Br (decide (n1 > 0)) (
        Ld (.int .i64) (adr b1) H3 fun (x4 : Int) =>
        Br (x4 != 24) (
          Ld (.int .i64) (adr b1) H3 fun (x5 : Int) =>
          kk1 (x5 != 21) H3) (
          kk1 false H3)) (
        kk1 false H3)) fun j1 H4 =>
    k j1 H4
def h_verify_flow_idle : Hint := (.two .no (.two .no (.two (.join [(4, (.c .bool))] .no) .no)))
theorem e_verify_flow_idle (f_ : Option Addr) (at_ : Int) (H : Heap) (k : Bool → Heap → Prop) : EFun Pg Tryz.f50 h_verify_flow_idle [.pointer f_, .int .i64 at_] (.one (.c .bool)) H k = v_verify_flow_idle f_ at_ H k := by kernel_rfl
theorem c_verify_flow_idle (f_ : Option Addr) (at_ : Int) {H : Heap} {k : Bool → Heap → Prop} (h : v_verify_flow_idle f_ at_ H k) : CallT Pg f_verify_flow_idle [.pointer f_, .int .i64 at_] (.one (.c .bool)) H k :=
  call_of_E Pg_mixed Tryz.func50 (by kernel_rfl) (by kernel_rfl) (by kernel_rfl) (by kernel_rfl) ((e_verify_flow_idle f_ at_ H k).symm ▸ h)
/-- (*hindcast/verify.flow).round -/
def v_verify_flow_round (f_ : Option Addr) (at_ : Int) (H : Heap) (k : Bool → Heap → Prop) : Prop :=
    NilCk f_ fun a1 =>
    Ld .sl (a1.add 3) H fun (x1 : Sl) =>
    Mks T_bool 1 1 #[.bool false] (x1.len : Int) (x1.len : Int) H fun l1 H1 =>
    Nw #[.int .i64 at_] T_int H1 fun b1 H2 =>
    LoopT (σ := Sl) /- todo -/ (fun next1 s1 H3 =>
      Br (decide ((s1.len : Int) > 0)) (
        Jn (σ := Sl) /- todo -/ (fun kk1 =>
          Lt (IntKind.wrap .i64 ((s1.len : Int) - 1)) fun t1 =>
          IxA 1 s1 t1 fun a2 =>
          Ld (.int .i64) a2 H3 fun (x2 : Int) =>
          Lt (IntKind.wrap .i64 ((s1.len : Int) - 1)) fun t2 =>
          SlA 1 s1 0 t2 (s1.cap : Nat) fun l2 =>
          CallT Pg f_verify_flow_idle [.pointer f_, .int .i64 x2] (.one (.c .bool)) H3 fun (r1 : Bool) H5 =>
          Br (!r1) (
            kk1 l2 H5) (
            NilCk f_ fun a3 =>
            LdC [.str, (.int .i64), (.int .i64), .sl] a3 H5 fun (c1 : ByteArray × Int × Int × Sl) =>
            CallT Pg f_verify_next [.agg #[.string c1.1, .int .i64 c1.2.1, .int .i64 c1.2.2.1, .slice c1.2.2.2.a c1.2.2.2.len c1.2.2.2.cap], .int .i64 x2] (.one (.c .sl)) H5 fun (r2 : Sl) H6 =>
            LoopT (σ := Sl × Int) /- todo,  -/ (fun next2 s2 H7 =>
              Br (decide (s2.2 < (r2.len : Int))) (
                Jn (σ := Sl) /- todo -/ (fun kk2 =>
                  IxA 1 r2 s2.2 fun a4 =>
                  Ld (.int .i64) a4 H7 fun (x3 : Int) =>
                  Br (x3 == at_) (
                    k true H7) (
                    IxA 1 l1 x3 fun a5 =>
                    Ld .bool a5 H7 fun (x4 : Bool) =>
                    Jn (σ := Sl) /- todo -/ (fun kk3 =>
                      Br (!x4) (
                        IxA 1 l1 x3 fun a6 =>
                        St a6 (.bool true) H7 fun H10 =>
                        Nw #[.int .i64 x3] T_int H10 fun b2 H11 =>
                        App T_int 1 8 #[.int .i64 0] s2.1 ⟨some (adr b2), 1, 1⟩ H11 fun l3 H12 =>
                        kk3 l3 H12) (
                        kk3 s2.1 H7)) fun j3 H9 =>
                    kk2 j3 H9)) fun j2 H8 =>
                Lt (IntKind.wrap .i64 (s2.2 + 1)) fun t3 =>
                next2 (j2, t3) H8) (
                kk1 s2.1 H7)) (l2, 0) H6)) fun j1 H4 =>
        next1 j1 H4) (
        k false H3)) ⟨some (adr b1), 1, 1⟩ H2
def h_verify_flow_round : Hint := (.two .no (.two .no (.two .no (.two (.one (.loop [(6, (.c .sl))] (.two .no (.join [(6, (.c .sl))] (.one (.two .no (.two .no (.two .no (.two .no (.one (.loop [(6, (.c .sl)), (44, (.c (.int .i64)))] (.two .no (.two .no (.two (.join [(6, (.c .sl))] (.one (.two .no (.two .no (.two .no (.join [(6, (.c .sl))] .no)))))) .no)))))))))))))) .no))))
theorem e_verify_flow_round (f_ : Option Addr) (at_ : Int) (H : Heap) (k : Bool → Heap → Prop) : EFun Pg Tryz.f51 h_verify_flow_round [.pointer f_, .int .i64 at_] (.one (.c .bool)) H k = v_verify_flow_round f_ at_ H k := by kernel_rfl
theorem c_verify_flow_round (f_ : Option Addr) (at_ : Int) {H : Heap} {k : Bool → Heap → Prop} (h : v_verify_flow_round f_ at_ H k) : CallT Pg f_verify_flow_round [.pointer f_, .int .i64 at_] (.one (.c .bool)) H k :=
  call_of_E Pg_mixed Tryz.func51 (by kernel_rfl) (by kernel_rfl) (by kernel_rfl) (by kernel_rfl) ((e_verify_flow_round f_ at_ H k).symm ▸ h)
/-- hindcast/verify.reach -/
def v_verify_reach (t0_ : ByteArray × Int × Int × Sl) (t1_ : Sl) (H : Heap) (k : Option Addr → Heap → Prop) : Prop :=
    Nw #[.string t0_.1, .int .i64 t0_.2.1, .int .i64 t0_.2.2.1, .slice t0_.2.2.2.a t0_.2.2.2.len t0_.2.2.2.cap] T_api_Routine H fun b1 H1 =>
    LdC [.str, (.int .i64), (.int .i64), .sl] (adr b1) H1 fun (c1 : ByteArray × Int × Int × Sl) =>
    Ld .sl ((adr b1).add 3) H1 fun (x1 : Sl) =>
    Mks T_Map_int_bool 1 8 #[(.map none)] (x1.len : Int) (x1.len : Int) H1 fun l1 H2 =>
    Stab [((adr b1).add 3, .slice x1.a x1.len x1.cap), ((adr b1).add 0, .string c1.1), ((adr b1).add 1, .int .i64 c1.2.1), ((adr b1).add 2, .int .i64 c1.2.2.1), ((adr b1).add 3, .slice c1.2.2.2.a c1.2.2.2.len c1.2.2.2.cap)] H2 <|
    Nw #[.string c1.1, .int .i64 c1.2.1, .int .i64 c1.2.2.1, .slice c1.2.2.2.a c1.2.2.2.len c1.2.2.2.cap, .slice t1_.a t1_.len t1_.cap, .slice l1.a l1.len l1.cap] T_verify_flow H2 fun b2 H3 =>
    Stab [((adr b1).add 3, .slice x1.a x1.len x1.cap), ((adr b1).add 0, .string c1.1), ((adr b1).add 1, .int .i64 c1.2.1), ((adr b1).add 2, .int .i64 c1.2.2.1), ((adr b1).add 3, .slice c1.2.2.2.a c1.2.2.2.len c1.2.2.2.cap)] H3 <|
    Nw #[.int .i64 0, .int .i64 0] T_verify_state H3 fun b3 H4 =>
    LoopT (σ := Sl) /- t6 -/ (fun next1 s1 H5 =>
      Br (decide ((s1.len : Int) > 0)) (
        Jn (σ := Sl) /- t6 -/ (fun kk1 =>
          Lt (IntKind.wrap .i64 ((s1.len : Int) - 1)) fun t1 =>
          IxA 2 s1 t1 fun a1 =>
          LdC [(.int .i64), (.int .i64)] a1 H5 fun (c2 : Int × Int) =>
          Nw #[.int .i64 0, .int .i64 0] T_verify_state H5 fun b4 H7 =>
          St ((adr b4).add 0) (.int .i64 c2.1) H7 fun H8 =>
          St ((adr b4).add 1) (.int .i64 c2.2) H8 fun H9 =>
          Lt (IntKind.wrap .i64 ((s1.len : Int) - 1)) fun t2 =>
          SlA 2 s1 0 t2 (s1.cap : Nat) fun l2 =>
          NilCk (some (adr b2)) fun a2 =>
          Ld .sl (a2.add 5) H9 fun (x2 : Sl) =>
          Ld (.int .i64) (adr b4) H9 fun (x3 : Int) =>
          IxA 1 x2 x3 fun a3 =>
          Ld .raw a3 H9 fun (x4 : Value) =>
          Ld (.int .i64) ((adr b4).add 1) H9 fun (x5 : Int) =>
          MpL (.int .i64) (.c .bool) false x4 (.int .i64 x5) H9 fun (x6 : Bool) e1 =>
          Stab [(adr b4, .int .i64 x3), (a2.add 5, .slice x2.a x2.len x2.cap)] H9 <|
          Br x6 (
            kk1 l2 H9) (
            NilCk (some (adr b2)) fun a4 =>
            Ld .sl (a4.add 5) H9 fun (x7 : Sl) =>
            Ld (.int .i64) (adr b4) H9 fun (x8 : Int) =>
            IxA 1 x7 x8 fun a5 =>
            Ld .raw a5 H9 fun (x9 : Value) =>
            MpNil x9 fun e2 =>
            Jn (σ := Unit) /-  -/ (fun kk2 =>
              Br e2 (
                NilCk (some (adr b2)) fun a6 =>
                Ld .sl (a6.add 5) H9 fun (x10 : Sl) =>
                Ld (.int .i64) (adr b4) H9 fun (x11 : Int) =>
                MkM H9 fun m1 H11 =>
                Stab [(adr b4, .int .i64 x11), (a6.add 5, .slice x10.a x10.len x10.cap)] H11 <|
                IxA 1 x10 x11 fun a7 =>
                StV a7 m1 H11 fun H12 =>
                kk2 () H12) (
                kk2 () H9)) fun j2 H10 =>
            NilCk (some (adr b2)) fun a8 =>
            Ld .sl (a8.add 5) H10 fun (x12 : Sl) =>
            Ld (.int .i64) (adr b4) H10 fun (x13 : Int) =>
            IxA 1 x12 x13 fun a9 =>
            Ld .raw a9 H10 fun (x14 : Value) =>
            Ld (.int .i64) ((adr b4).add 1) H10 fun (x15 : Int) =>
            MpU (.int .i64) x14 (.int .i64 x15) (.bool true) H10 fun H13 =>
            Ld (.int .i64) (adr b4) H13 fun (x16 : Int) =>
            Ld (.int .i64) ((adr b4).add 1) H13 fun (x17 : Int) =>
            CallT Pg f_verify_flow_fits [.pointer (some (adr b2)), .int .i64 x16, .int .i64 x17] (.tup [(.c (.int .i64)), (.c .bool)]) H13 fun (r1 : Int × Bool) H14 =>
            Br (!r1.2) (
              kk1 l2 H14) (
              LdC [.str, (.int .i64), (.int .i64), .sl] (adr b1) H14 fun (c3 : ByteArray × Int × Int × Sl) =>
              Ld (.int .i64) (adr b4) H14 fun (x18 : Int) =>
              CallT Pg f_verify_next [.agg #[.string c3.1, .int .i64 c3.2.1, .int .i64 c3.2.2.1, .slice c3.2.2.2.a c3.2.2.2.len c3.2.2.2.cap], .int .i64 x18] (.one (.c .sl)) H14 fun (r2 : Sl) H15 =>
              LoopT (σ := Sl × Int) /- t6, t90 -/ (fun next2 s2 H16 =>
                Br (decide (s2.2 < (r2.len : Int))) (
                  Jn (σ := Sl) /- t6 -/ (fun kk3 =>
                    IxA 1 r2 s2.2 fun a10 =>
                    Ld (.int .i64) a10 H16 fun (x19 : Int) =>
                    LdC [.str, (.int .i64), (.int .i64), .sl] (adr b1) H16 fun (c4 : ByteArray × Int × Int × Sl) =>
                    CallT Pg f_verify_there [.agg #[.string c4.1, .int .i64 c4.2.1, .int .i64 c4.2.2.1, .slice c4.2.2.2.a c4.2.2.2.len c4.2.2.2.cap], .int .i64 x19] (.one (.c .bool)) H16 fun (r3 : Bool) H18 =>
                    Jn (σ := Sl) /- t6 -/ (fun kk4 =>
                      Br r3 (
                        Nw #[.int .i64 x19, .int .i64 r1.1] T_verify_state H18 fun b5 H20 =>
                        App T_verify_state 2 16 #[.int .i64 0, .int .i64 0] s2.1 ⟨some (adr b5), 1, 1⟩ H20 fun l3 H21 =>
                        kk4 l3 H21) (
                        kk4 s2.1 H18)) fun j4 H19 =>
                    kk3 j4 H19) fun j3 H17 =>
                  Lt (IntKind.wrap .i64 (s2.2 + 1)) fun t3 =>
                  next2 (j3, t3) H17) (
                  kk1 s2.1 H16)) (l2, 0) H15))) fun j1 H6 =>
        next1 j1 H6) (
        k (some (adr b2)) H5)) ⟨some (adr b3), 1, 1⟩ H4
def h_verify_reach : Hint := (.two .no (.two .no (.two .no (.two (.one (.loop [(6, (.c .sl))] (.two .no (.join [(6, (.c .sl))] (.one (.two .no (.two .no (.two .no (.two (.two .no (.join [] .no)) (.two .no (.two .no (.two .no (.two .no (.one (.loop [(6, (.c .sl)), (90, (.c (.int .i64)))] (.two .no (.two .no (.two (.join [(6, (.c .sl))] (.one (.two .no (.two .no (.join [(6, (.c .sl))] .no))))) .no)))))))))))))))))) .no))))
theorem e_verify_reach (t0_ : ByteArray × Int × Int × Sl) (t1_ : Sl) (H : Heap) (k : Option Addr → Heap → Prop) : EFun Pg Tryz.f52 h_verify_reach [.agg #[.string t0_.1, .int .i64 t0_.2.1, .int .i64 t0_.2.2.1, .slice t0_.2.2.2.a t0_.2.2.2.len t0_.2.2.2.cap], .slice t1_.a t1_.len t1_.cap] (.one (.c .ptr)) H k = v_verify_reach t0_ t1_ H k := by kernel_rfl
theorem c_verify_reach (t0_ : ByteArray × Int × Int × Sl) (t1_ : Sl) {H : Heap} {k : Option Addr → Heap → Prop} (h : v_verify_reach t0_ t1_ H k) : CallT Pg f_verify_reach [.agg #[.string t0_.1, .int .i64 t0_.2.1, .int .i64 t0_.2.2.1, .slice t0_.2.2.2.a t0_.2.2.2.len t0_.2.2.2.cap], .slice t1_.a t1_.len t1_.cap] (.one (.c .ptr)) H k :=
  call_of_E Pg_mixed Tryz.func52 (by kernel_rfl) (by kernel_rfl) (by kernel_rfl) (by kernel_rfl) ((e_verify_reach t0_ t1_ H k).symm ▸ h)
/-- (*hindcast/verify.flow).first -/
def v_verify_flow_first (f_ : Option Addr) (H : Heap) (k : Option Addr → Heap → Prop) : Prop :=
    NilCk f_ fun a1 =>
    Ld .sl (a1.add 3) H fun (x1 : Sl) =>
    LoopT (σ := Int) /-  -/ (fun next1 s1 H1 =>
      Br (decide (s1 < (x1.len : Int))) (
        Jn (σ := Unit) /-  -/ (fun kk1 =>
          NilCk f_ fun a2 =>
          Ld .sl (a2.add 5) H1 fun (x2 : Sl) =>
          IxA 1 x2 s1 fun a3 =>
          Ld .raw a3 H1 fun (x3 : Value) =>
          MpN x3 H1 fun n1 =>
          Br (n1 == 0) (
            kk1 () H1) (
            CallT Pg f_verify_flow_wrong [.pointer f_, .int .i64 s1] (.one (.c (.int .i64))) H1 fun (r1 : Int) H3 =>
            Br (r1 != 0) (
              CallT Pg f_verify_fault [.int .i64 s1, .int .i64 r1] (.one (.c .ptr)) H3 fun (r2 : Option Addr) H4 =>
              k r2 H4) (
              kk1 () H3))) fun j1 H2 =>
        Lt (IntKind.wrap .i64 (s1 + 1)) fun t1 =>
        next1 t1 H2) (
        k none H1)) 0 H
def h_verify_flow_first : Hint := (.two .no (.two (.two .no (.one (.loop [(11, (.c (.int .i64)))] (.two .no (.two .no (.two (.join [] .no) .no)))))) .no))
theorem e_verify_flow_first (f_ : Option Addr) (H : Heap) (k : Option Addr → Heap → Prop) : EFun Pg Tryz.f53 h_verify_flow_first [.pointer f_] (.one (.c .ptr)) H k = v_verify_flow_first f_ H k := by kernel_rfl
theorem c_verify_flow_first (f_ : Option Addr) {H : Heap} {k : Option Addr → Heap → Prop} (h : v_verify_flow_first f_ H k) : CallT Pg f_verify_flow_first [.pointer f_] (.one (.c .ptr)) H k :=
  call_of_E Pg_mixed Tryz.func53 (by kernel_rfl) (by kernel_rfl) (by kernel_rfl) (by kernel_rfl) ((e_verify_flow_first f_ H k).symm ▸ h)
/-- hindcast/hindcastref15.reached -/
def v_hindcastref15_reached (t0_ : Sl) (t1_ : Sl) (H : Heap) (k : Sl → Heap → Prop) : Prop :=
    Mks T_65_bool 65 65 #[.bool false, .bool false, .bool false, .bool false, .bool false, .bool false, .bool false, .bool false, .bool false, .bool false, .bool false, .bool false, .bool false, .bool false, .bool false, .bool false, .bool false, .bool false, .bool false, .bool false, .bool false, .bool false, .bool false, .bool false, .bool false, .bool false, .bool false, .bool false, .bool false, .bool false, .bool false, .bool false, .bool false, .bool false, .bool false, .bool false, .bool false, .bool false, .bool false, .bool false, .bool false, .bool false, .bool false, .bool false, .bool false, .bool false, .bool false, .bool false, .bool false, .bool false, .bool false, .bool false, .bool false, .bool false, .bool false, .bool false, .bool false, .bool false, .bool false, .bool false, .bool false, .bool false, .bool false, .bool false, .bool false] (t0_.len : Int) (t0_.len : Int) H fun l1 H1 =>
    IxA 65 l1 0 fun a1 =>
    IxR 1 65 a1 0 fun a2 =>
    St a2 (.bool true) H1 fun H2 =>
    Nw #[.int .i64 0, .int .i64 0] T_2_int H2 fun b1 H3 =>
    LoopT (σ := Sl) /- t6 -/ (fun next1 s1 H4 =>
      Br (decide ((s1.len : Int) > 0)) (
        Jn (σ := Sl) /- t6 -/ (fun kk1 =>
          IxA 2 s1 0 fun a3 =>
          IxR 1 2 a3 0 fun a4 =>
          Ld (.int .i64) a4 H4 fun (x1 : Int) =>
          IxA 2 s1 0 fun a5 =>
          IxR 1 2 a5 1 fun a6 =>
          Ld (.int .i64) a6 H4 fun (x2 : Int) =>
          SlA 2 s1 1 (s1.len : Nat) (s1.cap : Nat) fun l2 =>
          IxA 2 t0_ x1 fun a7 =>
          LdC [(.int .i64), (.int .i64)] a7 H4 fun (c1 : Int × Int) =>
          CallT Pg f_hindcastref13_Effect [.agg #[.int .i64 c1.1, .int .i64 c1.2], .slice t1_.a t1_.len t1_.cap] (.tup [(.c (.int .i64)), (.c (.int .i64))]) H4 fun (r1 : Int × Int) H6 =>
          Lt (IntKind.wrap .i64 (x2 - r1.1)) fun t1 =>
          Lt (IntKind.wrap .i64 (t1 + r1.2)) fun t2 =>
          Jn (σ := Bool) /- t55 -/ (fun kk2 =>
            Br (decide (x2 < r1.1)) (
              kk2 true H6) (
              kk2 (decide (t2 > 64)) H6)) fun j2 H7 =>
          Br j2 (
            kk1 l2 H7) (
            CallT Pg f_hindcastref15_next [.slice t0_.a t0_.len t0_.cap, .int .i64 x1] (.one (.c .sl)) H7 fun (r2 : Sl) H8 =>
            LoopT (σ := Sl × Int) /- t6, t13 -/ (fun next2 s2 H9 =>
              Br (decide (s2.2 < (r2.len : Int))) (
                Jn (σ := Sl) /- t6 -/ (fun kk3 =>
                  Jn (σ := Bool) /- t83 -/ (fun kk4 =>
                    IxA 1 r2 s2.2 fun a8 =>
                    Ld (.int .i64) a8 H9 fun (x3 : Int) =>
                    Br (decide (x3 < (t0_.len : Int))) (
                      IxA 1 r2 s2.2 fun a9 =>
                      Ld (.int .i64) a9 H9 fun (x4 : Int) =>
                      IxA 65 l1 x4 fun a10 =>
                      IxR 1 65 a10 t2 fun a11 =>
                      Ld .bool a11 H9 fun (x5 : Bool) =>
                      kk4 (!x5) H9) (
                      kk4 false H9)) fun j4 H11 =>
                  Jn (σ := Sl) /- t6 -/ (fun kk5 =>
                    Br j4 (
                      IxA 1 r2 s2.2 fun a12 =>
                      Ld (.int .i64) a12 H11 fun (x6 : Int) =>
                      IxA 65 l1 x6 fun a13 =>
                      IxR 1 65 a13 t2 fun a14 =>
                      St a14 (.bool true) H11 fun H13 =>
                      IxA 1 r2 s2.2 fun a15 =>
                      Ld (.int .i64) a15 H13 fun (x7 : Int) =>
                      Nw #[.int .i64 x7, .int .i64 t2] T_2_int H13 fun b2 H14 =>
                      App T_2_int 2 16 #[.int .i64 0, .int .i64 0] s2.1 ⟨some (adr b2), 1, 1⟩ H14 fun l3 H15 =>
                      kk5 l3 H15) (
                      kk5 s2.1 H11)) fun j5 H12 =>
                  kk3 j5 H12) fun j3 H10 =>
                Lt (IntKind.wrap .i64 (s2.2 + 1)) fun t3 =>
                next2 (j3, t3) H10) (
                kk1 s2.1 H9)) (l2, 0) H8)) fun j1 H5 =>
        next1 j1 H5) (
        k l1 H4)) ⟨some (adr b1), 1, 1⟩ H3
def h_hindcastref15_reached : Hint := (.two .no (.two .no (.two .no (.two .no (.two (.one (.loop [(6, (.c .sl))] (.two .no (.join [(6, (.c .sl))] (.one (.two .no (.two .no (.two .no (.two .no (.two .no (.two (.two (.join [(55, (.c .bool))] .no) .no) (.two .no (.two .no (.one (.loop [(6, (.c .sl)), (13, (.c (.int .i64)))] (.two .no (.two (.join [(6, (.c .sl))] (.one (.two (.join [(83, (.c .bool))] .no) (.join [(6, (.c .sl))] .no)))) .no))))))))))))))))) .no)))))
theorem e_hindcastref15_reached (t0_ : Sl) (t1_ : Sl) (H : Heap) (k : Sl → Heap → Prop) : EFun Pg Tryz.f59 h_hindcastref15_reached [.slice t0_.a t0_.len t0_.cap, .slice t1_.a t1_.len t1_.cap] (.one (.c .sl)) H k = v_hindcastref15_reached t0_ t1_ H k := by kernel_rfl
theorem c_hindcastref15_reached (t0_ : Sl) (t1_ : Sl) {H : Heap} {k : Sl → Heap → Prop} (h : v_hindcastref15_reached t0_ t1_ H k) : CallT Pg f_hindcastref15_reached [.slice t0_.a t0_.len t0_.cap, .slice t1_.a t1_.len t1_.cap] (.one (.c .sl)) H k :=
  call_of_E Pg_mixed Tryz.func59 (by kernel_rfl) (by kernel_rfl) (by kernel_rfl) (by kernel_rfl) ((e_hindcastref15_reached t0_ t1_ H k).symm ▸ h)
/-- hindcast/hindcastref15.wrong -/
def v_hindcastref15_wrong (t0_ : Sl) (t1_ : Int) (t2_ : Value) (t3_ : Sl) (H : Heap) (k : Int → Heap → Prop) : Prop :=
    Nw (Value.cells t2_) T_65_bool H fun b1 H1 =>
    IxA 2 t0_ t1_ fun a1 =>
    LdC [(.int .i64), (.int .i64)] a1 H1 fun (c1 : Int × Int) =>
    CallT Pg f_hindcastref13_Effect [.agg #[.int .i64 c1.1, .int .i64 c1.2], .slice t3_.a t3_.len t3_.cap] (.tup [(.c (.int .i64)), (.c (.int .i64))]) H1 fun (r1 : Int × Int) H2 =>
    Jn (σ := Bool) /- t11 -/ (fun kk1 =>
      IxA 2 t0_ t1_ fun a2 =>
      Ld (.int .i64) a2 H2 fun (x1 : Int) =>
      Br (x1 == 19) (
        kk1 true H2) (
        IxA 2 t0_ t1_ fun a3 =>
        Ld (.int .i64) a3 H2 fun (x2 : Int) =>
        kk1 (x2 == 20) H2)) fun j1 H3 =>
    Jn (σ := Bool) /- t57 -/ (fun kk2 =>
      Br j1 (
        IxA 2 t0_ t1_ fun a4 =>
        Ld (.int .i64) (a4.add 1) H3 fun (x3 : Int) =>
        Br (decide (x3 < 0)) (
          kk2 true H3) (
          IxA 2 t0_ t1_ fun a5 =>
          Ld (.int .i64) (a5.add 1) H3 fun (x4 : Int) =>
          kk2 (decide (x4 ≥ (t0_.len : Int))) H3)) (
        kk2 false H3)) fun j2 H4 =>
    Br j2 (
      k 150 H4) (
      LoopT (σ := Int × Int) /- t12, t13 -/ (fun next1 s1 H5 =>
        Br (decide (s1.2 ≤ 64)) (
          Jn (σ := Int) /- t12 -/ (fun kk3 =>
            IxR 1 65 (adr b1) s1.2 fun a6 =>
            Ld .bool a6 H5 fun (x5 : Bool) =>
            Jn (σ := Int) /- t12 -/ (fun kk4 =>
              Br x5 (
                Lt (IntKind.wrap .i64 (s1.1 + 1)) fun t1 =>
                Jn (σ := Bool) /- t77 -/ (fun kk5 =>
                  Br (decide (s1.2 < r1.1)) (
                    kk5 true H5) (
                    Lt (IntKind.wrap .i64 (s1.2 - r1.1)) fun t2 =>
                    Lt (IntKind.wrap .i64 (t2 + r1.2)) fun t3 =>
                    kk5 (decide (t3 > 64)) H5)) fun j5 H8 =>
                Br j5 (
                  k 151 H8) (
                  kk4 t1 H8)) (
                kk4 s1.1 H5)) fun j4 H7 =>
            kk3 j4 H7) fun j3 H6 =>
          Lt (IntKind.wrap .i64 (s1.2 + 1)) fun t4 =>
          next1 (j3, t4) H6) (
          Br (decide (s1.1 > 1)) (
            k 151 H5) (
            CallT Pg f_hindcastref15_next [.slice t0_.a t0_.len t0_.cap, .int .i64 t1_] (.one (.c .sl)) H5 fun (r2 : Sl) H9 =>
            LoopT (σ := Int) /- t15 -/ (fun next2 s2 H10 =>
              Br (decide (s2 < (r2.len : Int))) (
                IxA 1 r2 s2 fun a7 =>
                Ld (.int .i64) a7 H10 fun (x6 : Int) =>
                Br (decide (x6 ≥ (t0_.len : Int))) (
                  k 153 H10) (
                  Lt (IntKind.wrap .i64 (s2 + 1)) fun t5 =>
                  next2 t5 H10)) (
                k 0 H10)) 0 H9))) (0, 0) H4)
def h_hindcastref15_wrong : Hint := (.two .no (.two .no (.two (.join [(11, (.c .bool))] .no) (.two (.two (.join [(57, (.c .bool))] .no) .no) (.two .no (.two (.two .no (.one (.loop [(12, (.c (.int .i64))), (13, (.c (.int .i64)))] (.two .no (.two (.join [(12, (.c (.int .i64)))] (.one (.two .no (.join [(12, (.c (.int .i64)))] (.two (.two .no (.two (.join [(77, (.c .bool))] .no) .no)) .no))))) .no))))) (.two .no (.two .no (.two (.two .no (.one (.loop [(15, (.c (.int .i64)))] .no))) .no)))))))))
theorem e_hindcastref15_wrong (t0_ : Sl) (t1_ : Int) (t2_ : Value) (t3_ : Sl) (H : Heap) (k : Int → Heap → Prop) : EFun Pg Tryz.f60 h_hindcastref15_wrong [.slice t0_.a t0_.len t0_.cap, .int .i64 t1_, t2_, .slice t3_.a t3_.len t3_.cap] (.one (.c (.int .i64))) H k = v_hindcastref15_wrong t0_ t1_ t2_ t3_ H k := by kernel_rfl
theorem c_hindcastref15_wrong (t0_ : Sl) (t1_ : Int) (t2_ : Value) (t3_ : Sl) {H : Heap} {k : Int → Heap → Prop} (h : v_hindcastref15_wrong t0_ t1_ t2_ t3_ H k) : CallT Pg f_hindcastref15_wrong [.slice t0_.a t0_.len t0_.cap, .int .i64 t1_, t2_, .slice t3_.a t3_.len t3_.cap] (.one (.c (.int .i64))) H k :=
  call_of_E Pg_mixed Tryz.func60 (by kernel_rfl) (by kernel_rfl) (by kernel_rfl) (by kernel_rfl) ((e_hindcastref15_wrong t0_ t1_ t2_ t3_ H k).symm ▸ h)
/-- hindcast/hindcastref15.next -/
def v_hindcastref15_next (code_ : Sl) (i_ : Int) (H : Heap) (k : Sl → Heap → Prop) : Prop :=
    IxA 2 code_ i_ fun a1 =>
    Ld (.int .i64) (a1.add 1) H fun (x1 : Int) =>
    Jn (σ := Bool) /- there -/ (fun kk1 =>
      IxA 2 code_ i_ fun a2 =>
      Ld (.int .i64) (a2.add 1) H fun (x2 : Int) =>
      Br (decide (x2 ≥ 0)) (
        IxA 2 code_ i_ fun a3 =>
        Ld (.int .i64) (a3.add 1) H fun (x3 : Int) =>
        kk1 (decide (x3 < (code_.len : Int))) H) (
        kk1 false H)) fun j1 H1 =>
    IxA 2 code_ i_ fun a4 =>
    Ld (.int .i64) a4 H1 fun (x4 : Int) =>
    Jn (σ := Bool) /-  -/ (fun kk2 =>
      Br (x4 == 22) (
        kk2 true H1) (
        kk2 (x4 == 23) H1)) fun j2 H2 =>
    Br j2 (
      k ⟨none, 0, 0⟩ H2) (
      Br (x4 == 19) (
        Br j1 (
          Nw #[.int .i64 x1] T_int H2 fun b1 H3 =>
          k ⟨some (adr b1), 1, 1⟩ H3) (
          k ⟨none, 0, 0⟩ H2)) (
        Br (x4 == 20) (
          Br j1 (
            Lt (IntKind.wrap .i64 (i_ + 1)) fun t1 =>
            Nw #[.int .i64 x1, .int .i64 t1] T_int H2 fun b2 H4 =>
            k ⟨some (adr b2), 2, 2⟩ H4) (
            Lt (IntKind.wrap .i64 (i_ + 1)) fun t2 =>
            Nw #[.int .i64 t2] T_int H2 fun b3 H5 =>
            k ⟨some (adr b3), 1, 1⟩ H5)) (
          Lt (IntKind.wrap .i64 (i_ + 1)) fun t3 =>
          Nw #[.int .i64 t3] T_int H2 fun b4 H6 =>
          k ⟨some (adr b4), 1, 1⟩ H6)))
def h_hindcastref15_next : Hint := (.two .no (.two .no (.two (.join [(6, (.c .bool))] .no) (.two (.two .no (.one (.two (.two .no (.join [(33, (.c .bool))] .no)) .no))) .no))))
theorem e_hindcastref15_next (code_ : Sl) (i_ : Int) (H : Heap) (k : Sl → Heap → Prop) : EFun Pg Tryz.f61 h_hindcastref15_next [.slice code_.a code_.len code_.cap, .int .i64 i_] (.one (.c .sl)) H k = v_hindcastref15_next code_ i_ H k := by kernel_rfl
theorem c_hindcastref15_next (code_ : Sl) (i_ : Int) {H : Heap} {k : Sl → Heap → Prop} (h : v_hindcastref15_next code_ i_ H k) : CallT Pg f_hindcastref15_next [.slice code_.a code_.len code_.cap, .int .i64 i_] (.one (.c .sl)) H k :=
  call_of_E Pg_mixed Tryz.func61 (by kernel_rfl) (by kernel_rfl) (by kernel_rfl) (by kernel_rfl) ((e_hindcastref15_next code_ i_ H k).symm ▸ h)
/-- hindcast/world.words -/
def v_world_words (l_ : Sl) (H : Heap) (k : Bool → Heap → Prop) : Prop :=
    LoopT (σ := Int) /-  -/ (fun next1 s1 H1 =>
      Br (decide (s1 < (l_.len : Int))) (
        IxA 1 l_ s1 fun a1 =>
        Ld .str a1 H1 fun (x1 : ByteArray) =>
        Jn (σ := Bool) /-  -/ (fun kk1 =>
          CallT Pg f_world_word [.string x1] (.one (.c .bool)) H1 fun (r1 : Bool) H3 =>
          Br (!r1) (
            kk1 true H3) (
            SlA 1 l_ 0 s1 (l_.cap : Nat) fun l1 =>
            CallT Pg f_slices_Contains_Sl_string_string [.slice l1.a l1.len l1.cap, .string x1] (.one (.c .bool)) H3 fun (r2 : Bool) H4 =>
            kk1 r2 H4)) fun j1 H2 =>
        Br j1 (
          k false H2) (
          Lt (IntKind.wrap .i64 (s1 + 1)) fun t1 =>
          next1 t1 H2)) (
        k true H1)) 0 H
def h_world_words : Hint := (.two .no (.two (.two .no (.one (.loop [(7, (.c (.int .i64)))] (.two .no (.two .no (.two (.one (.two .no (.two (.join [(21, (.c .bool))] .no) .no))) .no)))))) .no))
theorem e_world_words (l_ : Sl) (H : Heap) (k : Bool → Heap → Prop) : EFun Pg Tryz.f62 h_world_words [.slice l_.a l_.len l_.cap] (.one (.c .bool)) H k = v_world_words l_ H k := by kernel_rfl
theorem c_world_words (l_ : Sl) {H : Heap} {k : Bool → Heap → Prop} (h : v_world_words l_ H k) : CallT Pg f_world_words [.slice l_.a l_.len l_.cap] (.one (.c .bool)) H k :=
  call_of_E Pg_mixed Tryz.func62 (by kernel_rfl) (by kernel_rfl) (by kernel_rfl) (by kernel_rfl) ((e_world_words l_ H k).symm ▸ h)
/-- slices.Clone[[]hindcast/api.Kind,hindcast/api.Kind] -/
def v_slices_Clone_Sl_api_Kind_api_Kind (s_ : Sl) (H : Heap) (k : Sl → Heap → Prop) : Prop :=
    Br s_.a.isNone (
      k ⟨none, 0, 0⟩ H) (
      Nw #[] T_api_Kind H fun b1 H1 =>
      App T_api_Kind 2 40 #[.string ByteArray.empty, .slice none 0 0] ⟨some (adr b1), 0, 0⟩ s_ H1 fun l1 H2 =>
      k l1 H2)
def h_slices_Clone_Sl_api_Kind_api_Kind : Hint := .no
theorem e_slices_Clone_Sl_api_Kind_api_Kind (s_ : Sl) (H : Heap) (k : Sl → Heap → Prop) : EFun Pg Tryz.f63 h_slices_Clone_Sl_api_Kind_api_Kind [.slice s_.a s_.len s_.cap] (.one (.c .sl)) H k = v_slices_Clone_Sl_api_Kind_api_Kind s_ H k := by kernel_rfl
theorem c_slices_Clone_Sl_api_Kind_api_Kind (s_ : Sl) {H : Heap} {k : Sl → Heap → Prop} (h : v_slices_Clone_Sl_api_Kind_api_Kind s_ H k) : CallT Pg f_slices_Clone_Sl_api_Kind_api_Kind [.slice s_.a s_.len s_.cap] (.one (.c .sl)) H k :=
  call_of_E Pg_mixed Tryz.func63 (by kernel_rfl) (by kernel_rfl) (by kernel_rfl) (by kernel_rfl) ((e_slices_Clone_Sl_api_Kind_api_Kind s_ H k).symm ▸ h)
/-- slices.Clone[[]string,string] -/
def v_slices_Clone_Sl_string_string (s_ : Sl) (H : Heap) (k : Sl → Heap → Prop) : Prop :=
    Br s_.a.isNone (
      k ⟨none, 0, 0⟩ H) (
      Nw #[] T_string H fun b1 H1 =>
      App T_string 1 16 #[.string ByteArray.empty] ⟨some (adr b1), 0, 0⟩ s_ H1 fun l1 H2 =>
      k l1 H2)
def h_slices_Clone_Sl_string_string : Hint := .no
theorem e_slices_Clone_Sl_string_string (s_ : Sl) (H : Heap) (k : Sl → Heap → Prop) : EFun Pg Tryz.f64 h_slices_Clone_Sl_string_string [.slice s_.a s_.len s_.cap] (.one (.c .sl)) H k = v_slices_Clone_Sl_string_string s_ H k := by kernel_rfl
theorem c_slices_Clone_Sl_string_string (s_ : Sl) {H : Heap} {k : Sl → Heap → Prop} (h : v_slices_Clone_Sl_string_string s_ H k) : CallT Pg f_slices_Clone_Sl_string_string [.slice s_.a s_.len s_.cap] (.one (.c .sl)) H k :=
  call_of_E Pg_mixed Tryz.func64 (by kernel_rfl) (by kernel_rfl) (by kernel_rfl) (by kernel_rfl) ((e_slices_Clone_Sl_string_string s_ H k).symm ▸ h)
/-- hindcast/code.rises -/
def v_code_rises (l_ : Sl) (H : Heap) (k : Bool → Heap → Prop) : Prop :=
    LoopT (σ := Int × Int) /- last,  -/ (fun next1 s1 H1 =>
      Br (decide (s1.2 < (l_.len : Int))) (
        IxA 1 l_ s1.2 fun a1 =>
        Ld (.int .i64) a1 H1 fun (x1 : Int) =>
        Jn (σ := Bool) /-  -/ (fun kk1 =>
          Br (decide (x1 ≤ s1.1)) (
            kk1 true H1) (
            kk1 (decide (x1 > 12)) H1)) fun j1 H2 =>
        Br j1 (
          k false H2) (
          Lt (IntKind.wrap .i64 (s1.2 + 1)) fun t1 =>
          next1 (x1, t1) H2)) (
        k true H1)) (0, 0) H
def h_code_rises : Hint := (.two .no (.two .no (.two (.two .no (.one (.loop [(3, (.c (.int .i64))), (8, (.c (.int .i64)))] (.two .no (.two .no (.two (.one (.two .no (.two (.two (.join [(18, (.c .bool))] .no) .no) .no))) .no)))))) .no)))
theorem e_code_rises (l_ : Sl) (H : Heap) (k : Bool → Heap → Prop) : EFun Pg Tryz.f65 h_code_rises [.slice l_.a l_.len l_.cap] (.one (.c .bool)) H k = v_code_rises l_ H k := by kernel_rfl
theorem c_code_rises (l_ : Sl) {H : Heap} {k : Bool → Heap → Prop} (h : v_code_rises l_ H k) : CallT Pg f_code_rises [.slice l_.a l_.len l_.cap] (.one (.c .bool)) H k :=
  call_of_E Pg_mixed Tryz.func65 (by kernel_rfl) (by kernel_rfl) (by kernel_rfl) (by kernel_rfl) ((e_code_rises l_ H k).symm ▸ h)
/-- hindcast/code.written -/
def v_code_written (r_ : ByteArray × Int × Int × Sl) (left_ : Option Addr) (H : Heap) (k : Bool → Heap → Prop) : Prop :=
    Nw #[.string r_.1, .int .i64 r_.2.1, .int .i64 r_.2.2.1, .slice r_.2.2.2.a r_.2.2.2.len r_.2.2.2.cap] T_api_Routine H fun b1 H1 =>
    NilCk left_ fun a1 =>
    Ld (.int .i64) a1 H1 fun (x1 : Int) =>
    Ld .sl ((adr b1).add 3) H1 fun (x2 : Sl) =>
    Lt (IntKind.wrap .i64 (x1 - (x2.len : Int))) fun t1 =>
    NilCk left_ fun a2 =>
    St a2 (.int .i64 t1) H1 fun H2 =>
    Jn (σ := Bool) /-  -/ (fun kk1 =>
      Ld .str (adr b1) H2 fun (x3 : ByteArray) =>
      Br (decide ((x3.size : Int) < 1)) (
        kk1 true H2) (
        Ld .str (adr b1) H2 fun (x4 : ByteArray) =>
        Br (decide ((x4.size : Int) > 16)) (
          kk1 true H2) (
          LdC [.str, (.int .i64), (.int .i64), .sl] (adr b1) H2 fun (c1 : ByteArray × Int × Int × Sl) =>
          CallT Pg f_code_sized [.agg #[.string c1.1, .int .i64 c1.2.1, .int .i64 c1.2.2.1, .slice c1.2.2.2.a c1.2.2.2.len c1.2.2.2.cap]] (.one (.c .bool)) H2 fun (r1 : Bool) H4 =>
          Br (!r1) (
            kk1 true H4) (
            NilCk left_ fun a3 =>
            Ld (.int .i64) a3 H4 fun (x5 : Int) =>
            kk1 (decide (x5 < 0)) H4)))) fun j1 H3 =>
    Br j1 (
      k false H3) (
      Ld .sl ((adr b1).add 3) H3 fun (x6 : Sl) =>
      LoopT (σ := Int) /-  -/ (fun next1 s1 H5 =>
        Br (decide (s1 < (x6.len : Int))) (
          IxA 2 x6 s1 fun a4 =>
          LdC [(.int .i64), (.int .i64)] a4 H5 fun (c2 : Int × Int) =>
          Nw #[.int .i64 0, .int .i64 0] T_api_Instr H5 fun b2 H6 =>
          St ((adr b2).add 0) (.int .i64 c2.1) H6 fun H7 =>
          St ((adr b2).add 1) (.int .i64 c2.2) H7 fun H8 =>
          LdC [(.int .i64), (.int .i64)] (adr b2) H8 fun (c3 : Int × Int) =>
          CallT Pg f_code_instr [.agg #[.int .i64 c3.1, .int .i64 c3.2]] (.one (.c .bool)) H8 fun (r2 : Bool) H9 =>
          Br (!r2) (
            k false H9) (
            Lt (IntKind.wrap .i64 (s1 + 1)) fun t2 =>
            next1 t2 H9)) (
          k true H5)) 0 H3)
def h_code_written : Hint := (.two .no (.two .no (.two (.two (.join [(35, (.c .bool))] .no) .no) (.two (.two .no (.one (.loop [(39, (.c (.int .i64)))] .no))) .no))))
theorem e_code_written (r_ : ByteArray × Int × Int × Sl) (left_ : Option Addr) (H : Heap) (k : Bool → Heap → Prop) : EFun Pg Tryz.f66 h_code_written [.agg #[.string r_.1, .int .i64 r_.2.1, .int .i64 r_.2.2.1, .slice r_.2.2.2.a r_.2.2.2.len r_.2.2.2.cap], .pointer left_] (.one (.c .bool)) H k = v_code_written r_ left_ H k := by kernel_rfl
theorem c_code_written (r_ : ByteArray × Int × Int × Sl) (left_ : Option Addr) {H : Heap} {k : Bool → Heap → Prop} (h : v_code_written r_ left_ H k) : CallT Pg f_code_written [.agg #[.string r_.1, .int .i64 r_.2.1, .int .i64 r_.2.2.1, .slice r_.2.2.2.a r_.2.2.2.len r_.2.2.2.cap], .pointer left_] (.one (.c .bool)) H k :=
  call_of_E Pg_mixed Tryz.func66 (by kernel_rfl) (by kernel_rfl) (by kernel_rfl) (by kernel_rfl) ((e_code_written r_ left_ H k).symm ▸ h)
/-- hindcast/pack.Put -/
def v_pack_Put (b_ : Sl) (n_ : Int) (H : Heap) (k : Sl → Heap → Prop) : Prop :=
    CallT Pg f_pack_fresh [.slice b_.a b_.len b_.cap] (.one (.c .sl)) H fun (r1 : Sl) H1 =>
    CallT Pg f_pack_add [.slice r1.a r1.len r1.cap, .int .u64 n_] (.one (.c .sl)) H1 fun (r2 : Sl) H2 =>
    k r2 H2
def h_pack_Put : Hint := .no
theorem e_pack_Put (b_ : Sl) (n_ : Int) (H : Heap) (k : Sl → Heap → Prop) : EFun Pg Tryz.f67 h_pack_Put [.slice b_.a b_.len b_.cap, .int .u64 n_] (.one (.c .sl)) H k = v_pack_Put b_ n_ H k := by kernel_rfl
theorem c_pack_Put (b_ : Sl) (n_ : Int) {H : Heap} {k : Sl → Heap → Prop} (h : v_pack_Put b_ n_ H k) : CallT Pg f_pack_Put [.slice b_.a b_.len b_.cap, .int .u64 n_] (.one (.c .sl)) H k :=
  call_of_E Pg_mixed Tryz.func67 (by kernel_rfl) (by kernel_rfl) (by kernel_rfl) (by kernel_rfl) ((e_pack_Put b_ n_ H k).symm ▸ h)
/-- hindcast/pack.PutText -/
def v_pack_PutText (b_ : Sl) (s_ : ByteArray) (H : Heap) (k : Sl → Heap → Prop) : Prop :=
    CallT Pg f_pack_Put [.slice b_.a b_.len b_.cap, .int .u64 (IntKind.wrap .u64 (s_.size : Int))] (.one (.c .sl)) H fun (r1 : Sl) H1 =>
    AppStr T_uint8 1 #[.int .u8 0] r1 s_ H1 fun l1 H2 =>
    k l1 H2
def h_pack_PutText : Hint := .no
theorem e_pack_PutText (b_ : Sl) (s_ : ByteArray) (H : Heap) (k : Sl → Heap → Prop) : EFun Pg Tryz.f68 h_pack_PutText [.slice b_.a b_.len b_.cap, .string s_] (.one (.c .sl)) H k = v_pack_PutText b_ s_ H k := by kernel_rfl
theorem c_pack_PutText (b_ : Sl) (s_ : ByteArray) {H : Heap} {k : Sl → Heap → Prop} (h : v_pack_PutText b_ s_ H k) : CallT Pg f_pack_PutText [.slice b_.a b_.len b_.cap, .string s_] (.one (.c .sl)) H k :=
  call_of_E Pg_mixed Tryz.func68 (by kernel_rfl) (by kernel_rfl) (by kernel_rfl) (by kernel_rfl) ((e_pack_PutText b_ s_ H k).symm ▸ h)
/-- hindcast/code.shapeOf -/
def v_code_shapeOf (op_ : Int) (H : Heap) (k : ByteArray × Bool × Int × Int × Int → Heap → Prop) : Prop :=
    Nw #[.string ByteArray.empty, .bool false, .int .i64 0, .int .i64 0, .int .i64 0] T_code_shape H fun b1 H1 =>
    Br (decide (op_ < 19)) (
      CallT Pg f_code_reckons [.int .i64 op_] (.one (.agg [.str, .bool, (.int .i64), (.int .i64), (.int .i64)])) H1 fun (r1 : ByteArray × Bool × Int × Int × Int) H2 =>
      St ((adr b1).add 0) (.string r1.1) H2 fun H3 =>
      St ((adr b1).add 1) (.bool r1.2.1) H3 fun H4 =>
      St ((adr b1).add 2) (.int .i64 r1.2.2.1) H4 fun H5 =>
      St ((adr b1).add 3) (.int .i64 r1.2.2.2.1) H5 fun H6 =>
      St ((adr b1).add 4) (.int .i64 r1.2.2.2.2) H6 fun H7 =>
      LdC [.str, .bool, (.int .i64), (.int .i64), (.int .i64)] (adr b1) H7 fun (c1 : ByteArray × Bool × Int × Int × Int) =>
      k (c1.1, c1.2.1, c1.2.2.1, c1.2.2.2.1, c1.2.2.2.2) H7) (
      CallT Pg f_code_acts [.int .i64 op_] (.one (.agg [.str, .bool, (.int .i64), (.int .i64), (.int .i64)])) H1 fun (r2 : ByteArray × Bool × Int × Int × Int) H8 =>
      St ((adr b1).add 0) (.string r2.1) H8 fun H9 =>
      St ((adr b1).add 1) (.bool r2.2.1) H9 fun H10 =>
      St ((adr b1).add 2) (.int .i64 r2.2.2.1) H10 fun H11 =>
      St ((adr b1).add 3) (.int .i64 r2.2.2.2.1) H11 fun H12 =>
      St ((adr b1).add 4) (.int .i64 r2.2.2.2.2) H12 fun H13 =>
      LdC [.str, .bool, (.int .i64), (.int .i64), (.int .i64)] (adr b1) H13 fun (c2 : ByteArray × Bool × Int × Int × Int) =>
      k (c2.1, c2.2.1, c2.2.2.1, c2.2.2.2.1, c2.2.2.2.2) H13)
def h_code_shapeOf : Hint := .no
theorem e_code_shapeOf (op_ : Int) (H : Heap) (k : ByteArray × Bool × Int × Int × Int → Heap → Prop) : EFun Pg Tryz.f69 h_code_shapeOf [.int .i64 op_] (.one (.agg [.str, .bool, (.int .i64), (.int .i64), (.int .i64)])) H k = v_code_shapeOf op_ H k := by kernel_rfl
theorem c_code_shapeOf (op_ : Int) {H : Heap} {k : ByteArray × Bool × Int × Int × Int → Heap → Prop} (h : v_code_shapeOf op_ H k) : CallT Pg f_code_shapeOf [.int .i64 op_] (.one (.agg [.str, .bool, (.int .i64), (.int .i64), (.int .i64)])) H k :=
  call_of_E Pg_mixed Tryz.func69 (by kernel_rfl) (by kernel_rfl) (by kernel_rfl) (by kernel_rfl) ((e_code_shapeOf op_ H k).symm ▸ h)
/-- hindcast/pack.PutInt -/
def v_pack_PutInt (b_ : Sl) (n_ : Int) (H : Heap) (k : Sl → Heap → Prop) : Prop :=
    CallT Pg f_pack_signed [.int .i64 n_] (.one (.c (.int .u64))) H fun (r1 : Int) H1 =>
    CallT Pg f_pack_Put [.slice b_.a b_.len b_.cap, .int .u64 r1] (.one (.c .sl)) H1 fun (r2 : Sl) H2 =>
    k r2 H2
def h_pack_PutInt : Hint := .no
theorem e_pack_PutInt (b_ : Sl) (n_ : Int) (H : Heap) (k : Sl → Heap → Prop) : EFun Pg Tryz.f70 h_pack_PutInt [.slice b_.a b_.len b_.cap, .int .i64 n_] (.one (.c .sl)) H k = v_pack_PutInt b_ n_ H k := by kernel_rfl
theorem c_pack_PutInt (b_ : Sl) (n_ : Int) {H : Heap} {k : Sl → Heap → Prop} (h : v_pack_PutInt b_ n_ H k) : CallT Pg f_pack_PutInt [.slice b_.a b_.len b_.cap, .int .i64 n_] (.one (.c .sl)) H k :=
  call_of_E Pg_mixed Tryz.func70 (by kernel_rfl) (by kernel_rfl) (by kernel_rfl) (by kernel_rfl) ((e_pack_PutInt b_ n_ H k).symm ▸ h)
/-- slices.IndexFunc[[]int,int] -/
def v_slices_IndexFunc_Sl_int_int (s_ : Sl) (f_ : Value) (H : Heap) (k : Int → Heap → Prop) : Prop :=
    LoopT (σ := Int) /-  -/ (fun next1 s1 H1 =>
      Br (decide (s1 < (s_.len : Int))) (
        IxA 1 s_ s1 fun a1 =>
        Ld (.int .i64) a1 H1 fun (x1 : Int) =>
        CallX Pg f_ [.int .i64 x1] (.one (.c .bool)) H1 fun (r1 : Bool) H2 =>
        Br r1 (
          k s1 H2) (
          Lt (IntKind.wrap .i64 (s1 + 1)) fun t1 =>
          next1 t1 H2)) (
        k (-1) H1)) 0 H
def h_slices_IndexFunc_Sl_int_int : Hint := (.two .no (.two (.two .no (.one (.loop [(8, (.c (.int .i64)))] .no))) .no))
theorem e_slices_IndexFunc_Sl_int_int (s_ : Sl) (f_ : Value) (H : Heap) (k : Int → Heap → Prop) : EFun Pg Tryz.f71 h_slices_IndexFunc_Sl_int_int [.slice s_.a s_.len s_.cap, f_] (.one (.c (.int .i64))) H k = v_slices_IndexFunc_Sl_int_int s_ f_ H k := by kernel_rfl
theorem c_slices_IndexFunc_Sl_int_int (s_ : Sl) (f_ : Value) {H : Heap} {k : Int → Heap → Prop} (h : v_slices_IndexFunc_Sl_int_int s_ f_ H k) : CallT Pg f_slices_IndexFunc_Sl_int_int [.slice s_.a s_.len s_.cap, f_] (.one (.c (.int .i64))) H k :=
  call_of_E Pg_mixed Tryz.func71 (by kernel_rfl) (by kernel_rfl) (by kernel_rfl) (by kernel_rfl) ((e_slices_IndexFunc_Sl_int_int s_ f_ H k).symm ▸ h)
/-- hindcast/verify.outer -/
def v_verify_outer (op_ : Int) (H : Heap) (k : Bool → Heap → Prop) : Prop :=
    Nw #[.int .i64 4, .int .i64 5, .int .i64 25, .int .i64 26, .int .i64 27, .int .i64 28, .int .i64 29, .int .i64 30, .int .i64 35, .int .i64 23] T_int H fun b1 H1 =>
    CallT Pg f_slices_Contains_Sl_int_int [.slice (some (adr b1)) 10 10, .int .i64 op_] (.one (.c .bool)) H1 fun (r1 : Bool) H2 =>
    k r1 H2
def h_verify_outer : Hint := .no
theorem e_verify_outer (op_ : Int) (H : Heap) (k : Bool → Heap → Prop) : EFun Pg Tryz.f72 h_verify_outer [.int .i64 op_] (.one (.c .bool)) H k = v_verify_outer op_ H k := by kernel_rfl
theorem c_verify_outer (op_ : Int) {H : Heap} {k : Bool → Heap → Prop} (h : v_verify_outer op_ H k) : CallT Pg f_verify_outer [.int .i64 op_] (.one (.c .bool)) H k :=
  call_of_E Pg_mixed Tryz.func72 (by kernel_rfl) (by kernel_rfl) (by kernel_rfl) (by kernel_rfl) ((e_verify_outer op_ H k).symm ▸ h)
/-- (*hindcast/verify.checker).declared -/
def v_verify_checker_declared (c_ : Option Addr) (a_ : Int) (sets_ : Sl) (H : Heap) (k : Bool → Heap → Prop) : Prop :=
    Nw #[.int .i64 a_] T_int64 H fun b1 H1 =>
    Jn (σ := Bool) /-  -/ (fun kk1 =>
      Ld (.int .i64) (adr b1) H1 fun (x1 : Int) =>
      Br (decide (x1 < 0)) (
        kk1 true H1) (
        Ld (.int .i64) (adr b1) H1 fun (x2 : Int) =>
        Rem x2 8 fun t1 =>
        Ld (.int .i64) (adr b1) H1 fun (x3 : Int) =>
        Quo .i64 x3 8 fun t2 =>
        CallT Pg f_verify_checker_fields [.pointer c_, .int .i64 t2] (.one (.c (.int .i64))) H1 fun (r1 : Int) H3 =>
        Stab [(adr b1, .int .i64 x3), (adr b1, .int .i64 x2), (adr b1, .int .i64 x1)] H3 <|
        kk1 (decide (t1 ≥ r1)) H3)) fun j1 H2 =>
    Br j1 (
      k false H2) (
      CallT Pg f_slices_ContainsFunc_Sl_Sl_int_Sl_int [.slice sets_.a sets_.len sets_.cap, .func (.func 95) #[] #[.pointer (some (adr b1))]] (.one (.c .bool)) H2 fun (r2 : Bool) H4 =>
      k r2 H4)
def h_verify_checker_declared : Hint := (.two .no (.two (.two (.join [(17, (.c .bool))] .no) .no) .no))
theorem e_verify_checker_declared (c_ : Option Addr) (a_ : Int) (sets_ : Sl) (H : Heap) (k : Bool → Heap → Prop) : EFun Pg Tryz.f73 h_verify_checker_declared [.pointer c_, .int .i64 a_, .slice sets_.a sets_.len sets_.cap] (.one (.c .bool)) H k = v_verify_checker_declared c_ a_ sets_ H k := by kernel_rfl
theorem c_verify_checker_declared (c_ : Option Addr) (a_ : Int) (sets_ : Sl) {H : Heap} {k : Bool → Heap → Prop} (h : v_verify_checker_declared c_ a_ sets_ H k) : CallT Pg f_verify_checker_declared [.pointer c_, .int .i64 a_, .slice sets_.a sets_.len sets_.cap] (.one (.c .bool)) H k :=
  call_of_E Pg_mixed Tryz.func73 (by kernel_rfl) (by kernel_rfl) (by kernel_rfl) (by kernel_rfl) ((e_verify_checker_declared c_ a_ sets_ H k).symm ▸ h)
/-- (*hindcast/verify.checker).whole -/
def v_verify_checker_whole (c_ : Option Addr) (a_ : Int) (H : Heap) (k : Bool → Heap → Prop) : Prop :=
    Jn (σ := Bool) /-  -/ (fun kk1 =>
      Br (decide (a_ ≥ 0)) (
        Rem a_ 8 fun t1 =>
        Quo .i64 a_ 8 fun t2 =>
        CallT Pg f_verify_checker_fields [.pointer c_, .int .i64 t2] (.one (.c (.int .i64))) H fun (r1 : Int) H2 =>
        kk1 (t1 == r1) H2) (
        kk1 false H)) fun j1 H1 =>
    k j1 H1
def h_verify_checker_whole : Hint := (.two .no (.two (.join [(4, (.c .bool))] .no) .no))
theorem e_verify_checker_whole (c_ : Option Addr) (a_ : Int) (H : Heap) (k : Bool → Heap → Prop) : EFun Pg Tryz.f74 h_verify_checker_whole [.pointer c_, .int .i64 a_] (.one (.c .bool)) H k = v_verify_checker_whole c_ a_ H k := by kernel_rfl
theorem c_verify_checker_whole (c_ : Option Addr) (a_ : Int) {H : Heap} {k : Bool → Heap → Prop} (h : v_verify_checker_whole c_ a_ H k) : CallT Pg f_verify_checker_whole [.pointer c_, .int .i64 a_] (.one (.c .bool)) H k :=
  call_of_E Pg_mixed Tryz.func74 (by kernel_rfl) (by kernel_rfl) (by kernel_rfl) (by kernel_rfl) ((e_verify_checker_whole c_ a_ H k).symm ▸ h)
/-- hindcast/verify.row -/
def v_verify_row (r_ : ByteArray × Int × Int × Sl) (at_ : Int) (H : Heap) (k : Bool → Heap → Prop) : Prop :=
    Nw #[.string r_.1, .int .i64 r_.2.1, .int .i64 r_.2.2.1, .slice r_.2.2.2.a r_.2.2.2.len r_.2.2.2.cap] T_api_Routine H fun b1 H1 =>
    LdC [.str, (.int .i64), (.int .i64), .sl] (adr b1) H1 fun (c1 : ByteArray × Int × Int × Sl) =>
    Lt (IntKind.wrap .i64 (at_ + 1)) fun t1 =>
    CallT Pg f_verify_op [.agg #[.string c1.1, .int .i64 c1.2.1, .int .i64 c1.2.2.1, .slice c1.2.2.2.a c1.2.2.2.len c1.2.2.2.cap], .int .i64 t1] (.one (.c (.int .i64))) H1 fun (r1 : Int) H2 =>
    Jn (σ := Bool) /-  -/ (fun kk1 =>
      Br (r1 != 26) (
        kk1 (r1 != 27) H2) (
        kk1 false H2)) fun j1 H3 =>
    Br j1 (
      k false H3) (
      LoopT (σ := Int) /- k -/ (fun next1 s1 H4 =>
        Br (decide (s1 ≤ 12)) (
          LdC [.str, (.int .i64), (.int .i64), .sl] (adr b1) H4 fun (c2 : ByteArray × Int × Int × Sl) =>
          Lt (IntKind.wrap .i64 (at_ - s1)) fun t2 =>
          CallT Pg f_verify_op [.agg #[.string c2.1, .int .i64 c2.2.1, .int .i64 c2.2.2.1, .slice c2.2.2.2.a c2.2.2.2.len c2.2.2.2.cap], .int .i64 t2] (.one (.c (.int .i64))) H4 fun (r2 : Int) H5 =>
          Br (r2 != 26) (
            k true H5) (
            Lt (IntKind.wrap .i64 (s1 + 1)) fun t3 =>
            next1 t3 H5)) (
          k false H4)) 1 H3)
def h_verify_row : Hint := (.two .no (.two (.two .no (.two (.join [(16, (.c .bool))] .no) .no)) (.two (.two .no (.one (.loop [(6, (.c (.int .i64)))] .no))) .no)))
theorem e_verify_row (r_ : ByteArray × Int × Int × Sl) (at_ : Int) (H : Heap) (k : Bool → Heap → Prop) : EFun Pg Tryz.f75 h_verify_row [.agg #[.string r_.1, .int .i64 r_.2.1, .int .i64 r_.2.2.1, .slice r_.2.2.2.a r_.2.2.2.len r_.2.2.2.cap], .int .i64 at_] (.one (.c .bool)) H k = v_verify_row r_ at_ H k := by kernel_rfl
theorem c_verify_row (r_ : ByteArray × Int × Int × Sl) (at_ : Int) {H : Heap} {k : Bool → Heap → Prop} (h : v_verify_row r_ at_ H k) : CallT Pg f_verify_row [.agg #[.string r_.1, .int .i64 r_.2.1, .int .i64 r_.2.2.1, .slice r_.2.2.2.a r_.2.2.2.len r_.2.2.2.cap], .int .i64 at_] (.one (.c .bool)) H k :=
  call_of_E Pg_mixed Tryz.func75 (by kernel_rfl) (by kernel_rfl) (by kernel_rfl) (by kernel_rfl) ((e_verify_row r_ at_ H k).symm ▸ h)
/-- (*hindcast/verify.checker).fields -/
def v_verify_checker_fields (c_ : Option Addr) (kind_ : Int) (H : Heap) (k : Int → Heap → Prop) : Prop :=
    Jn (σ := Bool) /-  -/ (fun kk1 =>
      Br (decide (kind_ < 1)) (
        kk1 true H) (
        NilCk c_ fun a1 =>
        Ld .sl (a1.add 2) H fun (x1 : Sl) =>
        kk1 (decide (kind_ > (x1.len : Int))) H)) fun j1 H1 =>
    Br j1 (
      k (-1) H1) (
      NilCk c_ fun a2 =>
      Ld .sl (a2.add 2) H1 fun (x2 : Sl) =>
      Lt (IntKind.wrap .i64 (kind_ - 1)) fun t1 =>
      IxA 2 x2 t1 fun a3 =>
      Ld .sl (a3.add 1) H1 fun (x3 : Sl) =>
      k (x3.len : Int) H1)
def h_verify_checker_fields : Hint := (.two .no (.two (.two (.join [(15, (.c .bool))] .no) .no) .no))
theorem e_verify_checker_fields (c_ : Option Addr) (kind_ : Int) (H : Heap) (k : Int → Heap → Prop) : EFun Pg Tryz.f76 h_verify_checker_fields [.pointer c_, .int .i64 kind_] (.one (.c (.int .i64))) H k = v_verify_checker_fields c_ kind_ H k := by kernel_rfl
theorem c_verify_checker_fields (c_ : Option Addr) (kind_ : Int) {H : Heap} {k : Int → Heap → Prop} (h : v_verify_checker_fields c_ kind_ H k) : CallT Pg f_verify_checker_fields [.pointer c_, .int .i64 kind_] (.one (.c (.int .i64))) H k :=
  call_of_E Pg_mixed Tryz.func76 (by kernel_rfl) (by kernel_rfl) (by kernel_rfl) (by kernel_rfl) ((e_verify_checker_fields c_ kind_ H k).symm ▸ h)
/-- hindcast/verify.next -/
def v_verify_next (r_ : ByteArray × Int × Int × Sl) (at_ : Int) (H : Heap) (k : Sl → Heap → Prop) : Prop :=
    Nw #[.string r_.1, .int .i64 r_.2.1, .int .i64 r_.2.2.1, .slice r_.2.2.2.a r_.2.2.2.len r_.2.2.2.cap] T_api_Routine H fun b1 H1 =>
    Ld .sl ((adr b1).add 3) H1 fun (x1 : Sl) =>
    IxA 2 x1 at_ fun a1 =>
    LdC [(.int .i64), (.int .i64)] a1 H1 fun (c1 : Int × Int) =>
    Nw #[.int .i64 0, .int .i64 0] T_api_Instr H1 fun b2 H2 =>
    St ((adr b2).add 0) (.int .i64 c1.1) H2 fun H3 =>
    St ((adr b2).add 1) (.int .i64 c1.2) H3 fun H4 =>
    Ld (.int .i64) (adr b2) H4 fun (x2 : Int) =>
    Jn (σ := Sl) /- out -/ (fun kk1 =>
      Jn (σ := Sl) /- out -/ (fun kk2 =>
        Jn (σ := Bool) /-  -/ (fun kk3 =>
          Br (x2 == 22) (
            kk3 true H4) (
            kk3 (x2 == 23) H4)) fun j3 H7 =>
        Br j3 (
          kk1 ⟨none, 0, 0⟩ H7) (
          Br (x2 == 19) (
            Ld (.int .i64) ((adr b2).add 1) H7 fun (x3 : Int) =>
            Nw #[.int .i64 x3] T_int64 H7 fun b3 H8 =>
            App T_int64 1 8 #[.int .i64 0] ⟨none, 0, 0⟩ ⟨some (adr b3), 1, 1⟩ H8 fun l1 H9 =>
            kk1 l1 H9) (
            Br (x2 == 20) (
              Ld (.int .i64) ((adr b2).add 1) H7 fun (x4 : Int) =>
              Nw #[.int .i64 x4] T_int64 H7 fun b4 H10 =>
              App T_int64 1 8 #[.int .i64 0] ⟨none, 0, 0⟩ ⟨some (adr b4), 1, 1⟩ H10 fun l2 H11 =>
              kk2 l2 H11) (
              kk2 ⟨none, 0, 0⟩ H7)))) fun j2 H6 =>
      Lt (IntKind.wrap .i64 (at_ + 1)) fun t1 =>
      Nw #[.int .i64 t1] T_int64 H6 fun b5 H12 =>
      App T_int64 1 8 #[.int .i64 0] j2 ⟨some (adr b5), 1, 1⟩ H12 fun l3 H13 =>
      kk1 l3 H13) fun j1 H5 =>
    k j1 H5
def h_verify_next : Hint := (.two .no (.two .no (.two (.two .no (.two .no (.join [(5, (.c .sl))] (.one (.two (.join [(5, (.c .sl))] (.one (.two (.one (.two (.one (.two (.one (.two (.two (.two (.two .no (.join [(14, (.c .bool))] .no)) .no) .no) .no)) .no)) .no)) .no))) .no))))) .no)))
theorem e_verify_next (r_ : ByteArray × Int × Int × Sl) (at_ : Int) (H : Heap) (k : Sl → Heap → Prop) : EFun Pg Tryz.f77 h_verify_next [.agg #[.string r_.1, .int .i64 r_.2.1, .int .i64 r_.2.2.1, .slice r_.2.2.2.a r_.2.2.2.len r_.2.2.2.cap], .int .i64 at_] (.one (.c .sl)) H k = v_verify_next r_ at_ H k := by kernel_rfl
theorem c_verify_next (r_ : ByteArray × Int × Int × Sl) (at_ : Int) {H : Heap} {k : Sl → Heap → Prop} (h : v_verify_next r_ at_ H k) : CallT Pg f_verify_next [.agg #[.string r_.1, .int .i64 r_.2.1, .int .i64 r_.2.2.1, .slice r_.2.2.2.a r_.2.2.2.len r_.2.2.2.cap], .int .i64 at_] (.one (.c .sl)) H k :=
  call_of_E Pg_mixed Tryz.func77 (by kernel_rfl) (by kernel_rfl) (by kernel_rfl) (by kernel_rfl) ((e_verify_next r_ at_ H k).symm ▸ h)
/-- (*hindcast/verify.flow).fits -/
def v_verify_flow_fits (f_ : Option Addr) (at_ : Int) (depth_ : Int) (H : Heap) (k : Int × Bool → Heap → Prop) : Prop :=
    NilCk f_ fun a1 =>
    Ld .sl (a1.add 3) H fun (x1 : Sl) =>
    IxA 2 x1 at_ fun a2 =>
    LdC [(.int .i64), (.int .i64)] a2 H fun (c1 : Int × Int) =>
    NilCk f_ fun a3 =>
    Ld .sl (a3.add 4) H fun (x2 : Sl) =>
    CallT Pg f_code_Effect [.agg #[.int .i64 c1.1, .int .i64 c1.2], .slice x2.a x2.len x2.cap] (.tup [(.c (.int .i64)), (.c (.int .i64))]) H fun (r1 : Int × Int) H1 =>
    Stab [(a1.add 3, .slice x1.a x1.len x1.cap)] H1 <|
    Lt (IntKind.wrap .i64 (depth_ - r1.1)) fun t1 =>
    Lt (IntKind.wrap .i64 (t1 + r1.2)) fun t2 =>
    Jn (σ := Int × Bool) /- ,  -/ (fun kk1 =>
      Br (decide (depth_ ≥ r1.1)) (
        kk1 ((t2, decide (t2 ≤ 64))) H1) (
        kk1 (t2, false) H1)) fun j1 H2 =>
    k (j1.1, j1.2) H2
def h_verify_flow_fits : Hint := (.two .no (.two .no (.two .no (.two (.join [(6, (.c (.int .i64))), (7, (.c .bool))] .no) .no))))
theorem e_verify_flow_fits (f_ : Option Addr) (at_ : Int) (depth_ : Int) (H : Heap) (k : Int × Bool → Heap → Prop) : EFun Pg Tryz.f78 h_verify_flow_fits [.pointer f_, .int .i64 at_, .int .i64 depth_] (.tup [(.c (.int .i64)), (.c .bool)]) H k = v_verify_flow_fits f_ at_ depth_ H k := by kernel_rfl
theorem c_verify_flow_fits (f_ : Option Addr) (at_ : Int) (depth_ : Int) {H : Heap} {k : Int × Bool → Heap → Prop} (h : v_verify_flow_fits f_ at_ depth_ H k) : CallT Pg f_verify_flow_fits [.pointer f_, .int .i64 at_, .int .i64 depth_] (.tup [(.c (.int .i64)), (.c .bool)]) H k :=
  call_of_E Pg_mixed Tryz.func78 (by kernel_rfl) (by kernel_rfl) (by kernel_rfl) (by kernel_rfl) ((e_verify_flow_fits f_ at_ depth_ H k).symm ▸ h)
/-- hindcast/verify.there -/
def v_verify_there (r_ : ByteArray × Int × Int × Sl) (at_ : Int) (H : Heap) (k : Bool → Heap → Prop) : Prop :=
    Nw #[.string r_.1, .int .i64 r_.2.1, .int .i64 r_.2.2.1, .slice r_.2.2.2.a r_.2.2.2.len r_.2.2.2.cap] T_api_Routine H fun b1 H1 =>
    Jn (σ := Bool) /-  -/ (fun kk1 =>
      Br (decide (at_ ≥ 0)) (
        Ld .sl ((adr b1).add 3) H1 fun (x1 : Sl) =>
        kk1 (decide (at_ < (x1.len : Int))) H1) (
        kk1 false H1)) fun j1 H2 =>
    k j1 H2
def h_verify_there : Hint := (.two .no (.two (.join [(4, (.c .bool))] .no) .no))
theorem e_verify_there (r_ : ByteArray × Int × Int × Sl) (at_ : Int) (H : Heap) (k : Bool → Heap → Prop) : EFun Pg Tryz.f79 h_verify_there [.agg #[.string r_.1, .int .i64 r_.2.1, .int .i64 r_.2.2.1, .slice r_.2.2.2.a r_.2.2.2.len r_.2.2.2.cap], .int .i64 at_] (.one (.c .bool)) H k = v_verify_there r_ at_ H k := by kernel_rfl
theorem c_verify_there (r_ : ByteArray × Int × Int × Sl) (at_ : Int) {H : Heap} {k : Bool → Heap → Prop} (h : v_verify_there r_ at_ H k) : CallT Pg f_verify_there [.agg #[.string r_.1, .int .i64 r_.2.1, .int .i64 r_.2.2.1, .slice r_.2.2.2.a r_.2.2.2.len r_.2.2.2.cap], .int .i64 at_] (.one (.c .bool)) H k :=
  call_of_E Pg_mixed Tryz.func79 (by kernel_rfl) (by kernel_rfl) (by kernel_rfl) (by kernel_rfl) ((e_verify_there r_ at_ H k).symm ▸ h)
/-- (*hindcast/verify.flow).wrong -/
def v_verify_flow_wrong (t0_ : Option Addr) (t1_ : Int) (H : Heap) (k : Int → Heap → Prop) : Prop :=
    NilCk t0_ fun a1 =>
    Ld .sl (a1.add 3) H fun (x1 : Sl) =>
    IxA 2 x1 t1_ fun a2 =>
    LdC [(.int .i64), (.int .i64)] a2 H fun (c1 : Int × Int) =>
    Nw #[.int .i64 0, .int .i64 0] T_api_Instr H fun b1 H1 =>
    St ((adr b1).add 0) (.int .i64 c1.1) H1 fun H2 =>
    St ((adr b1).add 1) (.int .i64 c1.2) H2 fun H3 =>
    Jn (σ := Bool) /- t28 -/ (fun kk1 =>
      LdC [(.int .i64), (.int .i64)] (adr b1) H3 fun (c2 : Int × Int) =>
      CallT Pg f_verify_jumps [.agg #[.int .i64 c2.1, .int .i64 c2.2]] (.one (.c .bool)) H3 fun (r1 : Bool) H5 =>
      Br r1 (
        NilCk t0_ fun a3 =>
        LdC [.str, (.int .i64), (.int .i64), .sl] a3 H5 fun (c3 : ByteArray × Int × Int × Sl) =>
        Ld (.int .i64) ((adr b1).add 1) H5 fun (x2 : Int) =>
        CallT Pg f_verify_there [.agg #[.string c3.1, .int .i64 c3.2.1, .int .i64 c3.2.2.1, .slice c3.2.2.2.a c3.2.2.2.len c3.2.2.2.cap], .int .i64 x2] (.one (.c .bool)) H5 fun (r2 : Bool) H6 =>
        Stab [((adr b1).add 0, .int .i64 c2.1), ((adr b1).add 1, .int .i64 c2.2)] H6 <|
        kk1 (!r2) H6) (
        kk1 false H5)) fun j1 H4 =>
    Br j1 (
      k 150 H4) (
      NilCk t0_ fun a4 =>
      Ld .sl (a4.add 5) H4 fun (x3 : Sl) =>
      IxA 1 x3 t1_ fun a5 =>
      Ld .raw a5 H4 fun (x4 : Value) =>
      MpR x4 H4 fun a6 H7 =>
      LoopT (σ := Unit) /-  -/ (fun next1 s1 H8 =>
        MpXk a6 H8 (fun H9 =>
        NilCk t0_ fun a7 =>
        LdC [.str, (.int .i64), (.int .i64), .sl] a7 H9 fun (c4 : ByteArray × Int × Int × Sl) =>
        NilCk t0_ fun a8 =>
        Ld .sl (a8.add 3) H9 fun (x6 : Sl) =>
        CallT Pg f_verify_next [.agg #[.string c4.1, .int .i64 c4.2.1, .int .i64 c4.2.2.1, .slice c4.2.2.2.a c4.2.2.2.len c4.2.2.2.cap], .int .i64 t1_] (.one (.c .sl)) H9 fun (r3 : Sl) H11 =>
        Stab [(a8.add 3, .slice x6.a x6.len x6.cap)] H11 <|
        CallT Pg f_slices_Contains_Sl_int64_int64 [.slice r3.a r3.len r3.cap, .int .i64 (x6.len : Int)] (.one (.c .bool)) H11 fun (r4 : Bool) H12 =>
        Stab [(a8.add 3, .slice x6.a x6.len x6.cap), (a7.add 0, .string c4.1), (a7.add 1, .int .i64 c4.2.1), (a7.add 2, .int .i64 c4.2.2.1), (a7.add 3, .slice c4.2.2.2.a c4.2.2.2.len c4.2.2.2.cap)] H12 <|
        Br r4 (
          k 153 H12) (
          k 0 H12)) fun (x5 : Value) (y1 : Value) H10 =>
        MpC a6 H10 fun (x7 : Value) (y2 : Value) =>
        AsI .i64 x7 fun n1 =>
        CallT Pg f_verify_flow_fits [.pointer t0_, .int .i64 t1_, .int .i64 n1] (.tup [(.c (.int .i64)), (.c .bool)]) H10 fun (r5 : Int × Bool) H13 =>
        Jn (σ := Bool) /- t60 -/ (fun kk2 =>
          Br (!r5.2) (
            kk2 true H13) (
            NilCk t0_ fun a9 =>
            Ld .sl (a9.add 5) H13 fun (x8 : Sl) =>
            IxA 1 x8 t1_ fun a10 =>
            Ld .raw a10 H13 fun (x9 : Value) =>
            MpN x9 H13 fun n2 =>
            kk2 (decide (n2 > 1)) H13)) fun j2 H14 =>
        Br j2 (
          k 151 H14) (
          next1 () H14)) () H7)
def h_verify_flow_wrong : Hint := (.two .no (.two .no (.two (.two (.join [(28, (.c .bool))] .no) .no) (.two (.two .no (.one (.loop [] (.two .no (.two .no (.one (.two .no (.two .no (.two (.join [(60, (.c .bool))] .no) .no))))))))) .no))))
theorem e_verify_flow_wrong (t0_ : Option Addr) (t1_ : Int) (H : Heap) (k : Int → Heap → Prop) : EFun Pg Tryz.f80 h_verify_flow_wrong [.pointer t0_, .int .i64 t1_] (.one (.c (.int .i64))) H k = v_verify_flow_wrong t0_ t1_ H k := by kernel_rfl
theorem c_verify_flow_wrong (t0_ : Option Addr) (t1_ : Int) {H : Heap} {k : Int → Heap → Prop} (h : v_verify_flow_wrong t0_ t1_ H k) : CallT Pg f_verify_flow_wrong [.pointer t0_, .int .i64 t1_] (.one (.c (.int .i64))) H k :=
  call_of_E Pg_mixed Tryz.func80 (by kernel_rfl) (by kernel_rfl) (by kernel_rfl) (by kernel_rfl) ((e_verify_flow_wrong t0_ t1_ H k).symm ▸ h)
/-- hindcast/hindcastref13.Effect -/
def v_hindcastref13_Effect (t0_ : Int × Int) (t1_ : Sl) (H : Heap) (k : Int × Int → Heap → Prop) : Prop :=
    Nw #[.int .i64 t0_.1, .int .i64 t0_.2] T_api_Instr H fun b1 H1 =>
    Ld (.int .i64) (adr b1) H1 fun (x1 : Int) =>
    CallT Pg f_hindcastref13_IsOp [.int .i64 x1] (.one (.c .bool)) H1 fun (r1 : Bool) H2 =>
    Br (!r1) (
      k (0, 0) H2) (
      Ld (.int .i64) (adr b1) H2 fun (x2 : Int) =>
      (
        CallT Pg f_hindcastref13_table [] (.one (.c .sl)) H2 fun (r2 : Sl) H3 =>
        Stab [(adr b1, .int .i64 x2)] H3 <|
        IxA 4 r2 x2 fun a1 =>
        LdC [.str, .bool, (.int .i64), (.int .i64)] a1 H3 fun (c1 : ByteArray × Bool × Int × Int) =>
        Nw #[.string ByteArray.empty, .bool false, .int .i64 0, .int .i64 0] T_hindcastref13_row H3 fun b2 H4 =>
        Stab [(a1.add 0, .string c1.1), (a1.add 1, .bool c1.2.1), (a1.add 2, .int .i64 c1.2.2.1), (a1.add 3, .int .i64 c1.2.2.2), (adr b1, .int .i64 x2)] H4 <|
        St ((adr b2).add 0) (.string c1.1) H4 fun H5 =>
        St ((adr b2).add 1) (.bool c1.2.1) H5 fun H6 =>
        St ((adr b2).add 2) (.int .i64 c1.2.2.1) H6 fun H7 =>
        St ((adr b2).add 3) (.int .i64 c1.2.2.2) H7 fun H8 =>
        Ld (.int .i64) ((adr b2).add 2) H8 fun (x3 : Int) =>
        Br (x3 == (-1)) (
          Jn (σ := Bool) /- t39 -/ (fun kk1 =>
            Ld (.int .i64) ((adr b1).add 1) H8 fun (x4 : Int) =>
            Br (decide (x4 < 0)) (
              kk1 true H8) (
              Ld (.int .i64) ((adr b1).add 1) H8 fun (x5 : Int) =>
              Br (decide (x5 ≥ (t1_.len : Int))) (
                kk1 true H8) (
                Ld (.int .i64) ((adr b1).add 1) H8 fun (x6 : Int) =>
                IxA 4 t1_ x6 fun a2 =>
                Ld (.int .i64) (a2.add 1) H8 fun (x7 : Int) =>
                kk1 (decide (x7 < 0)) H8))) fun j1 H9 =>
          Br j1 (
            Ld (.int .i64) ((adr b2).add 3) H9 fun (x8 : Int) =>
            k (0, x8) H9) (
            Ld (.int .i64) ((adr b1).add 1) H9 fun (x9 : Int) =>
            IxA 4 t1_ x9 fun a3 =>
            Ld (.int .i64) (a3.add 1) H9 fun (x10 : Int) =>
            Ld (.int .i64) ((adr b2).add 3) H9 fun (x11 : Int) =>
            k (x10, x11) H9)) (
          Ld (.int .i64) ((adr b2).add 2) H8 fun (x12 : Int) =>
          Br (x12 == (-2)) (
            Ld (.int .i64) ((adr b1).add 1) H8 fun (x13 : Int) =>
            Br (decide (x13 < 0)) (
              Ld (.int .i64) ((adr b2).add 3) H8 fun (x14 : Int) =>
              k (0, x14) H8) (
              Ld (.int .i64) ((adr b1).add 1) H8 fun (x15 : Int) =>
              Rem x15 8 fun t1 =>
              Ld (.int .i64) ((adr b2).add 3) H8 fun (x16 : Int) =>
              k (t1, x16) H8)) (
            Ld (.int .i64) ((adr b2).add 2) H8 fun (x17 : Int) =>
            Ld (.int .i64) ((adr b2).add 3) H8 fun (x18 : Int) =>
            k (x17, x18) H8))) ∧ (
        Nw #[.string ByteArray.empty, .bool false, .int .i64 0, .int .i64 0] T_hindcastref13_row H2 fun b3 H10 =>
        Stab [(adr b1, .int .i64 x2)] H10 <|
        CallT Pg f_hindcastref13_table [] (.one (.c .sl)) H10 fun (r3 : Sl) H11 =>
        Stab [(adr b1, .int .i64 x2)] H11 <|
        IxA 4 r3 x2 fun a4 =>
        LdC [.str, .bool, (.int .i64), (.int .i64)] a4 H11 fun (c2 : ByteArray × Bool × Int × Int) =>
        St ((adr b3).add 0) (.string c2.1) H11 fun H12 =>
        St ((adr b3).add 1) (.bool c2.2.1) H12 fun H13 =>
        St ((adr b3).add 2) (.int .i64 c2.2.2.1) H13 fun H14 =>
        St ((adr b3).add 3) (.int .i64 c2.2.2.2) H14 fun H15 =>
        Ld (.int .i64) ((adr b3).add 2) H15 fun (x19 : Int) =>
        Br (x19 == (-1)) (
          Jn (σ := Bool) /- t39 -/ (fun kk2 =>
            Ld (.int .i64) ((adr b1).add 1) H15 fun (x20 : Int) =>
            Br (decide (x20 < 0)) (
              kk2 true H15) (
              Ld (.int .i64) ((adr b1).add 1) H15 fun (x21 : Int) =>
              Br (decide (x21 ≥ (t1_.len : Int))) (
                kk2 true H15) (
                Ld (.int .i64) ((adr b1).add 1) H15 fun (x22 : Int) =>
                IxA 4 t1_ x22 fun a5 =>
                Ld (.int .i64) (a5.add 1) H15 fun (x23 : Int) =>
                kk2 (decide (x23 < 0)) H15))) fun j2 H16 =>
          Br j2 (
            Ld (.int .i64) ((adr b3).add 3) H16 fun (x24 : Int) =>
            k (0, x24) H16) (
            Ld (.int .i64) ((adr b1).add 1) H16 fun (x25 : Int) =>
            IxA 4 t1_ x25 fun a6 =>
            Ld (.int .i64) (a6.add 1) H16 fun (x26 : Int) =>
            Ld (.int .i64) ((adr b3).add 3) H16 fun (x27 : Int) =>
            k (x26, x27) H16)) (
          Ld (.int .i64) ((adr b3).add 2) H15 fun (x28 : Int) =>
          Br (x28 == (-2)) (
            Ld (.int .i64) ((adr b1).add 1) H15 fun (x29 : Int) =>
            Br (decide (x29 < 0)) (
              Ld (.int .i64) ((adr b3).add 3) H15 fun (x30 : Int) =>
              k (0, x30) H15) (
              Ld (.int .i64) ((adr b1).add 1) H15 fun (x31 : Int) =>
              Rem x31 8 fun t2 =>
              Ld (.int .i64) ((adr b3).add 3) H15 fun (x32 : Int) =>
              k (t2, x32) H15)) (
            Ld (.int .i64) ((adr b3).add 2) H15 fun (x33 : Int) =>
            Ld (.int .i64) ((adr b3).add 3) H15 fun (x34 : Int) =>
            k (x33, x34) H15))) ∧ True)
def h_hindcastref13_Effect : Hint := (.two .no (.two .no (.two .no (.two .no (.two (.two .no (.two (.two (.two (.join [(39, (.c .bool))] .no) .no) .no) .no)) .no)))))
theorem e_hindcastref13_Effect (t0_ : Int × Int) (t1_ : Sl) (H : Heap) (k : Int × Int → Heap → Prop) : EFun Pg Tryz.f83 h_hindcastref13_Effect [.agg #[.int .i64 t0_.1, .int .i64 t0_.2], .slice t1_.a t1_.len t1_.cap] (.tup [(.c (.int .i64)), (.c (.int .i64))]) H k = v_hindcastref13_Effect t0_ t1_ H k := by kernel_rfl
theorem c_hindcastref13_Effect (t0_ : Int × Int) (t1_ : Sl) {H : Heap} {k : Int × Int → Heap → Prop} (h : v_hindcastref13_Effect t0_ t1_ H k) : CallT Pg f_hindcastref13_Effect [.agg #[.int .i64 t0_.1, .int .i64 t0_.2], .slice t1_.a t1_.len t1_.cap] (.tup [(.c (.int .i64)), (.c (.int .i64))]) H k :=
  call_of_E Pg_mixed Tryz.func83 (by kernel_rfl) (by kernel_rfl) (by kernel_rfl) (by kernel_rfl) ((e_hindcastref13_Effect t0_ t1_ H k).symm ▸ h)
/-- hindcast/world.word -/
def v_world_word (s_ : ByteArray) (H : Heap) (k : Bool → Heap → Prop) : Prop :=
    S2B T_uint8 s_ H fun l1 H1 =>
    LoopT (σ := Int) /-  -/ (fun next1 s1 H2 =>
      Br (decide (s1 < (l1.len : Int))) (
        IxA 1 l1 s1 fun a1 =>
        Ld (.int .u8) a1 H2 fun (x1 : Int) =>
        Jn (σ := Bool) /- letter -/ (fun kk1 =>
          Br (decide (x1 ≥ 97)) (
            Br (decide (x1 ≤ 122)) (
              kk1 true H2) (
              Br (decide (x1 ≥ 65)) (
                kk1 (decide (x1 ≤ 90)) H2) (
                kk1 false H2))) (
            Br (decide (x1 ≥ 65)) (
              kk1 (decide (x1 ≤ 90)) H2) (
              kk1 false H2))) fun j1 H3 =>
        Jn (σ := Bool) /-  -/ (fun kk2 =>
          Br (!j1) (
            Br (s1 == 0) (
              kk2 true H3) (
              Br (x1 != 95) (
                Br (decide (x1 < 48)) (
                  kk2 true H3) (
                  kk2 (decide (x1 > 57)) H3)) (
                kk2 false H3))) (
            kk2 false H3)) fun j2 H4 =>
        Br j2 (
          k false H4) (
          Lt (IntKind.wrap .i64 (s1 + 1)) fun t1 =>
          next1 t1 H4)) (
        Jn (σ := Bool) /-  -/ (fun kk3 =>
          Br (!(s_.toList == (⟨#[]⟩ : ByteArray).toList)) (
            kk3 (decide ((s_.size : Int) ≤ 16)) H2) (
            kk3 false H2)) fun j3 H5 =>
        k j3 H5)) 0 H1
def h_world_word : Hint := (.two .no (.two (.two .no (.one (.loop [(9, (.c (.int .i64)))] (.two .no (.two .no (.two (.one (.two .no (.two (.join [(5, (.c .bool))] .no) (.two (.join [(45, (.c .bool))] .no) .no)))) .no)))))) (.two (.join [(2, (.c .bool))] .no) .no)))
theorem e_world_word (s_ : ByteArray) (H : Heap) (k : Bool → Heap → Prop) : EFun Pg Tryz.f84 h_world_word [.string s_] (.one (.c .bool)) H k = v_world_word s_ H k := by kernel_rfl
theorem c_world_word (s_ : ByteArray) {H : Heap} {k : Bool → Heap → Prop} (h : v_world_word s_ H k) : CallT Pg f_world_word [.string s_] (.one (.c .bool)) H k :=
  call_of_E Pg_mixed Tryz.func84 (by kernel_rfl) (by kernel_rfl) (by kernel_rfl) (by kernel_rfl) ((e_world_word s_ H k).symm ▸ h)
/-- slices.Contains[[]string,string] -/
def v_slices_Contains_Sl_string_string (s_ : Sl) (v_ : ByteArray) (H : Heap) (k : Bool → Heap → Prop) : Prop :=
    CallT Pg f_slices_Index_Sl_string_string [.slice s_.a s_.len s_.cap, .string v_] (.one (.c (.int .i64))) H fun (r1 : Int) H1 =>
    k (decide (r1 ≥ 0)) H1
def h_slices_Contains_Sl_string_string : Hint := .no
theorem e_slices_Contains_Sl_string_string (s_ : Sl) (v_ : ByteArray) (H : Heap) (k : Bool → Heap → Prop) : EFun Pg Tryz.f85 h_slices_Contains_Sl_string_string [.slice s_.a s_.len s_.cap, .string v_] (.one (.c .bool)) H k = v_slices_Contains_Sl_string_string s_ v_ H k := by kernel_rfl
theorem c_slices_Contains_Sl_string_string (s_ : Sl) (v_ : ByteArray) {H : Heap} {k : Bool → Heap → Prop} (h : v_slices_Contains_Sl_string_string s_ v_ H k) : CallT Pg f_slices_Contains_Sl_string_string [.slice s_.a s_.len s_.cap, .string v_] (.one (.c .bool)) H k :=
  call_of_E Pg_mixed Tryz.func85 (by kernel_rfl) (by kernel_rfl) (by kernel_rfl) (by kernel_rfl) ((e_slices_Contains_Sl_string_string s_ v_ H k).symm ▸ h)
/-- hindcast/code.sized -/
def v_code_sized (r_ : ByteArray × Int × Int × Sl) (H : Heap) (k : Bool → Heap → Prop) : Prop :=
    Nw #[.string r_.1, .int .i64 r_.2.1, .int .i64 r_.2.2.1, .slice r_.2.2.2.a r_.2.2.2.len r_.2.2.2.cap] T_api_Routine H fun b1 H1 =>
    Jn (σ := Bool) /-  -/ (fun kk1 =>
      Ld (.int .i64) ((adr b1).add 1) H1 fun (x1 : Int) =>
      Br (decide (x1 ≥ 0)) (
        Ld (.int .i64) ((adr b1).add 1) H1 fun (x2 : Int) =>
        Br (decide (x2 ≤ 4)) (
          Ld (.int .i64) ((adr b1).add 2) H1 fun (x3 : Int) =>
          Ld (.int .i64) ((adr b1).add 1) H1 fun (x4 : Int) =>
          Br (decide (x3 ≥ x4)) (
            Ld (.int .i64) ((adr b1).add 2) H1 fun (x5 : Int) =>
            kk1 (decide (x5 ≤ 32)) H1) (
            kk1 false H1)) (
          kk1 false H1)) (
        kk1 false H1)) fun j1 H2 =>
    k j1 H2
def h_code_sized : Hint := (.two .no (.two (.join [(2, (.c .bool))] .no) .no))
theorem e_code_sized (r_ : ByteArray × Int × Int × Sl) (H : Heap) (k : Bool → Heap → Prop) : EFun Pg Tryz.f86 h_code_sized [.agg #[.string r_.1, .int .i64 r_.2.1, .int .i64 r_.2.2.1, .slice r_.2.2.2.a r_.2.2.2.len r_.2.2.2.cap]] (.one (.c .bool)) H k = v_code_sized r_ H k := by kernel_rfl
theorem c_code_sized (r_ : ByteArray × Int × Int × Sl) {H : Heap} {k : Bool → Heap → Prop} (h : v_code_sized r_ H k) : CallT Pg f_code_sized [.agg #[.string r_.1, .int .i64 r_.2.1, .int .i64 r_.2.2.1, .slice r_.2.2.2.a r_.2.2.2.len r_.2.2.2.cap]] (.one (.c .bool)) H k :=
  call_of_E Pg_mixed Tryz.func86 (by kernel_rfl) (by kernel_rfl) (by kernel_rfl) (by kernel_rfl) ((e_code_sized r_ H k).symm ▸ h)
/-- hindcast/code.instr -/
def v_code_instr (i_ : Int × Int) (H : Heap) (k : Bool → Heap → Prop) : Prop :=
    Nw #[.int .i64 i_.1, .int .i64 i_.2] T_api_Instr H fun b1 H1 =>
    Jn (σ := Bool) /-  -/ (fun kk1 =>
      Ld (.int .i64) (adr b1) H1 fun (x1 : Int) =>
      CallT Pg f_code_isOp [.int .i64 x1] (.one (.c .bool)) H1 fun (r1 : Bool) H3 =>
      Br r1 (
        Ld (.int .i64) (adr b1) H3 fun (x2 : Int) =>
        CallT Pg f_code_shapeOf [.int .i64 x2] (.one (.agg [.str, .bool, (.int .i64), (.int .i64), (.int .i64)])) H3 fun (r2 : ByteArray × Bool × Int × Int × Int) H4 =>
        Br r2.2.1 (
          kk1 true H4) (
          Ld (.int .i64) ((adr b1).add 1) H4 fun (x3 : Int) =>
          kk1 (x3 == 0) H4)) (
        kk1 false H3)) fun j1 H2 =>
    k j1 H2
def h_code_instr : Hint := (.two .no (.two (.join [(2, (.c .bool))] .no) .no))
theorem e_code_instr (i_ : Int × Int) (H : Heap) (k : Bool → Heap → Prop) : EFun Pg Tryz.f87 h_code_instr [.agg #[.int .i64 i_.1, .int .i64 i_.2]] (.one (.c .bool)) H k = v_code_instr i_ H k := by kernel_rfl
theorem c_code_instr (i_ : Int × Int) {H : Heap} {k : Bool → Heap → Prop} (h : v_code_instr i_ H k) : CallT Pg f_code_instr [.agg #[.int .i64 i_.1, .int .i64 i_.2]] (.one (.c .bool)) H k :=
  call_of_E Pg_mixed Tryz.func87 (by kernel_rfl) (by kernel_rfl) (by kernel_rfl) (by kernel_rfl) ((e_code_instr i_ H k).symm ▸ h)
/-- hindcast/pack.add -/
def v_pack_add (b_ : Sl) (n_ : Int) (H : Heap) (k : Sl → Heap → Prop) : Prop :=
    LoopT (σ := Sl × Int) /- b, n -/ (fun next1 s1 H1 =>
      Br (decide (s1.2 ≥ 128)) (
        Lt (bits .or .u8 (IntKind.wrap .u8 s1.2) 128) fun t1 =>
        Nw #[.int .u8 t1] T_uint8 H1 fun b1 H2 =>
        App T_uint8 1 1 #[.int .u8 0] s1.1 ⟨some (adr b1), 1, 1⟩ H2 fun l1 H3 =>
        ShR .u64 s1.2 7 fun t2 =>
        next1 (l1, t2) H3) (
        Nw #[.int .u8 (IntKind.wrap .u8 s1.2)] T_uint8 H1 fun b2 H4 =>
        App T_uint8 1 1 #[.int .u8 0] s1.1 ⟨some (adr b2), 1, 1⟩ H4 fun l2 H5 =>
        k l2 H5)) (b_, n_) H
def h_pack_add : Hint := (.two .no (.two (.one (.loop [(0, (.c .sl)), (1, (.c (.int .u64)))] .no)) .no))
theorem e_pack_add (b_ : Sl) (n_ : Int) (H : Heap) (k : Sl → Heap → Prop) : EFun Pg Tryz.f88 h_pack_add [.slice b_.a b_.len b_.cap, .int .u64 n_] (.one (.c .sl)) H k = v_pack_add b_ n_ H k := by kernel_rfl
theorem c_pack_add (b_ : Sl) (n_ : Int) {H : Heap} {k : Sl → Heap → Prop} (h : v_pack_add b_ n_ H k) : CallT Pg f_pack_add [.slice b_.a b_.len b_.cap, .int .u64 n_] (.one (.c .sl)) H k :=
  call_of_E Pg_mixed Tryz.func88 (by kernel_rfl) (by kernel_rfl) (by kernel_rfl) (by kernel_rfl) ((e_pack_add b_ n_ H k).symm ▸ h)
/-- hindcast/pack.fresh -/
def v_pack_fresh (b_ : Sl) (H : Heap) (k : Sl → Heap → Prop) : Prop :=
    App T_uint8 1 1 #[.int .u8 0] ⟨none, 0, 0⟩ b_ H fun l1 H1 =>
    k l1 H1
def h_pack_fresh : Hint := .no
theorem e_pack_fresh (b_ : Sl) (H : Heap) (k : Sl → Heap → Prop) : EFun Pg Tryz.f89 h_pack_fresh [.slice b_.a b_.len b_.cap] (.one (.c .sl)) H k = v_pack_fresh b_ H k := by kernel_rfl
theorem c_pack_fresh (b_ : Sl) {H : Heap} {k : Sl → Heap → Prop} (h : v_pack_fresh b_ H k) : CallT Pg f_pack_fresh [.slice b_.a b_.len b_.cap] (.one (.c .sl)) H k :=
  call_of_E Pg_mixed Tryz.func89 (by kernel_rfl) (by kernel_rfl) (by kernel_rfl) (by kernel_rfl) ((e_pack_fresh b_ H k).symm ▸ h)
/-- hindcast/code.reckons -/
def v_code_reckons (op_ : Int) (H : Heap) (k : ByteArray × Bool × Int × Int × Int → Heap → Prop) : Prop :=
    Nw #[.string ByteArray.empty, .bool false, .int .i64 0, .int .i64 0, .int .i64 0] T_code_shape H fun b1 H1 =>
    Br (op_ == 1) (
      St ((adr b1).add 0) (.string (⟨#[112, 117, 115, 104]⟩ : ByteArray)) H1 fun H2 =>
      St ((adr b1).add 1) (.bool true) H2 fun H3 =>
      St ((adr b1).add 2) (.int .i64 0) H3 fun H4 =>
      St ((adr b1).add 3) (.int .i64 1) H4 fun H5 =>
      St ((adr b1).add 4) (.int .i64 0) H5 fun H6 =>
      LdC [.str, .bool, (.int .i64), (.int .i64), (.int .i64)] (adr b1) H6 fun (c1 : ByteArray × Bool × Int × Int × Int) =>
      k (c1.1, c1.2.1, c1.2.2.1, c1.2.2.2.1, c1.2.2.2.2) H6) (
      Br (op_ == 2) (
        St ((adr b1).add 0) (.string (⟨#[108, 111, 97, 100]⟩ : ByteArray)) H1 fun H7 =>
        St ((adr b1).add 1) (.bool true) H7 fun H8 =>
        St ((adr b1).add 2) (.int .i64 0) H8 fun H9 =>
        St ((adr b1).add 3) (.int .i64 1) H9 fun H10 =>
        St ((adr b1).add 4) (.int .i64 0) H10 fun H11 =>
        LdC [.str, .bool, (.int .i64), (.int .i64), (.int .i64)] (adr b1) H11 fun (c2 : ByteArray × Bool × Int × Int × Int) =>
        k (c2.1, c2.2.1, c2.2.2.1, c2.2.2.2.1, c2.2.2.2.2) H11) (
        Br (op_ == 3) (
          St ((adr b1).add 0) (.string (⟨#[115, 116, 111, 114, 101]⟩ : ByteArray)) H1 fun H12 =>
          St ((adr b1).add 1) (.bool true) H12 fun H13 =>
          St ((adr b1).add 2) (.int .i64 1) H13 fun H14 =>
          St ((adr b1).add 3) (.int .i64 0) H14 fun H15 =>
          St ((adr b1).add 4) (.int .i64 0) H15 fun H16 =>
          LdC [.str, .bool, (.int .i64), (.int .i64), (.int .i64)] (adr b1) H16 fun (c3 : ByteArray × Bool × Int × Int × Int) =>
          k (c3.1, c3.2.1, c3.2.2.1, c3.2.2.2.1, c3.2.2.2.2) H16) (
          Br (op_ == 4) (
            St ((adr b1).add 0) (.string (⟨#[102, 105, 101, 108, 100]⟩ : ByteArray)) H1 fun H17 =>
            St ((adr b1).add 1) (.bool true) H17 fun H18 =>
            St ((adr b1).add 2) (.int .i64 0) H18 fun H19 =>
            St ((adr b1).add 3) (.int .i64 1) H19 fun H20 =>
            St ((adr b1).add 4) (.int .i64 0) H20 fun H21 =>
            LdC [.str, .bool, (.int .i64), (.int .i64), (.int .i64)] (adr b1) H21 fun (c4 : ByteArray × Bool × Int × Int × Int) =>
            k (c4.1, c4.2.1, c4.2.2.1, c4.2.2.2.1, c4.2.2.2.2) H21) (
            Br (op_ == 5) (
              St ((adr b1).add 0) (.string (⟨#[112, 117, 116]⟩ : ByteArray)) H1 fun H22 =>
              St ((adr b1).add 1) (.bool true) H22 fun H23 =>
              St ((adr b1).add 2) (.int .i64 1) H23 fun H24 =>
              St ((adr b1).add 3) (.int .i64 0) H24 fun H25 =>
              St ((adr b1).add 4) (.int .i64 0) H25 fun H26 =>
              LdC [.str, .bool, (.int .i64), (.int .i64), (.int .i64)] (adr b1) H26 fun (c5 : ByteArray × Bool × Int × Int × Int) =>
              k (c5.1, c5.2.1, c5.2.2.1, c5.2.2.2.1, c5.2.2.2.2) H26) (
              Br (op_ == 6) (
                St ((adr b1).add 0) (.string (⟨#[97, 100, 100]⟩ : ByteArray)) H1 fun H27 =>
                St ((adr b1).add 1) (.bool false) H27 fun H28 =>
                St ((adr b1).add 2) (.int .i64 2) H28 fun H29 =>
                St ((adr b1).add 3) (.int .i64 1) H29 fun H30 =>
                St ((adr b1).add 4) (.int .i64 0) H30 fun H31 =>
                LdC [.str, .bool, (.int .i64), (.int .i64), (.int .i64)] (adr b1) H31 fun (c6 : ByteArray × Bool × Int × Int × Int) =>
                k (c6.1, c6.2.1, c6.2.2.1, c6.2.2.2.1, c6.2.2.2.2) H31) (
                Br (op_ == 7) (
                  St ((adr b1).add 0) (.string (⟨#[115, 117, 98]⟩ : ByteArray)) H1 fun H32 =>
                  St ((adr b1).add 1) (.bool false) H32 fun H33 =>
                  St ((adr b1).add 2) (.int .i64 2) H33 fun H34 =>
                  St ((adr b1).add 3) (.int .i64 1) H34 fun H35 =>
                  St ((adr b1).add 4) (.int .i64 0) H35 fun H36 =>
                  LdC [.str, .bool, (.int .i64), (.int .i64), (.int .i64)] (adr b1) H36 fun (c7 : ByteArray × Bool × Int × Int × Int) =>
                  k (c7.1, c7.2.1, c7.2.2.1, c7.2.2.2.1, c7.2.2.2.2) H36) (
                  Br (op_ == 8) (
                    St ((adr b1).add 0) (.string (⟨#[109, 117, 108]⟩ : ByteArray)) H1 fun H37 =>
                    St ((adr b1).add 1) (.bool false) H37 fun H38 =>
                    St ((adr b1).add 2) (.int .i64 2) H38 fun H39 =>
                    St ((adr b1).add 3) (.int .i64 1) H39 fun H40 =>
                    St ((adr b1).add 4) (.int .i64 0) H40 fun H41 =>
                    LdC [.str, .bool, (.int .i64), (.int .i64), (.int .i64)] (adr b1) H41 fun (c8 : ByteArray × Bool × Int × Int × Int) =>
                    k (c8.1, c8.2.1, c8.2.2.1, c8.2.2.2.1, c8.2.2.2.2) H41) (
                    Br (op_ == 9) (
                      St ((adr b1).add 0) (.string (⟨#[100, 105, 118]⟩ : ByteArray)) H1 fun H42 =>
                      St ((adr b1).add 1) (.bool false) H42 fun H43 =>
                      St ((adr b1).add 2) (.int .i64 2) H43 fun H44 =>
                      St ((adr b1).add 3) (.int .i64 1) H44 fun H45 =>
                      St ((adr b1).add 4) (.int .i64 0) H45 fun H46 =>
                      LdC [.str, .bool, (.int .i64), (.int .i64), (.int .i64)] (adr b1) H46 fun (c9 : ByteArray × Bool × Int × Int × Int) =>
                      k (c9.1, c9.2.1, c9.2.2.1, c9.2.2.2.1, c9.2.2.2.2) H46) (
                      Br (op_ == 10) (
                        St ((adr b1).add 0) (.string (⟨#[114, 101, 109]⟩ : ByteArray)) H1 fun H47 =>
                        St ((adr b1).add 1) (.bool false) H47 fun H48 =>
                        St ((adr b1).add 2) (.int .i64 2) H48 fun H49 =>
                        St ((adr b1).add 3) (.int .i64 1) H49 fun H50 =>
                        St ((adr b1).add 4) (.int .i64 0) H50 fun H51 =>
                        LdC [.str, .bool, (.int .i64), (.int .i64), (.int .i64)] (adr b1) H51 fun (c10 : ByteArray × Bool × Int × Int × Int) =>
                        k (c10.1, c10.2.1, c10.2.2.1, c10.2.2.2.1, c10.2.2.2.2) H51) (
                        Br (op_ == 11) (
                          St ((adr b1).add 0) (.string (⟨#[110, 101, 103]⟩ : ByteArray)) H1 fun H52 =>
                          St ((adr b1).add 1) (.bool false) H52 fun H53 =>
                          St ((adr b1).add 2) (.int .i64 1) H53 fun H54 =>
                          St ((adr b1).add 3) (.int .i64 1) H54 fun H55 =>
                          St ((adr b1).add 4) (.int .i64 0) H55 fun H56 =>
                          LdC [.str, .bool, (.int .i64), (.int .i64), (.int .i64)] (adr b1) H56 fun (c11 : ByteArray × Bool × Int × Int × Int) =>
                          k (c11.1, c11.2.1, c11.2.2.1, c11.2.2.2.1, c11.2.2.2.2) H56) (
                          Br (op_ == 12) (
                            St ((adr b1).add 0) (.string (⟨#[101, 113]⟩ : ByteArray)) H1 fun H57 =>
                            St ((adr b1).add 1) (.bool false) H57 fun H58 =>
                            St ((adr b1).add 2) (.int .i64 2) H58 fun H59 =>
                            St ((adr b1).add 3) (.int .i64 1) H59 fun H60 =>
                            St ((adr b1).add 4) (.int .i64 0) H60 fun H61 =>
                            LdC [.str, .bool, (.int .i64), (.int .i64), (.int .i64)] (adr b1) H61 fun (c12 : ByteArray × Bool × Int × Int × Int) =>
                            k (c12.1, c12.2.1, c12.2.2.1, c12.2.2.2.1, c12.2.2.2.2) H61) (
                            Br (op_ == 13) (
                              St ((adr b1).add 0) (.string (⟨#[110, 101]⟩ : ByteArray)) H1 fun H62 =>
                              St ((adr b1).add 1) (.bool false) H62 fun H63 =>
                              St ((adr b1).add 2) (.int .i64 2) H63 fun H64 =>
                              St ((adr b1).add 3) (.int .i64 1) H64 fun H65 =>
                              St ((adr b1).add 4) (.int .i64 0) H65 fun H66 =>
                              LdC [.str, .bool, (.int .i64), (.int .i64), (.int .i64)] (adr b1) H66 fun (c13 : ByteArray × Bool × Int × Int × Int) =>
                              k (c13.1, c13.2.1, c13.2.2.1, c13.2.2.2.1, c13.2.2.2.2) H66) (
                              Br (op_ == 14) (
                                St ((adr b1).add 0) (.string (⟨#[108, 116]⟩ : ByteArray)) H1 fun H67 =>
                                St ((adr b1).add 1) (.bool false) H67 fun H68 =>
                                St ((adr b1).add 2) (.int .i64 2) H68 fun H69 =>
                                St ((adr b1).add 3) (.int .i64 1) H69 fun H70 =>
                                St ((adr b1).add 4) (.int .i64 0) H70 fun H71 =>
                                LdC [.str, .bool, (.int .i64), (.int .i64), (.int .i64)] (adr b1) H71 fun (c14 : ByteArray × Bool × Int × Int × Int) =>
                                k (c14.1, c14.2.1, c14.2.2.1, c14.2.2.2.1, c14.2.2.2.2) H71) (
                                Br (op_ == 15) (
                                  St ((adr b1).add 0) (.string (⟨#[108, 101]⟩ : ByteArray)) H1 fun H72 =>
                                  St ((adr b1).add 1) (.bool false) H72 fun H73 =>
                                  St ((adr b1).add 2) (.int .i64 2) H73 fun H74 =>
                                  St ((adr b1).add 3) (.int .i64 1) H74 fun H75 =>
                                  St ((adr b1).add 4) (.int .i64 0) H75 fun H76 =>
                                  LdC [.str, .bool, (.int .i64), (.int .i64), (.int .i64)] (adr b1) H76 fun (c15 : ByteArray × Bool × Int × Int × Int) =>
                                  k (c15.1, c15.2.1, c15.2.2.1, c15.2.2.2.1, c15.2.2.2.2) H76) (
                                  Br (op_ == 16) (
                                    St ((adr b1).add 0) (.string (⟨#[103, 116]⟩ : ByteArray)) H1 fun H77 =>
                                    St ((adr b1).add 1) (.bool false) H77 fun H78 =>
                                    St ((adr b1).add 2) (.int .i64 2) H78 fun H79 =>
                                    St ((adr b1).add 3) (.int .i64 1) H79 fun H80 =>
                                    St ((adr b1).add 4) (.int .i64 0) H80 fun H81 =>
                                    LdC [.str, .bool, (.int .i64), (.int .i64), (.int .i64)] (adr b1) H81 fun (c16 : ByteArray × Bool × Int × Int × Int) =>
                                    k (c16.1, c16.2.1, c16.2.2.1, c16.2.2.2.1, c16.2.2.2.2) H81) (
                                    Br (op_ == 17) (
                                      St ((adr b1).add 0) (.string (⟨#[103, 101]⟩ : ByteArray)) H1 fun H82 =>
                                      St ((adr b1).add 1) (.bool false) H82 fun H83 =>
                                      St ((adr b1).add 2) (.int .i64 2) H83 fun H84 =>
                                      St ((adr b1).add 3) (.int .i64 1) H84 fun H85 =>
                                      St ((adr b1).add 4) (.int .i64 0) H85 fun H86 =>
                                      LdC [.str, .bool, (.int .i64), (.int .i64), (.int .i64)] (adr b1) H86 fun (c17 : ByteArray × Bool × Int × Int × Int) =>
                                      k (c17.1, c17.2.1, c17.2.2.1, c17.2.2.2.1, c17.2.2.2.2) H86) (
                                      Br (op_ == 18) (
                                        St ((adr b1).add 0) (.string (⟨#[110, 111, 116]⟩ : ByteArray)) H1 fun H87 =>
                                        St ((adr b1).add 1) (.bool false) H87 fun H88 =>
                                        St ((adr b1).add 2) (.int .i64 1) H88 fun H89 =>
                                        St ((adr b1).add 3) (.int .i64 1) H89 fun H90 =>
                                        St ((adr b1).add 4) (.int .i64 0) H90 fun H91 =>
                                        LdC [.str, .bool, (.int .i64), (.int .i64), (.int .i64)] (adr b1) H91 fun (c18 : ByteArray × Bool × Int × Int × Int) =>
                                        k (c18.1, c18.2.1, c18.2.2.1, c18.2.2.2.1, c18.2.2.2.2) H91) (
                                        St ((adr b1).add 0) (.string ByteArray.empty) H1 fun H92 =>
                                        St ((adr b1).add 1) (.bool false) H92 fun H93 =>
                                        St ((adr b1).add 2) (.int .i64 0) H93 fun H94 =>
                                        St ((adr b1).add 3) (.int .i64 0) H94 fun H95 =>
                                        St ((adr b1).add 4) (.int .i64 0) H95 fun H96 =>
                                        LdC [.str, .bool, (.int .i64), (.int .i64), (.int .i64)] (adr b1) H96 fun (c19 : ByteArray × Bool × Int × Int × Int) =>
                                        k (c19.1, c19.2.1, c19.2.2.1, c19.2.2.2.1, c19.2.2.2.2) H96))))))))))))))))))
def h_code_reckons : Hint := .no
theorem e_code_reckons (op_ : Int) (H : Heap) (k : ByteArray × Bool × Int × Int × Int → Heap → Prop) : EFun Pg Tryz.f90 h_code_reckons [.int .i64 op_] (.one (.agg [.str, .bool, (.int .i64), (.int .i64), (.int .i64)])) H k = v_code_reckons op_ H k := by kernel_rfl
theorem c_code_reckons (op_ : Int) {H : Heap} {k : ByteArray × Bool × Int × Int × Int → Heap → Prop} (h : v_code_reckons op_ H k) : CallT Pg f_code_reckons [.int .i64 op_] (.one (.agg [.str, .bool, (.int .i64), (.int .i64), (.int .i64)])) H k :=
  call_of_E Pg_mixed Tryz.func90 (by kernel_rfl) (by kernel_rfl) (by kernel_rfl) (by kernel_rfl) ((e_code_reckons op_ H k).symm ▸ h)
/-- hindcast/code.acts -/
def v_code_acts (t0_ : Int) (H : Heap) (k : ByteArray × Bool × Int × Int × Int → Heap → Prop) : Prop :=
    Nw #[.string ByteArray.empty, .bool false, .int .i64 0, .int .i64 0, .int .i64 0] T_code_shape H fun b1 H1 =>
    Br (t0_ == 19) (
      St ((adr b1).add 0) (.string (⟨#[106, 117, 109, 112]⟩ : ByteArray)) H1 fun H2 =>
      St ((adr b1).add 1) (.bool true) H2 fun H3 =>
      St ((adr b1).add 2) (.int .i64 0) H3 fun H4 =>
      St ((adr b1).add 3) (.int .i64 0) H4 fun H5 =>
      St ((adr b1).add 4) (.int .i64 0) H5 fun H6 =>
      LdC [.str, .bool, (.int .i64), (.int .i64), (.int .i64)] (adr b1) H6 fun (c1 : ByteArray × Bool × Int × Int × Int) =>
      k (c1.1, c1.2.1, c1.2.2.1, c1.2.2.2.1, c1.2.2.2.2) H6) (
      Br (t0_ == 20) (
        St ((adr b1).add 0) (.string (⟨#[122, 101, 114, 111]⟩ : ByteArray)) H1 fun H7 =>
        St ((adr b1).add 1) (.bool true) H7 fun H8 =>
        St ((adr b1).add 2) (.int .i64 1) H8 fun H9 =>
        St ((adr b1).add 3) (.int .i64 0) H9 fun H10 =>
        St ((adr b1).add 4) (.int .i64 0) H10 fun H11 =>
        LdC [.str, .bool, (.int .i64), (.int .i64), (.int .i64)] (adr b1) H11 fun (c2 : ByteArray × Bool × Int × Int × Int) =>
        k (c2.1, c2.2.1, c2.2.2.1, c2.2.2.2.1, c2.2.2.2.2) H11) (
        Br (t0_ == 21) (
          St ((adr b1).add 0) (.string (⟨#[99, 97, 108, 108]⟩ : ByteArray)) H1 fun H12 =>
          St ((adr b1).add 1) (.bool true) H12 fun H13 =>
          St ((adr b1).add 2) (.int .i64 0) H13 fun H14 =>
          St ((adr b1).add 3) (.int .i64 1) H14 fun H15 =>
          St ((adr b1).add 4) (.int .i64 1) H15 fun H16 =>
          LdC [.str, .bool, (.int .i64), (.int .i64), (.int .i64)] (adr b1) H16 fun (c3 : ByteArray × Bool × Int × Int × Int) =>
          k (c3.1, c3.2.1, c3.2.2.1, c3.2.2.2.1, c3.2.2.2.2) H16) (
          Br (t0_ == 22) (
            St ((adr b1).add 0) (.string (⟨#[114, 101, 116]⟩ : ByteArray)) H1 fun H17 =>
            St ((adr b1).add 1) (.bool false) H17 fun H18 =>
            St ((adr b1).add 2) (.int .i64 1) H18 fun H19 =>
            St ((adr b1).add 3) (.int .i64 0) H19 fun H20 =>
            St ((adr b1).add 4) (.int .i64 0) H20 fun H21 =>
            LdC [.str, .bool, (.int .i64), (.int .i64), (.int .i64)] (adr b1) H21 fun (c4 : ByteArray × Bool × Int × Int × Int) =>
            k (c4.1, c4.2.1, c4.2.2.1, c4.2.2.2.1, c4.2.2.2.2) H21) (
            Br (t0_ == 23) (
              St ((adr b1).add 0) (.string (⟨#[115, 116, 111, 112]⟩ : ByteArray)) H1 fun H22 =>
              St ((adr b1).add 1) (.bool false) H22 fun H23 =>
              St ((adr b1).add 2) (.int .i64 0) H23 fun H24 =>
              St ((adr b1).add 3) (.int .i64 0) H24 fun H25 =>
              St ((adr b1).add 4) (.int .i64 0) H25 fun H26 =>
              LdC [.str, .bool, (.int .i64), (.int .i64), (.int .i64)] (adr b1) H26 fun (c5 : ByteArray × Bool × Int × Int × Int) =>
              k (c5.1, c5.2.1, c5.2.2.1, c5.2.2.2.1, c5.2.2.2.2) H26) (
              Br (t0_ == 24) (
                St ((adr b1).add 0) (.string (⟨#[115, 116, 101, 112]⟩ : ByteArray)) H1 fun H27 =>
                St ((adr b1).add 1) (.bool false) H27 fun H28 =>
                St ((adr b1).add 2) (.int .i64 0) H28 fun H29 =>
                St ((adr b1).add 3) (.int .i64 0) H29 fun H30 =>
                St ((adr b1).add 4) (.int .i64 0) H30 fun H31 =>
                LdC [.str, .bool, (.int .i64), (.int .i64), (.int .i64)] (adr b1) H31 fun (c6 : ByteArray × Bool × Int × Int × Int) =>
                k (c6.1, c6.2.1, c6.2.2.1, c6.2.2.2.1, c6.2.2.2.2) H31) (
                Br (t0_ == 25) (
                  St ((adr b1).add 0) (.string (⟨#[101, 109, 105, 116]⟩ : ByteArray)) H1 fun H32 =>
                  St ((adr b1).add 1) (.bool false) H32 fun H33 =>
                  St ((adr b1).add 2) (.int .i64 2) H33 fun H34 =>
                  St ((adr b1).add 3) (.int .i64 0) H34 fun H35 =>
                  St ((adr b1).add 4) (.int .i64 0) H35 fun H36 =>
                  LdC [.str, .bool, (.int .i64), (.int .i64), (.int .i64)] (adr b1) H36 fun (c7 : ByteArray × Bool × Int × Int × Int) =>
                  k (c7.1, c7.2.1, c7.2.2.1, c7.2.2.2.1, c7.2.2.2.2) H36) (
                  Br (t0_ == 26) (
                    St ((adr b1).add 0) (.string (⟨#[112, 97, 114, 116]⟩ : ByteArray)) H1 fun H37 =>
                    St ((adr b1).add 1) (.bool true) H37 fun H38 =>
                    St ((adr b1).add 2) (.int .i64 0) H38 fun H39 =>
                    St ((adr b1).add 3) (.int .i64 0) H39 fun H40 =>
                    St ((adr b1).add 4) (.int .i64 2) H40 fun H41 =>
                    LdC [.str, .bool, (.int .i64), (.int .i64), (.int .i64)] (adr b1) H41 fun (c8 : ByteArray × Bool × Int × Int × Int) =>
                    k (c8.1, c8.2.1, c8.2.2.1, c8.2.2.2.1, c8.2.2.2.2) H41) (
                    Br (t0_ == 27) (
                      St ((adr b1).add 0) (.string (⟨#[115, 112, 97, 119, 110]⟩ : ByteArray)) H1 fun H42 =>
                      St ((adr b1).add 1) (.bool false) H42 fun H43 =>
                      St ((adr b1).add 2) (.int .i64 0) H43 fun H44 =>
                      St ((adr b1).add 3) (.int .i64 0) H44 fun H45 =>
                      St ((adr b1).add 4) (.int .i64 0) H45 fun H46 =>
                      LdC [.str, .bool, (.int .i64), (.int .i64), (.int .i64)] (adr b1) H46 fun (c9 : ByteArray × Bool × Int × Int × Int) =>
                      k (c9.1, c9.2.1, c9.2.2.1, c9.2.2.2.1, c9.2.2.2.2) H46) (
                      Br (t0_ == 28) (
                        St ((adr b1).add 0) (.string (⟨#[103, 105, 118, 101]⟩ : ByteArray)) H1 fun H47 =>
                        St ((adr b1).add 1) (.bool true) H47 fun H48 =>
                        St ((adr b1).add 2) (.int .i64 0) H48 fun H49 =>
                        St ((adr b1).add 3) (.int .i64 0) H49 fun H50 =>
                        St ((adr b1).add 4) (.int .i64 2) H50 fun H51 =>
                        LdC [.str, .bool, (.int .i64), (.int .i64), (.int .i64)] (adr b1) H51 fun (c10 : ByteArray × Bool × Int × Int × Int) =>
                        k (c10.1, c10.2.1, c10.2.2.1, c10.2.2.2.1, c10.2.2.2.2) H51) (
                        Br (t0_ == 29) (
                          St ((adr b1).add 0) (.string (⟨#[116, 97, 107, 101]⟩ : ByteArray)) H1 fun H52 =>
                          St ((adr b1).add 1) (.bool true) H52 fun H53 =>
                          St ((adr b1).add 2) (.int .i64 0) H53 fun H54 =>
                          St ((adr b1).add 3) (.int .i64 0) H54 fun H55 =>
                          St ((adr b1).add 4) (.int .i64 0) H55 fun H56 =>
                          LdC [.str, .bool, (.int .i64), (.int .i64), (.int .i64)] (adr b1) H56 fun (c11 : ByteArray × Bool × Int × Int × Int) =>
                          k (c11.1, c11.2.1, c11.2.2.1, c11.2.2.2.1, c11.2.2.2.2) H56) (
                          Br (t0_ == 30) (
                            St ((adr b1).add 0) (.string (⟨#[100, 105, 101]⟩ : ByteArray)) H1 fun H57 =>
                            St ((adr b1).add 1) (.bool false) H57 fun H58 =>
                            St ((adr b1).add 2) (.int .i64 0) H58 fun H59 =>
                            St ((adr b1).add 3) (.int .i64 0) H59 fun H60 =>
                            St ((adr b1).add 4) (.int .i64 0) H60 fun H61 =>
                            LdC [.str, .bool, (.int .i64), (.int .i64), (.int .i64)] (adr b1) H61 fun (c12 : ByteArray × Bool × Int × Int × Int) =>
                            k (c12.1, c12.2.1, c12.2.2.1, c12.2.2.2.1, c12.2.2.2.2) H61) (
                            Br (t0_ == 31) (
                              St ((adr b1).add 0) (.string (⟨#[114, 97, 110, 100]⟩ : ByteArray)) H1 fun H62 =>
                              St ((adr b1).add 1) (.bool false) H62 fun H63 =>
                              St ((adr b1).add 2) (.int .i64 1) H63 fun H64 =>
                              St ((adr b1).add 3) (.int .i64 1) H64 fun H65 =>
                              St ((adr b1).add 4) (.int .i64 0) H65 fun H66 =>
                              LdC [.str, .bool, (.int .i64), (.int .i64), (.int .i64)] (adr b1) H66 fun (c13 : ByteArray × Bool × Int × Int × Int) =>
                              k (c13.1, c13.2.1, c13.2.2.1, c13.2.2.2.1, c13.2.2.2.2) H66) (
                              Br (t0_ == 32) (
                                St ((adr b1).add 0) (.string (⟨#[116, 105, 99, 107]⟩ : ByteArray)) H1 fun H67 =>
                                St ((adr b1).add 1) (.bool false) H67 fun H68 =>
                                St ((adr b1).add 2) (.int .i64 0) H68 fun H69 =>
                                St ((adr b1).add 3) (.int .i64 1) H69 fun H70 =>
                                St ((adr b1).add 4) (.int .i64 0) H70 fun H71 =>
                                LdC [.str, .bool, (.int .i64), (.int .i64), (.int .i64)] (adr b1) H71 fun (c14 : ByteArray × Bool × Int × Int × Int) =>
                                k (c14.1, c14.2.1, c14.2.2.1, c14.2.2.2.1, c14.2.2.2.2) H71) (
                                Br (t0_ == 33) (
                                  St ((adr b1).add 0) (.string (⟨#[109, 101]⟩ : ByteArray)) H1 fun H72 =>
                                  St ((adr b1).add 1) (.bool false) H72 fun H73 =>
                                  St ((adr b1).add 2) (.int .i64 0) H73 fun H74 =>
                                  St ((adr b1).add 3) (.int .i64 1) H74 fun H75 =>
                                  St ((adr b1).add 4) (.int .i64 0) H75 fun H76 =>
                                  LdC [.str, .bool, (.int .i64), (.int .i64), (.int .i64)] (adr b1) H76 fun (c15 : ByteArray × Bool × Int × Int × Int) =>
                                  k (c15.1, c15.2.1, c15.2.2.1, c15.2.2.2.1, c15.2.2.2.2) H76) (
                                  Br (t0_ == 34) (
                                    St ((adr b1).add 0) (.string (⟨#[105, 110, 112, 117, 116]⟩ : ByteArray)) H1 fun H77 =>
                                    St ((adr b1).add 1) (.bool false) H77 fun H78 =>
                                    St ((adr b1).add 2) (.int .i64 2) H78 fun H79 =>
                                    St ((adr b1).add 3) (.int .i64 1) H79 fun H80 =>
                                    St ((adr b1).add 4) (.int .i64 0) H80 fun H81 =>
                                    LdC [.str, .bool, (.int .i64), (.int .i64), (.int .i64)] (adr b1) H81 fun (c16 : ByteArray × Bool × Int × Int × Int) =>
                                    k (c16.1, c16.2.1, c16.2.2.1, c16.2.2.2.1, c16.2.2.2.2) H81) (
                                    Br (t0_ == 35) (
                                      St ((adr b1).add 0) (.string (⟨#[104, 97, 115]⟩ : ByteArray)) H1 fun H82 =>
                                      St ((adr b1).add 1) (.bool true) H82 fun H83 =>
                                      St ((adr b1).add 2) (.int .i64 0) H83 fun H84 =>
                                      St ((adr b1).add 3) (.int .i64 1) H84 fun H85 =>
                                      St ((adr b1).add 4) (.int .i64 0) H85 fun H86 =>
                                      LdC [.str, .bool, (.int .i64), (.int .i64), (.int .i64)] (adr b1) H86 fun (c17 : ByteArray × Bool × Int × Int × Int) =>
                                      k (c17.1, c17.2.1, c17.2.2.1, c17.2.2.2.1, c17.2.2.2.2) H86) (
                                      Br (t0_ == 36) (
                                        St ((adr b1).add 0) (.string (⟨#[109, 105, 110]⟩ : ByteArray)) H1 fun H87 =>
                                        St ((adr b1).add 1) (.bool false) H87 fun H88 =>
                                        St ((adr b1).add 2) (.int .i64 2) H88 fun H89 =>
                                        St ((adr b1).add 3) (.int .i64 1) H89 fun H90 =>
                                        St ((adr b1).add 4) (.int .i64 0) H90 fun H91 =>
                                        LdC [.str, .bool, (.int .i64), (.int .i64), (.int .i64)] (adr b1) H91 fun (c18 : ByteArray × Bool × Int × Int × Int) =>
                                        k (c18.1, c18.2.1, c18.2.2.1, c18.2.2.2.1, c18.2.2.2.2) H91) (
                                        Br (t0_ == 37) (
                                          St ((adr b1).add 0) (.string (⟨#[109, 97, 120]⟩ : ByteArray)) H1 fun H92 =>
                                          St ((adr b1).add 1) (.bool false) H92 fun H93 =>
                                          St ((adr b1).add 2) (.int .i64 2) H93 fun H94 =>
                                          St ((adr b1).add 3) (.int .i64 1) H94 fun H95 =>
                                          St ((adr b1).add 4) (.int .i64 0) H95 fun H96 =>
                                          LdC [.str, .bool, (.int .i64), (.int .i64), (.int .i64)] (adr b1) H96 fun (c19 : ByteArray × Bool × Int × Int × Int) =>
                                          k (c19.1, c19.2.1, c19.2.2.1, c19.2.2.2.1, c19.2.2.2.2) H96) (
                                          Br (t0_ == 38) (
                                            St ((adr b1).add 0) (.string (⟨#[97, 98, 115]⟩ : ByteArray)) H1 fun H97 =>
                                            St ((adr b1).add 1) (.bool false) H97 fun H98 =>
                                            St ((adr b1).add 2) (.int .i64 1) H98 fun H99 =>
                                            St ((adr b1).add 3) (.int .i64 1) H99 fun H100 =>
                                            St ((adr b1).add 4) (.int .i64 0) H100 fun H101 =>
                                            LdC [.str, .bool, (.int .i64), (.int .i64), (.int .i64)] (adr b1) H101 fun (c20 : ByteArray × Bool × Int × Int × Int) =>
                                            k (c20.1, c20.2.1, c20.2.2.1, c20.2.2.2.1, c20.2.2.2.2) H101) (
                                            Br (t0_ == 39) (
                                              St ((adr b1).add 0) (.string (⟨#[100, 114, 111, 112]⟩ : ByteArray)) H1 fun H102 =>
                                              St ((adr b1).add 1) (.bool false) H102 fun H103 =>
                                              St ((adr b1).add 2) (.int .i64 1) H103 fun H104 =>
                                              St ((adr b1).add 3) (.int .i64 0) H104 fun H105 =>
                                              St ((adr b1).add 4) (.int .i64 0) H105 fun H106 =>
                                              LdC [.str, .bool, (.int .i64), (.int .i64), (.int .i64)] (adr b1) H106 fun (c21 : ByteArray × Bool × Int × Int × Int) =>
                                              k (c21.1, c21.2.1, c21.2.2.1, c21.2.2.2.1, c21.2.2.2.2) H106) (
                                              St ((adr b1).add 0) (.string ByteArray.empty) H1 fun H107 =>
                                              St ((adr b1).add 1) (.bool false) H107 fun H108 =>
                                              St ((adr b1).add 2) (.int .i64 0) H108 fun H109 =>
                                              St ((adr b1).add 3) (.int .i64 0) H109 fun H110 =>
                                              St ((adr b1).add 4) (.int .i64 0) H110 fun H111 =>
                                              LdC [.str, .bool, (.int .i64), (.int .i64), (.int .i64)] (adr b1) H111 fun (c22 : ByteArray × Bool × Int × Int × Int) =>
                                              k (c22.1, c22.2.1, c22.2.2.1, c22.2.2.2.1, c22.2.2.2.2) H111)))))))))))))))))))))
def h_code_acts : Hint := .no
theorem e_code_acts (t0_ : Int) (H : Heap) (k : ByteArray × Bool × Int × Int × Int → Heap → Prop) : EFun Pg Tryz.f91 h_code_acts [.int .i64 t0_] (.one (.agg [.str, .bool, (.int .i64), (.int .i64), (.int .i64)])) H k = v_code_acts t0_ H k := by kernel_rfl
theorem c_code_acts (t0_ : Int) {H : Heap} {k : ByteArray × Bool × Int × Int × Int → Heap → Prop} (h : v_code_acts t0_ H k) : CallT Pg f_code_acts [.int .i64 t0_] (.one (.agg [.str, .bool, (.int .i64), (.int .i64), (.int .i64)])) H k :=
  call_of_E Pg_mixed Tryz.func91 (by kernel_rfl) (by kernel_rfl) (by kernel_rfl) (by kernel_rfl) ((e_code_acts t0_ H k).symm ▸ h)
/-- hindcast/pack.signed -/
def v_pack_signed (n_ : Int) (H : Heap) (k : Int → Heap → Prop) : Prop :=
    ShL .i64 n_ 1 fun t1 =>
    ShR .i64 n_ 63 fun t2 =>
    Lt (bits .xor .u64 (IntKind.wrap .u64 t1) (IntKind.wrap .u64 t2)) fun t3 =>
    k t3 H
def h_pack_signed : Hint := .no
theorem e_pack_signed (n_ : Int) (H : Heap) (k : Int → Heap → Prop) : EFun Pg Tryz.f92 h_pack_signed [.int .i64 n_] (.one (.c (.int .u64))) H k = v_pack_signed n_ H k := by kernel_rfl
theorem c_pack_signed (n_ : Int) {H : Heap} {k : Int → Heap → Prop} (h : v_pack_signed n_ H k) : CallT Pg f_pack_signed [.int .i64 n_] (.one (.c (.int .u64))) H k :=
  call_of_E Pg_mixed Tryz.func92 (by kernel_rfl) (by kernel_rfl) (by kernel_rfl) (by kernel_rfl) ((e_pack_signed n_ H k).symm ▸ h)
/-- slices.Contains[[]int,int] -/
def v_slices_Contains_Sl_int_int (s_ : Sl) (v_ : Int) (H : Heap) (k : Bool → Heap → Prop) : Prop :=
    CallT Pg f_slices_Index_Sl_int_int [.slice s_.a s_.len s_.cap, .int .i64 v_] (.one (.c (.int .i64))) H fun (r1 : Int) H1 =>
    k (decide (r1 ≥ 0)) H1
def h_slices_Contains_Sl_int_int : Hint := .no
theorem e_slices_Contains_Sl_int_int (s_ : Sl) (v_ : Int) (H : Heap) (k : Bool → Heap → Prop) : EFun Pg Tryz.f93 h_slices_Contains_Sl_int_int [.slice s_.a s_.len s_.cap, .int .i64 v_] (.one (.c .bool)) H k = v_slices_Contains_Sl_int_int s_ v_ H k := by kernel_rfl
theorem c_slices_Contains_Sl_int_int (s_ : Sl) (v_ : Int) {H : Heap} {k : Bool → Heap → Prop} (h : v_slices_Contains_Sl_int_int s_ v_ H k) : CallT Pg f_slices_Contains_Sl_int_int [.slice s_.a s_.len s_.cap, .int .i64 v_] (.one (.c .bool)) H k :=
  call_of_E Pg_mixed Tryz.func93 (by kernel_rfl) (by kernel_rfl) (by kernel_rfl) (by kernel_rfl) ((e_slices_Contains_Sl_int_int s_ v_ H k).symm ▸ h)
/-- slices.ContainsFunc[[][]int,[]int] -/
def v_slices_ContainsFunc_Sl_Sl_int_Sl_int (s_ : Sl) (f_ : Value) (H : Heap) (k : Bool → Heap → Prop) : Prop :=
    CallT Pg f_slices_IndexFunc_Sl_Sl_int_Sl_int [.slice s_.a s_.len s_.cap, f_] (.one (.c (.int .i64))) H fun (r1 : Int) H1 =>
    k (decide (r1 ≥ 0)) H1
def h_slices_ContainsFunc_Sl_Sl_int_Sl_int : Hint := .no
theorem e_slices_ContainsFunc_Sl_Sl_int_Sl_int (s_ : Sl) (f_ : Value) (H : Heap) (k : Bool → Heap → Prop) : EFun Pg Tryz.f94 h_slices_ContainsFunc_Sl_Sl_int_Sl_int [.slice s_.a s_.len s_.cap, f_] (.one (.c .bool)) H k = v_slices_ContainsFunc_Sl_Sl_int_Sl_int s_ f_ H k := by kernel_rfl
theorem c_slices_ContainsFunc_Sl_Sl_int_Sl_int (s_ : Sl) (f_ : Value) {H : Heap} {k : Bool → Heap → Prop} (h : v_slices_ContainsFunc_Sl_Sl_int_Sl_int s_ f_ H k) : CallT Pg f_slices_ContainsFunc_Sl_Sl_int_Sl_int [.slice s_.a s_.len s_.cap, f_] (.one (.c .bool)) H k :=
  call_of_E Pg_mixed Tryz.func94 (by kernel_rfl) (by kernel_rfl) (by kernel_rfl) (by kernel_rfl) ((e_slices_ContainsFunc_Sl_Sl_int_Sl_int s_ f_ H k).symm ▸ h)
/-- (*hindcast/verify.checker).declared$1 -/
def v_verify_checker_declared_1 (l_ : Sl) (free0_ : Addr) (H : Heap) (k : Bool → Heap → Prop) : Prop :=
    Ld (.int .i64) free0_ H fun (x1 : Int) =>
    Quo .i64 x1 8 fun t1 =>
    CallT Pg f_slices_Contains_Sl_int_int [.slice l_.a l_.len l_.cap, .int .i64 t1] (.one (.c .bool)) H fun (r1 : Bool) H1 =>
    k r1 H1
def h_verify_checker_declared_1 : Hint := .no
theorem e_verify_checker_declared_1 (l_ : Sl) (free0_ : Addr) (H : Heap) (k : Bool → Heap → Prop) : EFun Pg Tryz.f95 h_verify_checker_declared_1 [.slice l_.a l_.len l_.cap, .pointer (some free0_)] (.one (.c .bool)) H k = v_verify_checker_declared_1 l_ free0_ H k := by kernel_rfl
theorem c_verify_checker_declared_1 (l_ : Sl) (free0_ : Addr) {H : Heap} {k : Bool → Heap → Prop} (h : v_verify_checker_declared_1 l_ free0_ H k) : CallT Pg f_verify_checker_declared_1 [.slice l_.a l_.len l_.cap, .pointer (some free0_)] (.one (.c .bool)) H k :=
  call_of_E Pg_mixed Tryz.func95 (by kernel_rfl) (by kernel_rfl) (by kernel_rfl) (by kernel_rfl) ((e_verify_checker_declared_1 l_ free0_ H k).symm ▸ h)
/-- hindcast/code.Effect -/
def v_code_Effect (i_ : Int × Int) (funcs_ : Sl) (H : Heap) (k : Int × Int → Heap → Prop) : Prop :=
    Nw #[.int .i64 i_.1, .int .i64 i_.2] T_api_Instr H fun b1 H1 =>
    Ld (.int .i64) (adr b1) H1 fun (x1 : Int) =>
    CallT Pg f_code_isOp [.int .i64 x1] (.one (.c .bool)) H1 fun (r1 : Bool) H2 =>
    Br (!r1) (
      k (0, 0) H2) (
      Ld (.int .i64) (adr b1) H2 fun (x2 : Int) =>
      CallT Pg f_code_shapeOf [.int .i64 x2] (.one (.agg [.str, .bool, (.int .i64), (.int .i64), (.int .i64)])) H2 fun (r2 : ByteArray × Bool × Int × Int × Int) H3 =>
      Nw #[.string ByteArray.empty, .bool false, .int .i64 0, .int .i64 0, .int .i64 0] T_code_shape H3 fun b2 H4 =>
      St ((adr b2).add 0) (.string r2.1) H4 fun H5 =>
      St ((adr b2).add 1) (.bool r2.2.1) H5 fun H6 =>
      St ((adr b2).add 2) (.int .i64 r2.2.2.1) H6 fun H7 =>
      St ((adr b2).add 3) (.int .i64 r2.2.2.2.1) H7 fun H8 =>
      St ((adr b2).add 4) (.int .i64 r2.2.2.2.2) H8 fun H9 =>
      Jn (σ := Unit) /-  -/ (fun kk1 =>
        Jn (σ := Bool) /-  -/ (fun kk2 =>
          Ld (.int .i64) ((adr b2).add 4) H9 fun (x3 : Int) =>
          Br (x3 == 1) (
            Ld (.int .i64) ((adr b1).add 1) H9 fun (x4 : Int) =>
            Br (decide (x4 ≥ 0)) (
              Ld (.int .i64) ((adr b1).add 1) H9 fun (x5 : Int) =>
              kk2 (decide (x5 < (funcs_.len : Int))) H9) (
              kk2 false H9)) (
            kk2 false H9)) fun j2 H11 =>
        Jn (σ := Unit) /-  -/ (fun kk3 =>
          Br j2 (
            Ld (.int .i64) ((adr b1).add 1) H11 fun (x6 : Int) =>
            IxA 4 funcs_ x6 fun a1 =>
            Ld (.int .i64) (a1.add 1) H11 fun (x7 : Int) =>
            St ((adr b2).add 2) (.int .i64 (if x7 < 0 then 0 else x7)) H11 fun H13 =>
            kk3 () H13) (
            Jn (σ := Bool) /-  -/ (fun kk4 =>
              Ld (.int .i64) ((adr b2).add 4) H11 fun (x8 : Int) =>
              Br (x8 == 2) (
                Ld (.int .i64) ((adr b1).add 1) H11 fun (x9 : Int) =>
                kk4 (decide (x9 ≥ 0)) H11) (
                kk4 false H11)) fun j4 H14 =>
            Jn (σ := Unit) /-  -/ (fun kk5 =>
              Br j4 (
                Ld (.int .i64) ((adr b1).add 1) H14 fun (x10 : Int) =>
                Rem x10 8 fun t1 =>
                St ((adr b2).add 2) (.int .i64 t1) H14 fun H16 =>
                kk5 () H16) (
                kk5 () H14)) fun j5 H15 =>
            kk3 () H15)) fun j3 H12 =>
        kk1 () H12) fun j1 H10 =>
      Ld (.int .i64) ((adr b2).add 2) H10 fun (x11 : Int) =>
      Ld (.int .i64) ((adr b2).add 3) H10 fun (x12 : Int) =>
      k (x11, x12) H10)
def h_code_Effect : Hint := (.two .no (.two .no (.two .no (.two (.join [] (.one (.two (.join [(14, (.c .bool))] .no) (.join [] (.two .no (.two (.join [(38, (.c .bool))] .no) (.join [] .no))))))) .no))))
theorem e_code_Effect (i_ : Int × Int) (funcs_ : Sl) (H : Heap) (k : Int × Int → Heap → Prop) : EFun Pg Tryz.f96 h_code_Effect [.agg #[.int .i64 i_.1, .int .i64 i_.2], .slice funcs_.a funcs_.len funcs_.cap] (.tup [(.c (.int .i64)), (.c (.int .i64))]) H k = v_code_Effect i_ funcs_ H k := by kernel_rfl
theorem c_code_Effect (i_ : Int × Int) (funcs_ : Sl) {H : Heap} {k : Int × Int → Heap → Prop} (h : v_code_Effect i_ funcs_ H k) : CallT Pg f_code_Effect [.agg #[.int .i64 i_.1, .int .i64 i_.2], .slice funcs_.a funcs_.len funcs_.cap] (.tup [(.c (.int .i64)), (.c (.int .i64))]) H k :=
  call_of_E Pg_mixed Tryz.func96 (by kernel_rfl) (by kernel_rfl) (by kernel_rfl) (by kernel_rfl) ((e_code_Effect i_ funcs_ H k).symm ▸ h)
/-- slices.Contains[[]int64,int64] -/
def v_slices_Contains_Sl_int64_int64 (s_ : Sl) (v_ : Int) (H : Heap) (k : Bool → Heap → Prop) : Prop :=
    CallT Pg f_slices_Index_Sl_int64_int64 [.slice s_.a s_.len s_.cap, .int .i64 v_] (.one (.c (.int .i64))) H fun (r1 : Int) H1 =>
    k (decide (r1 ≥ 0)) H1
def h_slices_Contains_Sl_int64_int64 : Hint := .no
theorem e_slices_Contains_Sl_int64_int64 (s_ : Sl) (v_ : Int) (H : Heap) (k : Bool → Heap → Prop) : EFun Pg Tryz.f97 h_slices_Contains_Sl_int64_int64 [.slice s_.a s_.len s_.cap, .int .i64 v_] (.one (.c .bool)) H k = v_slices_Contains_Sl_int64_int64 s_ v_ H k := by kernel_rfl
theorem c_slices_Contains_Sl_int64_int64 (s_ : Sl) (v_ : Int) {H : Heap} {k : Bool → Heap → Prop} (h : v_slices_Contains_Sl_int64_int64 s_ v_ H k) : CallT Pg f_slices_Contains_Sl_int64_int64 [.slice s_.a s_.len s_.cap, .int .i64 v_] (.one (.c .bool)) H k :=
  call_of_E Pg_mixed Tryz.func97 (by kernel_rfl) (by kernel_rfl) (by kernel_rfl) (by kernel_rfl) ((e_slices_Contains_Sl_int64_int64 s_ v_ H k).symm ▸ h)
/-- hindcast/hindcastref13.IsOp -/
def v_hindcastref13_IsOp (op_ : Int) (H : Heap) (k : Bool → Heap → Prop) : Prop :=
    Jn (σ := Bool) /-  -/ (fun kk1 =>
      Br (decide (op_ ≥ 1)) (
        kk1 (decide (op_ ≤ 39)) H) (
        kk1 false H)) fun j1 H1 =>
    k j1 H1
def h_hindcastref13_IsOp : Hint := (.two .no (.two (.join [(2, (.c .bool))] .no) .no))
theorem e_hindcastref13_IsOp (op_ : Int) (H : Heap) (k : Bool → Heap → Prop) : EFun Pg Tryz.f98 h_hindcastref13_IsOp [.int .i64 op_] (.one (.c .bool)) H k = v_hindcastref13_IsOp op_ H k := by kernel_rfl
theorem c_hindcastref13_IsOp (op_ : Int) {H : Heap} {k : Bool → Heap → Prop} (h : v_hindcastref13_IsOp op_ H k) : CallT Pg f_hindcastref13_IsOp [.int .i64 op_] (.one (.c .bool)) H k :=
  call_of_E Pg_mixed Tryz.func98 (by kernel_rfl) (by kernel_rfl) (by kernel_rfl) (by kernel_rfl) ((e_hindcastref13_IsOp op_ H k).symm ▸ h)
/-- hindcast/hindcastref13.table -/
def v_hindcastref13_table  (H : Heap) (k : Sl → Heap → Prop) : Prop :=
    Nw #[.string ByteArray.empty, .bool false, .int .i64 0, .int .i64 0, .string (⟨#[112, 117, 115, 104]⟩ : ByteArray), .bool true, .int .i64 0, .int .i64 1, .string (⟨#[108, 111, 97, 100]⟩ : ByteArray), .bool true, .int .i64 0, .int .i64 1, .string (⟨#[115, 116, 111, 114, 101]⟩ : ByteArray), .bool true, .int .i64 1, .int .i64 0, .string (⟨#[102, 105, 101, 108, 100]⟩ : ByteArray), .bool true, .int .i64 0, .int .i64 1, .string (⟨#[112, 117, 116]⟩ : ByteArray), .bool true, .int .i64 1, .int .i64 0, .string (⟨#[97, 100, 100]⟩ : ByteArray), .bool false, .int .i64 2, .int .i64 1, .string (⟨#[115, 117, 98]⟩ : ByteArray), .bool false, .int .i64 2, .int .i64 1, .string (⟨#[109, 117, 108]⟩ : ByteArray), .bool false, .int .i64 2, .int .i64 1, .string (⟨#[100, 105, 118]⟩ : ByteArray), .bool false, .int .i64 2, .int .i64 1, .string (⟨#[114, 101, 109]⟩ : ByteArray), .bool false, .int .i64 2, .int .i64 1, .string (⟨#[110, 101, 103]⟩ : ByteArray), .bool false, .int .i64 1, .int .i64 1, .string (⟨#[101, 113]⟩ : ByteArray), .bool false, .int .i64 2, .int .i64 1, .string (⟨#[110, 101]⟩ : ByteArray), .bool false, .int .i64 2, .int .i64 1, .string (⟨#[108, 116]⟩ : ByteArray), .bool false, .int .i64 2, .int .i64 1, .string (⟨#[108, 101]⟩ : ByteArray), .bool false, .int .i64 2, .int .i64 1, .string (⟨#[103, 116]⟩ : ByteArray), .bool false, .int .i64 2, .int .i64 1, .string (⟨#[103, 101]⟩ : ByteArray), .bool false, .int .i64 2, .int .i64 1, .string (⟨#[110, 111, 116]⟩ : ByteArray), .bool false, .int .i64 1, .int .i64 1, .string (⟨#[106, 117, 109, 112]⟩ : ByteArray), .bool true, .int .i64 0, .int .i64 0, .string (⟨#[122, 101, 114, 111]⟩ : ByteArray), .bool true, .int .i64 1, .int .i64 0, .string (⟨#[99, 97, 108, 108]⟩ : ByteArray), .bool true, .int .i64 (-1), .int .i64 1, .string (⟨#[114, 101, 116]⟩ : ByteArray), .bool false, .int .i64 1, .int .i64 0, .string (⟨#[115, 116, 111, 112]⟩ : ByteArray), .bool false, .int .i64 0, .int .i64 0, .string (⟨#[115, 116, 101, 112]⟩ : ByteArray), .bool false, .int .i64 0, .int .i64 0, .string (⟨#[101, 109, 105, 116]⟩ : ByteArray), .bool false, .int .i64 2, .int .i64 0, .string (⟨#[112, 97, 114, 116]⟩ : ByteArray), .bool true, .int .i64 (-2), .int .i64 0, .string (⟨#[115, 112, 97, 119, 110]⟩ : ByteArray), .bool false, .int .i64 0, .int .i64 0, .string (⟨#[103, 105, 118, 101]⟩ : ByteArray), .bool true, .int .i64 (-2), .int .i64 0, .string (⟨#[116, 97, 107, 101]⟩ : ByteArray), .bool true, .int .i64 0, .int .i64 0, .string (⟨#[100, 105, 101]⟩ : ByteArray), .bool false, .int .i64 0, .int .i64 0, .string (⟨#[114, 97, 110, 100]⟩ : ByteArray), .bool false, .int .i64 1, .int .i64 1, .string (⟨#[116, 105, 99, 107]⟩ : ByteArray), .bool false, .int .i64 0, .int .i64 1, .string (⟨#[109, 101]⟩ : ByteArray), .bool false, .int .i64 0, .int .i64 1, .string (⟨#[105, 110, 112, 117, 116]⟩ : ByteArray), .bool false, .int .i64 2, .int .i64 1, .string (⟨#[104, 97, 115]⟩ : ByteArray), .bool true, .int .i64 0, .int .i64 1, .string (⟨#[109, 105, 110]⟩ : ByteArray), .bool false, .int .i64 2, .int .i64 1, .string (⟨#[109, 97, 120]⟩ : ByteArray), .bool false, .int .i64 2, .int .i64 1, .string (⟨#[97, 98, 115]⟩ : ByteArray), .bool false, .int .i64 1, .int .i64 1, .string (⟨#[100, 114, 111, 112]⟩ : ByteArray), .bool false, .int .i64 1, .int .i64 0] T_hindcastref13_row H fun b1 H1 =>
    k ⟨some (adr b1), 40, 40⟩ H1
def h_hindcastref13_table : Hint := .no
theorem e_hindcastref13_table  (H : Heap) (k : Sl → Heap → Prop) : EFun Pg Tryz.f100 h_hindcastref13_table [] (.one (.c .sl)) H k = v_hindcastref13_table  H k := by kernel_rfl
theorem c_hindcastref13_table  {H : Heap} {k : Sl → Heap → Prop} (h : v_hindcastref13_table  H k) : CallT Pg f_hindcastref13_table [] (.one (.c .sl)) H k :=
  call_of_E Pg_mixed Tryz.func100 (by kernel_rfl) (by kernel_rfl) (by kernel_rfl) (by kernel_rfl) ((e_hindcastref13_table  H k).symm ▸ h)
/-- slices.Index[[]string,string] -/
def v_slices_Index_Sl_string_string (s_ : Sl) (v_ : ByteArray) (H : Heap) (k : Int → Heap → Prop) : Prop :=
    LoopT (σ := Int) /-  -/ (fun next1 s1 H1 =>
      Br (decide (s1 < (s_.len : Int))) (
        IxA 1 s_ s1 fun a1 =>
        Ld .str a1 H1 fun (x1 : ByteArray) =>
        Br (v_.toList == x1.toList) (
          k s1 H1) (
          Lt (IntKind.wrap .i64 (s1 + 1)) fun t1 =>
          next1 t1 H1)) (
        k (-1) H1)) 0 H
def h_slices_Index_Sl_string_string : Hint := (.two .no (.two (.two .no (.one (.loop [(8, (.c (.int .i64)))] .no))) .no))
theorem e_slices_Index_Sl_string_string (s_ : Sl) (v_ : ByteArray) (H : Heap) (k : Int → Heap → Prop) : EFun Pg Tryz.f101 h_slices_Index_Sl_string_string [.slice s_.a s_.len s_.cap, .string v_] (.one (.c (.int .i64))) H k = v_slices_Index_Sl_string_string s_ v_ H k := by kernel_rfl
theorem c_slices_Index_Sl_string_string (s_ : Sl) (v_ : ByteArray) {H : Heap} {k : Int → Heap → Prop} (h : v_slices_Index_Sl_string_string s_ v_ H k) : CallT Pg f_slices_Index_Sl_string_string [.slice s_.a s_.len s_.cap, .string v_] (.one (.c (.int .i64))) H k :=
  call_of_E Pg_mixed Tryz.func101 (by kernel_rfl) (by kernel_rfl) (by kernel_rfl) (by kernel_rfl) ((e_slices_Index_Sl_string_string s_ v_ H k).symm ▸ h)
/-- hindcast/code.isOp -/
def v_code_isOp (op_ : Int) (H : Heap) (k : Bool → Heap → Prop) : Prop :=
    Jn (σ := Bool) /-  -/ (fun kk1 =>
      Br (decide (op_ > 0)) (
        kk1 (decide (op_ ≤ 39)) H) (
        kk1 false H)) fun j1 H1 =>
    k j1 H1
def h_code_isOp : Hint := (.two .no (.two (.join [(2, (.c .bool))] .no) .no))
theorem e_code_isOp (op_ : Int) (H : Heap) (k : Bool → Heap → Prop) : EFun Pg Tryz.f102 h_code_isOp [.int .i64 op_] (.one (.c .bool)) H k = v_code_isOp op_ H k := by kernel_rfl
theorem c_code_isOp (op_ : Int) {H : Heap} {k : Bool → Heap → Prop} (h : v_code_isOp op_ H k) : CallT Pg f_code_isOp [.int .i64 op_] (.one (.c .bool)) H k :=
  call_of_E Pg_mixed Tryz.func102 (by kernel_rfl) (by kernel_rfl) (by kernel_rfl) (by kernel_rfl) ((e_code_isOp op_ H k).symm ▸ h)
/-- slices.Index[[]int,int] -/
def v_slices_Index_Sl_int_int (s_ : Sl) (v_ : Int) (H : Heap) (k : Int → Heap → Prop) : Prop :=
    LoopT (σ := Int) /-  -/ (fun next1 s1 H1 =>
      Br (decide (s1 < (s_.len : Int))) (
        IxA 1 s_ s1 fun a1 =>
        Ld (.int .i64) a1 H1 fun (x1 : Int) =>
        Br (v_ == x1) (
          k s1 H1) (
          Lt (IntKind.wrap .i64 (s1 + 1)) fun t1 =>
          next1 t1 H1)) (
        k (-1) H1)) 0 H
def h_slices_Index_Sl_int_int : Hint := (.two .no (.two (.two .no (.one (.loop [(8, (.c (.int .i64)))] .no))) .no))
theorem e_slices_Index_Sl_int_int (s_ : Sl) (v_ : Int) (H : Heap) (k : Int → Heap → Prop) : EFun Pg Tryz.f103 h_slices_Index_Sl_int_int [.slice s_.a s_.len s_.cap, .int .i64 v_] (.one (.c (.int .i64))) H k = v_slices_Index_Sl_int_int s_ v_ H k := by kernel_rfl
theorem c_slices_Index_Sl_int_int (s_ : Sl) (v_ : Int) {H : Heap} {k : Int → Heap → Prop} (h : v_slices_Index_Sl_int_int s_ v_ H k) : CallT Pg f_slices_Index_Sl_int_int [.slice s_.a s_.len s_.cap, .int .i64 v_] (.one (.c (.int .i64))) H k :=
  call_of_E Pg_mixed Tryz.func103 (by kernel_rfl) (by kernel_rfl) (by kernel_rfl) (by kernel_rfl) ((e_slices_Index_Sl_int_int s_ v_ H k).symm ▸ h)
/-- slices.IndexFunc[[][]int,[]int] -/
def v_slices_IndexFunc_Sl_Sl_int_Sl_int (s_ : Sl) (f_ : Value) (H : Heap) (k : Int → Heap → Prop) : Prop :=
    LoopT (σ := Int) /-  -/ (fun next1 s1 H1 =>
      Br (decide (s1 < (s_.len : Int))) (
        IxA 1 s_ s1 fun a1 =>
        Ld .sl a1 H1 fun (x1 : Sl) =>
        CallX Pg f_ [.slice x1.a x1.len x1.cap] (.one (.c .bool)) H1 fun (r1 : Bool) H2 =>
        Br r1 (
          k s1 H2) (
          Lt (IntKind.wrap .i64 (s1 + 1)) fun t1 =>
          next1 t1 H2)) (
        k (-1) H1)) 0 H
def h_slices_IndexFunc_Sl_Sl_int_Sl_int : Hint := (.two .no (.two (.two .no (.one (.loop [(8, (.c (.int .i64)))] .no))) .no))
theorem e_slices_IndexFunc_Sl_Sl_int_Sl_int (s_ : Sl) (f_ : Value) (H : Heap) (k : Int → Heap → Prop) : EFun Pg Tryz.f104 h_slices_IndexFunc_Sl_Sl_int_Sl_int [.slice s_.a s_.len s_.cap, f_] (.one (.c (.int .i64))) H k = v_slices_IndexFunc_Sl_Sl_int_Sl_int s_ f_ H k := by kernel_rfl
theorem c_slices_IndexFunc_Sl_Sl_int_Sl_int (s_ : Sl) (f_ : Value) {H : Heap} {k : Int → Heap → Prop} (h : v_slices_IndexFunc_Sl_Sl_int_Sl_int s_ f_ H k) : CallT Pg f_slices_IndexFunc_Sl_Sl_int_Sl_int [.slice s_.a s_.len s_.cap, f_] (.one (.c (.int .i64))) H k :=
  call_of_E Pg_mixed Tryz.func104 (by kernel_rfl) (by kernel_rfl) (by kernel_rfl) (by kernel_rfl) ((e_slices_IndexFunc_Sl_Sl_int_Sl_int s_ f_ H k).symm ▸ h)
/-- slices.Index[[]int64,int64] -/
def v_slices_Index_Sl_int64_int64 (s_ : Sl) (v_ : Int) (H : Heap) (k : Int → Heap → Prop) : Prop :=
    LoopT (σ := Int) /-  -/ (fun next1 s1 H1 =>
      Br (decide (s1 < (s_.len : Int))) (
        IxA 1 s_ s1 fun a1 =>
        Ld (.int .i64) a1 H1 fun (x1 : Int) =>
        Br (v_ == x1) (
          k s1 H1) (
          Lt (IntKind.wrap .i64 (s1 + 1)) fun t1 =>
          next1 t1 H1)) (
        k (-1) H1)) 0 H
def h_slices_Index_Sl_int64_int64 : Hint := (.two .no (.two (.two .no (.one (.loop [(8, (.c (.int .i64)))] .no))) .no))
theorem e_slices_Index_Sl_int64_int64 (s_ : Sl) (v_ : Int) (H : Heap) (k : Int → Heap → Prop) : EFun Pg Tryz.f105 h_slices_Index_Sl_int64_int64 [.slice s_.a s_.len s_.cap, .int .i64 v_] (.one (.c (.int .i64))) H k = v_slices_Index_Sl_int64_int64 s_ v_ H k := by kernel_rfl
theorem c_slices_Index_Sl_int64_int64 (s_ : Sl) (v_ : Int) {H : Heap} {k : Int → Heap → Prop} (h : v_slices_Index_Sl_int64_int64 s_ v_ H k) : CallT Pg f_slices_Index_Sl_int64_int64 [.slice s_.a s_.len s_.cap, .int .i64 v_] (.one (.c (.int .i64))) H k :=
  call_of_E Pg_mixed Tryz.func105 (by kernel_rfl) (by kernel_rfl) (by kernel_rfl) (by kernel_rfl) ((e_slices_Index_Sl_int64_int64 s_ v_ H k).symm ▸ h)
end Go.Proofs.YtlkmmplgfjicjaaGreat
