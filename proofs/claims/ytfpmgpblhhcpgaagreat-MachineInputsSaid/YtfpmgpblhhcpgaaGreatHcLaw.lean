/-
  Machine: the inputs, from the last.
-/
import Derived.Test.YtfpmgpblhhcpgaaGreatVRef
import Derived.Test.YtfpmgpblhhcpgaaGreatHcFun
import Derived.KernelRfl
import Derived.Test.YtfpmgpblhhcpgaaGreatProg
import Derived.RangeFuncBox
import Derived.RangeFuncLeaves
import Derived.Shelf.Abstract
import Derived.WalkKit
import Derived.OwnWalkIn
import Derived.TacticsInMore
import Derived.LoopNIn
import Derived.LoopIn
import Derived.RangeFuncNested
import GoSem.ClaimChange
import Derived.SizedLaws
import Derived.Below
import Derived.ProofKit
namespace Go.Proofs.YtfpmgpblhhcpgaaGreat
set_option linter.unusedVariables false
set_option linter.unusedSimpArgs false
open Go.Proofs.YtfpmgpblhhcpgaaGreat.Hc
abbrev f_hindcastlaw16_MachineEnds : FuncId := 4
abbrev f_hindcastlaw16_shown : FuncId := 7
abbrev f_hindcastlaw16_copied : FuncId := 9
abbrev f_hindcastlaw16_one : FuncId := 20
abbrev f_hindcastlaw16_env : FuncId := 21
/-- hindcast/hindcastlaw16.shown -/
def v_hindcastlaw16_shown  (H : Heap) (k : Bool → Heap → Prop) : Prop :=
    Nw #[.int .i64 24, .int .i64 0, .int .i64 4, .int .i64 8, .int .i64 1, .int .i64 1, .int .i64 6, .int .i64 0, .int .i64 5, .int .i64 8, .int .i64 23, .int .i64 0] T_api_Instr H fun b1 H1 =>
    CallT Pg f_hindcastlaw16_one [.slice (some (adr b1)) 6 6] (.one (.agg [.sl, .sl])) H1 fun (r1 : Sl × Sl) H2 =>
    CallT Pg f_hindcastlaw16_env [] (.one (.agg [(.int .i64), (.int .i64), (.int .i64), .sl, (.int .i64), (.int .i64), .sl])) H2 fun (r2 : Int × Int × Int × Sl × Int × Int × Sl) H3 =>
    CallT Pg f_machine_Run [.agg #[.slice r1.1.a r1.1.len r1.1.cap, .slice r1.2.a r1.2.len r1.2.cap], .int .i64 0, .agg #[.int .i64 r2.1, .int .i64 r2.2.1, .int .i64 r2.2.2.1, .slice r2.2.2.2.1.a r2.2.2.2.1.len r2.2.2.2.1.cap, .int .i64 r2.2.2.2.2.1, .int .i64 r2.2.2.2.2.2.1, .slice r2.2.2.2.2.2.2.a r2.2.2.2.2.2.2.len r2.2.2.2.2.2.2.cap]] (.one (.agg [.sl, .sl, .sl, (.int .i64), (.int .i64)])) H3 fun (r3 : Sl × Sl × Sl × Int × Int) H4 =>
    Nw #[.slice none 0 0, .slice none 0 0, .slice none 0 0, .int .i64 0, .int .i64 0] T_api_Outcome H4 fun b2 H5 =>
    St ((adr b2).add 0) (.slice r3.1.a r3.1.len r3.1.cap) H5 fun H6 =>
    St ((adr b2).add 1) (.slice r3.2.1.a r3.2.1.len r3.2.1.cap) H6 fun H7 =>
    St ((adr b2).add 2) (.slice r3.2.2.1.a r3.2.2.1.len r3.2.2.1.cap) H7 fun H8 =>
    St ((adr b2).add 3) (.int .i64 r3.2.2.2.1) H8 fun H9 =>
    St ((adr b2).add 4) (.int .i64 r3.2.2.2.2) H9 fun H10 =>
    Nw #[.int .i64 1, .int .i64 1, .int .i64 19, .int .i64 0] T_api_Instr H10 fun b3 H11 =>
    CallT Pg f_hindcastlaw16_one [.slice (some (adr b3)) 2 2] (.one (.agg [.sl, .sl])) H11 fun (r4 : Sl × Sl) H12 =>
    CallT Pg f_hindcastlaw16_env [] (.one (.agg [(.int .i64), (.int .i64), (.int .i64), .sl, (.int .i64), (.int .i64), .sl])) H12 fun (r5 : Int × Int × Int × Sl × Int × Int × Sl) H13 =>
    CallT Pg f_machine_Run [.agg #[.slice r4.1.a r4.1.len r4.1.cap, .slice r4.2.a r4.2.len r4.2.cap], .int .i64 0, .agg #[.int .i64 r5.1, .int .i64 r5.2.1, .int .i64 r5.2.2.1, .slice r5.2.2.2.1.a r5.2.2.2.1.len r5.2.2.2.1.cap, .int .i64 r5.2.2.2.2.1, .int .i64 r5.2.2.2.2.2.1, .slice r5.2.2.2.2.2.2.a r5.2.2.2.2.2.2.len r5.2.2.2.2.2.2.cap]] (.one (.agg [.sl, .sl, .sl, (.int .i64), (.int .i64)])) H13 fun (r6 : Sl × Sl × Sl × Int × Int) H14 =>
    Nw #[.slice none 0 0, .slice none 0 0, .slice none 0 0, .int .i64 0, .int .i64 0] T_api_Outcome H14 fun b4 H15 =>
    St ((adr b4).add 0) (.slice r6.1.a r6.1.len r6.1.cap) H15 fun H16 =>
    St ((adr b4).add 1) (.slice r6.2.1.a r6.2.1.len r6.2.1.cap) H16 fun H17 =>
    St ((adr b4).add 2) (.slice r6.2.2.1.a r6.2.2.1.len r6.2.2.1.cap) H17 fun H18 =>
    St ((adr b4).add 3) (.int .i64 r6.2.2.2.1) H18 fun H19 =>
    St ((adr b4).add 4) (.int .i64 r6.2.2.2.2) H19 fun H20 =>
    Nw #[.int .i64 24, .int .i64 0, .int .i64 19, .int .i64 0] T_api_Instr H20 fun b5 H21 =>
    CallT Pg f_hindcastlaw16_one [.slice (some (adr b5)) 2 2] (.one (.agg [.sl, .sl])) H21 fun (r7 : Sl × Sl) H22 =>
    CallT Pg f_hindcastlaw16_env [] (.one (.agg [(.int .i64), (.int .i64), (.int .i64), .sl, (.int .i64), (.int .i64), .sl])) H22 fun (r8 : Int × Int × Int × Sl × Int × Int × Sl) H23 =>
    CallT Pg f_machine_Run [.agg #[.slice r7.1.a r7.1.len r7.1.cap, .slice r7.2.a r7.2.len r7.2.cap], .int .i64 0, .agg #[.int .i64 r8.1, .int .i64 r8.2.1, .int .i64 r8.2.2.1, .slice r8.2.2.2.1.a r8.2.2.2.1.len r8.2.2.2.1.cap, .int .i64 r8.2.2.2.2.1, .int .i64 r8.2.2.2.2.2.1, .slice r8.2.2.2.2.2.2.a r8.2.2.2.2.2.2.len r8.2.2.2.2.2.2.cap]] (.one (.agg [.sl, .sl, .sl, (.int .i64), (.int .i64)])) H23 fun (r9 : Sl × Sl × Sl × Int × Int) H24 =>
    Nw #[.slice none 0 0, .slice none 0 0, .slice none 0 0, .int .i64 0, .int .i64 0] T_api_Outcome H24 fun b6 H25 =>
    St ((adr b6).add 0) (.slice r9.1.a r9.1.len r9.1.cap) H25 fun H26 =>
    St ((adr b6).add 1) (.slice r9.2.1.a r9.2.1.len r9.2.1.cap) H26 fun H27 =>
    St ((adr b6).add 2) (.slice r9.2.2.1.a r9.2.2.1.len r9.2.2.1.cap) H27 fun H28 =>
    St ((adr b6).add 3) (.int .i64 r9.2.2.2.1) H28 fun H29 =>
    St ((adr b6).add 4) (.int .i64 r9.2.2.2.2) H29 fun H30 =>
    Nw #[.int .i64 1, .int .i64 1, .int .i64 1, .int .i64 2, .int .i64 25, .int .i64 0, .int .i64 23, .int .i64 0] T_api_Instr H30 fun b7 H31 =>
    CallT Pg f_hindcastlaw16_one [.slice (some (adr b7)) 4 4] (.one (.agg [.sl, .sl])) H31 fun (r10 : Sl × Sl) H32 =>
    CallT Pg f_hindcastlaw16_env [] (.one (.agg [(.int .i64), (.int .i64), (.int .i64), .sl, (.int .i64), (.int .i64), .sl])) H32 fun (r11 : Int × Int × Int × Sl × Int × Int × Sl) H33 =>
    CallT Pg f_machine_Run [.agg #[.slice r10.1.a r10.1.len r10.1.cap, .slice r10.2.a r10.2.len r10.2.cap], .int .i64 0, .agg #[.int .i64 r11.1, .int .i64 r11.2.1, .int .i64 r11.2.2.1, .slice r11.2.2.2.1.a r11.2.2.2.1.len r11.2.2.2.1.cap, .int .i64 r11.2.2.2.2.1, .int .i64 r11.2.2.2.2.2.1, .slice r11.2.2.2.2.2.2.a r11.2.2.2.2.2.2.len r11.2.2.2.2.2.2.cap]] (.one (.agg [.sl, .sl, .sl, (.int .i64), (.int .i64)])) H33 fun (r12 : Sl × Sl × Sl × Int × Int) H34 =>
    Nw #[.slice none 0 0, .slice none 0 0, .slice none 0 0, .int .i64 0, .int .i64 0] T_api_Outcome H34 fun b8 H35 =>
    St ((adr b8).add 0) (.slice r12.1.a r12.1.len r12.1.cap) H35 fun H36 =>
    St ((adr b8).add 1) (.slice r12.2.1.a r12.2.1.len r12.2.1.cap) H36 fun H37 =>
    St ((adr b8).add 2) (.slice r12.2.2.1.a r12.2.2.1.len r12.2.2.1.cap) H37 fun H38 =>
    St ((adr b8).add 3) (.int .i64 r12.2.2.2.1) H38 fun H39 =>
    St ((adr b8).add 4) (.int .i64 r12.2.2.2.2) H39 fun H40 =>
    Jn (σ := Bool) /-  -/ (fun kk1 =>
      Ld (.int .i64) ((adr b2).add 4) H40 fun (x1 : Int) =>
      Br (x1 == 0) (
        Ld (.int .i64) ((adr b2).add 3) H40 fun (x2 : Int) =>
        Br (x2 == 1) (
          Ld .sl (adr b2) H40 fun (x3 : Sl) =>
          Br ((x3.len : Int) == 1) (
            Ld .sl (adr b2) H40 fun (x4 : Sl) =>
            IxA 2 x4 0 fun a1 =>
            Ld (.int .i64) a1 H40 fun (x5 : Int) =>
            Br (x5 == 1) (
              Ld .sl (adr b2) H40 fun (x6 : Sl) =>
              IxA 2 x6 0 fun a2 =>
              Ld .sl (a2.add 1) H40 fun (x7 : Sl) =>
              Br ((x7.len : Int) == 1) (
                Ld .sl (adr b2) H40 fun (x8 : Sl) =>
                IxA 2 x8 0 fun a3 =>
                Ld .sl (a3.add 1) H40 fun (x9 : Sl) =>
                IxA 1 x9 0 fun a4 =>
                Ld (.int .i64) a4 H40 fun (x10 : Int) =>
                Br (x10 == 8) (
                  Ld (.int .i64) ((adr b4).add 4) H40 fun (x11 : Int) =>
                  Br (x11 == 151) (
                    Ld (.int .i64) ((adr b6).add 4) H40 fun (x12 : Int) =>
                    Br (x12 == 120) (
                      Ld (.int .i64) ((adr b6).add 3) H40 fun (x13 : Int) =>
                      Br (x13 == 2001) (
                        Ld .sl ((adr b8).add 2) H40 fun (x14 : Sl) =>
                        Br ((x14.len : Int) == 1) (
                          Ld .sl ((adr b8).add 2) H40 fun (x15 : Sl) =>
                          IxA 5 x15 0 fun a5 =>
                          LdC [(.int .i64), (.int .i64), (.int .i64), (.int .i64), (.int .i64)] a5 H40 fun (c1 : Int × Int × Int × Int × Int) =>
                          kk1 (eqL [(.int .i64), (.int .i64), (.int .i64), (.int .i64), (.int .i64)] (c1.1, c1.2.1, c1.2.2.1, c1.2.2.2.1, c1.2.2.2.2) (0, 5, 1, 1, 2)) H40) (
                          kk1 false H40)) (
                        kk1 false H40)) (
                      kk1 false H40)) (
                    kk1 false H40)) (
                  kk1 false H40)) (
                kk1 false H40)) (
              kk1 false H40)) (
            kk1 false H40)) (
          kk1 false H40)) (
        kk1 false H40)) fun j1 H41 =>
    k j1 H41
def h_hindcastlaw16_shown : Hint := (.two .no (.two .no (.two .no (.two .no (.two .no (.two (.join [(0, (.c .bool))] .no) .no))))))
theorem e_hindcastlaw16_shown  (H : Heap) (k : Bool → Heap → Prop) : EFun Pg Tryz.f7 h_hindcastlaw16_shown [] (.one (.c .bool)) H k = v_hindcastlaw16_shown  H k := by kernel_rfl
theorem c_hindcastlaw16_shown  {H : Heap} {k : Bool → Heap → Prop} (h : v_hindcastlaw16_shown  H k) : CallT Pg f_hindcastlaw16_shown [] (.one (.c .bool)) H k :=
  call_of_E Pg_mixed Tryz.func7 (by kernel_rfl) (by kernel_rfl) (by kernel_rfl) (by kernel_rfl) ((e_hindcastlaw16_shown  H k).symm ▸ h)
/-- hindcast/hindcastlaw16.copied -/
def v_hindcastlaw16_copied (e_ : Int × Int × Int × Sl × Int × Int × Sl) (H : Heap) (k : Int × Int × Int × Sl × Int × Int × Sl → Heap → Prop) : Prop :=
    Nw #[.int .i64 e_.1, .int .i64 e_.2.1, .int .i64 e_.2.2.1, .slice e_.2.2.2.1.a e_.2.2.2.1.len e_.2.2.2.1.cap, .int .i64 e_.2.2.2.2.1, .int .i64 e_.2.2.2.2.2.1, .slice e_.2.2.2.2.2.2.a e_.2.2.2.2.2.2.len e_.2.2.2.2.2.2.cap] T_api_Env H fun b1 H1 =>
    Nw #[.int .i64 0, .int .i64 0, .int .i64 0, .slice none 0 0, .int .i64 0, .int .i64 0, .slice none 0 0] T_api_Env H1 fun b2 H2 =>
    Ld .sl ((adr b1).add 3) H2 fun (x1 : Sl) =>
    Lt (IntKind.wrap .i64 ((x1.len : Int) + 80)) fun t1 =>
    Mks T_api_Input 3 24 #[.int .i64 0, .int .i64 0, .int .i64 0] t1 t1 H2 fun l1 H3 =>
    Ld .sl ((adr b1).add 3) H3 fun (x2 : Sl) =>
    Cpy 3 l1 x2 H3 fun n1 H4 =>
    Ld .sl ((adr b1).add 3) H4 fun (x3 : Sl) =>
    LoopT (σ := Int) /- i -/ (fun next1 s1 H5 =>
      Br (decide (s1 < (l1.len : Int))) (
        IxA 3 l1 s1 fun a1 =>
        St (a1.add 0) (.int .i64 (-7)) H5 fun H6 =>
        St (a1.add 1) (.int .i64 0) H6 fun H7 =>
        St (a1.add 2) (.int .i64 0) H7 fun H8 =>
        Lt (IntKind.wrap .i64 (s1 + 1)) fun t2 =>
        next1 t2 H8) (
        Ld .sl (((adr b1).add 4).add 2) H5 fun (x4 : Sl) =>
        Lt (IntKind.wrap .i64 ((x4.len : Int) + 80)) fun t3 =>
        Mks T_api_Part 2 32 #[.int .i64 0, .slice none 0 0] t3 t3 H5 fun l2 H9 =>
        LoopT (σ := Int) /- i -/ (fun next2 s2 H10 =>
          Br (decide (s2 < (l2.len : Int))) (
            Jn (σ := Unit) /-  -/ (fun kk1 =>
              IxA 2 l2 s2 fun a2 =>
              St (a2.add 0) (.int .i64 (-7)) H10 fun H12 =>
              St (a2.add 1) (.slice none 0 0) H12 fun H13 =>
              Ld .sl (((adr b1).add 4).add 2) H13 fun (x5 : Sl) =>
              Jn (σ := Unit) /-  -/ (fun kk2 =>
                Br (decide (s2 < (x5.len : Int))) (
                  Ld .sl (((adr b1).add 4).add 2) H13 fun (x6 : Sl) =>
                  IxA 2 x6 s2 fun a3 =>
                  Ld .sl (a3.add 1) H13 fun (x7 : Sl) =>
                  Lt (IntKind.wrap .i64 ((x7.len : Int) + 80)) fun t4 =>
                  Mks T_int64 1 8 #[.int .i64 0] t4 t4 H13 fun l3 H15 =>
                  Ld .sl (((adr b1).add 4).add 2) H15 fun (x8 : Sl) =>
                  IxA 2 x8 s2 fun a4 =>
                  Ld .sl (a4.add 1) H15 fun (x9 : Sl) =>
                  Cpy 1 l3 x9 H15 fun n2 H16 =>
                  Ld .sl (((adr b1).add 4).add 2) H16 fun (x10 : Sl) =>
                  IxA 2 x10 s2 fun a5 =>
                  Ld .sl (a5.add 1) H16 fun (x11 : Sl) =>
                  LoopT (σ := Int) /- k -/ (fun next3 s3 H17 =>
                    Br (decide (s3 < (l3.len : Int))) (
                      IxA 1 l3 s3 fun a6 =>
                      St a6 (.int .i64 (-7)) H17 fun H18 =>
                      Lt (IntKind.wrap .i64 (s3 + 1)) fun t5 =>
                      next3 t5 H18) (
                      Ld .sl (((adr b1).add 4).add 2) H17 fun (x12 : Sl) =>
                      IxA 2 x12 s2 fun a7 =>
                      Ld (.int .i64) a7 H17 fun (x13 : Int) =>
                      Ld .sl (((adr b1).add 4).add 2) H17 fun (x14 : Sl) =>
                      IxA 2 x14 s2 fun a8 =>
                      Ld .sl (a8.add 1) H17 fun (x15 : Sl) =>
                      SlA 1 l3 0 (x15.len : Int) (l3.cap : Nat) fun l4 =>
                      IxA 2 l2 s2 fun a9 =>
                      St (a9.add 0) (.int .i64 x13) H17 fun H19 =>
                      St (a9.add 1) (.slice l4.a l4.len l4.cap) H19 fun H20 =>
                      kk2 () H20)) (x11.len : Int) H16) (
                  kk2 () H13)) fun j2 H14 =>
              kk1 () H14) fun j1 H11 =>
            Lt (IntKind.wrap .i64 (s2 + 1)) fun t6 =>
            next2 t6 H11) (
            Ld .sl ((adr b1).add 3) H10 fun (x16 : Sl) =>
            SlA 3 l1 0 (x16.len : Int) (l1.cap : Nat) fun l5 =>
            St ((adr b1).add 3) (.slice l5.a l5.len l5.cap) H10 fun H21 =>
            Ld .sl (((adr b1).add 4).add 2) H21 fun (x17 : Sl) =>
            SlA 2 l2 0 (x17.len : Int) (l2.cap : Nat) fun l6 =>
            St (((adr b1).add 4).add 2) (.slice l6.a l6.len l6.cap) H21 fun H22 =>
            LdC [(.int .i64), (.int .i64), (.int .i64), .sl, (.int .i64), (.int .i64), .sl] (adr b1) H22 fun (c1 : Int × Int × Int × Sl × Int × Int × Sl) =>
            St ((adr b2).add 0) (.int .i64 c1.1) H22 fun H23 =>
            St ((adr b2).add 1) (.int .i64 c1.2.1) H23 fun H24 =>
            St ((adr b2).add 2) (.int .i64 c1.2.2.1) H24 fun H25 =>
            St ((adr b2).add 3) (.slice c1.2.2.2.1.a c1.2.2.2.1.len c1.2.2.2.1.cap) H25 fun H26 =>
            St ((adr b2).add 4) (.int .i64 c1.2.2.2.2.1) H26 fun H27 =>
            St ((adr b2).add 5) (.int .i64 c1.2.2.2.2.2.1) H27 fun H28 =>
            St ((adr b2).add 6) (.slice c1.2.2.2.2.2.2.a c1.2.2.2.2.2.2.len c1.2.2.2.2.2.2.cap) H28 fun H29 =>
            LdC [(.int .i64), (.int .i64), (.int .i64), .sl, (.int .i64), (.int .i64), .sl] (adr b2) H29 fun (c2 : Int × Int × Int × Sl × Int × Int × Sl) =>
            k (c2.1, c2.2.1, c2.2.2.1, c2.2.2.2.1, c2.2.2.2.2.1, c2.2.2.2.2.2.1, c2.2.2.2.2.2.2) H29)) 0 H9)) (x3.len : Int) H4
def h_hindcastlaw16_copied : Hint := (.two .no (.two .no (.two .no (.two (.two .no (.one (.loop [(4, (.c (.int .i64)))] .no))) (.two .no (.two (.two .no (.one (.loop [(6, (.c (.int .i64)))] (.two .no (.two (.join [] (.one (.two .no (.two .no (.join [] (.two (.two .no (.two .no (.two (.two .no (.one (.loop [(8, (.c (.int .i64)))] .no))) .no))) .no)))))) .no))))) .no))))))
theorem e_hindcastlaw16_copied (e_ : Int × Int × Int × Sl × Int × Int × Sl) (H : Heap) (k : Int × Int × Int × Sl × Int × Int × Sl → Heap → Prop) : EFun Pg Tryz.f9 h_hindcastlaw16_copied [.agg #[.int .i64 e_.1, .int .i64 e_.2.1, .int .i64 e_.2.2.1, .slice e_.2.2.2.1.a e_.2.2.2.1.len e_.2.2.2.1.cap, .int .i64 e_.2.2.2.2.1, .int .i64 e_.2.2.2.2.2.1, .slice e_.2.2.2.2.2.2.a e_.2.2.2.2.2.2.len e_.2.2.2.2.2.2.cap]] (.one (.agg [(.int .i64), (.int .i64), (.int .i64), .sl, (.int .i64), (.int .i64), .sl])) H k = v_hindcastlaw16_copied e_ H k := by kernel_rfl
theorem c_hindcastlaw16_copied (e_ : Int × Int × Int × Sl × Int × Int × Sl) {H : Heap} {k : Int × Int × Int × Sl × Int × Int × Sl → Heap → Prop} (h : v_hindcastlaw16_copied e_ H k) : CallT Pg f_hindcastlaw16_copied [.agg #[.int .i64 e_.1, .int .i64 e_.2.1, .int .i64 e_.2.2.1, .slice e_.2.2.2.1.a e_.2.2.2.1.len e_.2.2.2.1.cap, .int .i64 e_.2.2.2.2.1, .int .i64 e_.2.2.2.2.2.1, .slice e_.2.2.2.2.2.2.a e_.2.2.2.2.2.2.len e_.2.2.2.2.2.2.cap]] (.one (.agg [(.int .i64), (.int .i64), (.int .i64), .sl, (.int .i64), (.int .i64), .sl])) H k :=
  call_of_E Pg_mixed Tryz.func9 (by kernel_rfl) (by kernel_rfl) (by kernel_rfl) (by kernel_rfl) ((e_hindcastlaw16_copied e_ H k).symm ▸ h)
/-- hindcast/hindcastlaw16.one -/
def v_hindcastlaw16_one (l_ : Sl) (H : Heap) (k : Sl × Sl → Heap → Prop) : Prop :=
    Nw #[.slice none 0 0, .slice none 0 0] T_api_Program H fun b1 H1 =>
    Nw #[.int .i64 1] T_int H1 fun b2 H2 =>
    Nw #[.slice none 0 0, .slice none 0 0, .slice none 0 0, .slice (some (adr b2)) 1 1, .string (⟨#[115]⟩ : ByteArray), .int .i64 0, .int .i64 0, .slice l_.a l_.len l_.cap] T_api_System H2 fun b3 H3 =>
    St ((adr b1).add 0) (.slice (some (adr b3)) 1 1) H3 fun H4 =>
    St ((adr b1).add 1) (.slice none 0 0) H4 fun H5 =>
    LdC [.sl, .sl] (adr b1) H5 fun (c1 : Sl × Sl) =>
    k (c1.1, c1.2) H5
def h_hindcastlaw16_one : Hint := .no
theorem e_hindcastlaw16_one (l_ : Sl) (H : Heap) (k : Sl × Sl → Heap → Prop) : EFun Pg Tryz.f20 h_hindcastlaw16_one [.slice l_.a l_.len l_.cap] (.one (.agg [.sl, .sl])) H k = v_hindcastlaw16_one l_ H k := by kernel_rfl
theorem c_hindcastlaw16_one (l_ : Sl) {H : Heap} {k : Sl × Sl → Heap → Prop} (h : v_hindcastlaw16_one l_ H k) : CallT Pg f_hindcastlaw16_one [.slice l_.a l_.len l_.cap] (.one (.agg [.sl, .sl])) H k :=
  call_of_E Pg_mixed Tryz.func20 (by kernel_rfl) (by kernel_rfl) (by kernel_rfl) (by kernel_rfl) ((e_hindcastlaw16_one l_ H k).symm ▸ h)
/-- hindcast/hindcastlaw16.env -/
def v_hindcastlaw16_env  (H : Heap) (k : Int × Int × Int × Sl × Int × Int × Sl → Heap → Prop) : Prop :=
    Nw #[.int .i64 0, .int .i64 0, .int .i64 0, .slice none 0 0, .int .i64 0, .int .i64 0, .slice none 0 0] T_api_Env H fun b1 H1 =>
    Nw #[.int .i64 7] T_int64 H1 fun b2 H2 =>
    Nw #[.int .i64 1, .slice (some (adr b2)) 1 1] T_api_Part H2 fun b3 H3 =>
    St ((adr b1).add 0) (.int .i64 3) H3 fun H4 =>
    St ((adr b1).add 1) (.int .i64 0) H4 fun H5 =>
    St ((adr b1).add 2) (.int .i64 0) H5 fun H6 =>
    St ((adr b1).add 3) (.slice none 0 0) H6 fun H7 =>
    St ((adr b1).add 4) (.int .i64 5) H7 fun H8 =>
    St ((adr b1).add 5) (.int .i64 1) H8 fun H9 =>
    St ((adr b1).add 6) (.slice (some (adr b3)) 1 1) H9 fun H10 =>
    LdC [(.int .i64), (.int .i64), (.int .i64), .sl, (.int .i64), (.int .i64), .sl] (adr b1) H10 fun (c1 : Int × Int × Int × Sl × Int × Int × Sl) =>
    k (c1.1, c1.2.1, c1.2.2.1, c1.2.2.2.1, c1.2.2.2.2.1, c1.2.2.2.2.2.1, c1.2.2.2.2.2.2) H10
def h_hindcastlaw16_env : Hint := .no
theorem e_hindcastlaw16_env  (H : Heap) (k : Int × Int × Int × Sl × Int × Int × Sl → Heap → Prop) : EFun Pg Tryz.f21 h_hindcastlaw16_env [] (.one (.agg [(.int .i64), (.int .i64), (.int .i64), .sl, (.int .i64), (.int .i64), .sl])) H k = v_hindcastlaw16_env  H k := by kernel_rfl
theorem c_hindcastlaw16_env  {H : Heap} {k : Int × Int × Int × Sl × Int × Int × Sl → Heap → Prop} (h : v_hindcastlaw16_env  H k) : CallT Pg f_hindcastlaw16_env [] (.one (.agg [(.int .i64), (.int .i64), (.int .i64), .sl, (.int .i64), (.int .i64), .sl])) H k :=
  call_of_E Pg_mixed Tryz.func21 (by kernel_rfl) (by kernel_rfl) (by kernel_rfl) (by kernel_rfl) ((e_hindcastlaw16_env  H k).symm ▸ h)
def v_hindcastlaw16_MachineEnds_a0 (b3 : Nat) (H14 : Heap) (system_ : Int) (b1 : Nat) (k : Bool → Heap → Prop) (r1 : Bool) (b2 : Nat) : Prop :=
    Jn (σ := Bool) /-  -/ (fun kk2 =>
      Ld (.int .i64) ((adr b3).add 4) H14 fun (x1 : Int) =>
      Br (decide (system_ < 0)) (
        kk2 (!((x1 == 190) == true)) H14) (
        Ld .sl (adr b1) H14 fun (x2 : Sl) =>
        kk2 (!((x1 == 190) == (decide (system_ ≥ (x2.len : Int))))) H14)) fun j2 H15 =>
    Br j2 (
      k false H15) (
      Jn (σ := Bool) /-  -/ (fun kk3 =>
        Br (!r1) (
          kk3 true H15) (
          Ld (.int .i64) ((adr b3).add 3) H15 fun (x3 : Int) =>
          Br (decide (x3 < 0)) (
            kk3 true H15) (
            Ld (.int .i64) ((adr b3).add 3) H15 fun (x4 : Int) =>
            Br (decide (x4 > 2001)) (
              kk3 true H15) (
              Ld (.int .i64) ((adr b3).add 4) H15 fun (x5 : Int) =>
              Ld (.int .i64) ((adr b3).add 3) H15 fun (x6 : Int) =>
              Br (!((x5 == 120) == (x6 == 2001))) (
                kk3 true H15) (
                Ld .sl ((adr b3).add 1) H15 fun (x7 : Sl) =>
                Br (decide ((x7.len : Int) > 16)) (
                  kk3 true H15) (
                  Ld .sl ((adr b3).add 2) H15 fun (x8 : Sl) =>
                  kk3 (decide ((x8.len : Int) > 16)) H15)))))) fun j3 H16 =>
      Br j3 (
        k false H16) (
        Ld (.int .i64) ((adr b3).add 4) H16 fun (x9 : Int) =>
        Br (x9 != 0) (
          Jn (σ := Bool) /-  -/ (fun kk4 =>
            Ld .sl (adr b3) H16 fun (x10 : Sl) =>
            Br ((x10.len : Int) == 0) (
              Ld .sl ((adr b3).add 1) H16 fun (x11 : Sl) =>
              Br ((x11.len : Int) == 0) (
                Ld .sl ((adr b3).add 2) H16 fun (x12 : Sl) =>
                kk4 ((x12.len : Int) == 0) H16) (
                kk4 false H16)) (
              kk4 false H16)) fun j4 H17 =>
          k j4 H17) (
          LoopT (σ := Int) /- i -/ (fun next1 s1 H18 =>
            Ld .sl (adr b3) H18 fun (x13 : Sl) =>
            Br (decide (s1 < (x13.len : Int))) (
              Ld .sl (adr b3) H18 fun (x14 : Sl) =>
              IxA 2 x14 s1 fun a1 =>
              LdC [(.int .i64), .sl] a1 H18 fun (c5 : Int × Sl) =>
              Nw #[.int .i64 0, .slice none 0 0] T_api_Part H18 fun b4 H19 =>
              St ((adr b4).add 0) (.int .i64 c5.1) H19 fun H20 =>
              St ((adr b4).add 1) (.slice c5.2.a c5.2.len c5.2.cap) H20 fun H21 =>
              Jn (σ := Bool) /-  -/ (fun kk5 =>
                Br (decide (s1 > 0)) (
                  Ld (.int .i64) (adr b4) H21 fun (x15 : Int) =>
                  Ld .sl (adr b3) H21 fun (x16 : Sl) =>
                  Lt (IntKind.wrap .i64 (s1 - 1)) fun t1 =>
                  IxA 2 x16 t1 fun a2 =>
                  Ld (.int .i64) a2 H21 fun (x17 : Int) =>
                  kk5 (decide (x15 ≤ x17)) H21) (
                  kk5 false H21)) fun j5 H22 =>
              Br j5 (
                k false H22) (
                LoopT (σ := Bool × Int) /- written, k -/ (fun next2 s2 H23 =>
                  Ld .sl (adr b1) H23 fun (x18 : Sl) =>
                  IxA 8 x18 system_ fun a3 =>
                  Ld .sl (a3.add 3) H23 fun (x19 : Sl) =>
                  Br (decide (s2.2 < (x19.len : Int))) (
                    Jn (σ := Bool) /- written -/ (fun kk6 =>
                      Br s2.1 (
                        kk6 true H23) (
                        Ld .sl (adr b1) H23 fun (x20 : Sl) =>
                        IxA 8 x20 system_ fun a4 =>
                        Ld .sl (a4.add 3) H23 fun (x21 : Sl) =>
                        IxA 1 x21 s2.2 fun a5 =>
                        Ld (.int .i64) a5 H23 fun (x22 : Int) =>
                        Ld (.int .i64) (adr b4) H23 fun (x23 : Int) =>
                        kk6 (x22 == x23) H23)) fun j6 H24 =>
                    Lt (IntKind.wrap .i64 (s2.2 + 1)) fun t2 =>
                    next2 (j6, t2) H24) (
                    Ld .sl (((adr b2).add 4).add 2) H23 fun (x24 : Sl) =>
                    Lt (IntKind.wrap .i64 ((x24.len : Int) - 1)) fun t3 =>
                    LoopT (σ := Int × Int) /- at, k -/ (fun next3 s3 H25 =>
                      Br (decide (s3.2 ≥ 0)) (
                        Jn (σ := Int) /- at -/ (fun kk7 =>
                          Ld .sl (((adr b2).add 4).add 2) H25 fun (x25 : Sl) =>
                          IxA 2 x25 s3.2 fun a6 =>
                          Ld (.int .i64) a6 H25 fun (x26 : Int) =>
                          Ld (.int .i64) (adr b4) H25 fun (x27 : Int) =>
                          Jn (σ := Int) /- at -/ (fun kk8 =>
                            Br (x26 == x27) (
                              kk8 s3.2 H25) (
                              kk8 s3.1 H25)) fun j8 H27 =>
                          kk7 j8 H27) fun j7 H26 =>
                        Lt (IntKind.wrap .i64 (s3.2 - 1)) fun t4 =>
                        next3 (j7, t4) H26) (
                        Jn (σ := Bool) /-  -/ (fun kk9 =>
                          Br (!s2.1) (
                            kk9 true H25) (
                            Br (decide (s3.1 < 0)) (
                              kk9 true H25) (
                              Ld .sl (((adr b2).add 4).add 2) H25 fun (x28 : Sl) =>
                              IxA 2 x28 s3.1 fun a7 =>
                              Ld .sl (a7.add 1) H25 fun (x29 : Sl) =>
                              Ld .sl ((adr b4).add 1) H25 fun (x30 : Sl) =>
                              kk9 ((x29.len : Int) != (x30.len : Int)) H25))) fun j9 H28 =>
                        Br j9 (
                          k false H28) (
                          Lt (IntKind.wrap .i64 (s1 + 1)) fun t5 =>
                          next1 t5 H28))) (-1, t3) H23)) (false, 0) H22)) (
              LoopT (σ := Int) /- i -/ (fun next4 s4 H29 =>
                Ld .sl ((adr b3).add 2) H29 fun (x31 : Sl) =>
                Br (decide (s4 < (x31.len : Int))) (
                  Jn (σ := Bool) /-  -/ (fun kk10 =>
                    Ld .sl ((adr b3).add 2) H29 fun (x32 : Sl) =>
                    IxA 5 x32 s4 fun a8 =>
                    LdC [(.int .i64), (.int .i64)] (a8.add 1) H29 fun (c6 : Int × Int) =>
                    LdC [(.int .i64), (.int .i64)] ((adr b2).add 4) H29 fun (c7 : Int × Int) =>
                    Br (!(eqL [(.int .i64), (.int .i64)] (c6.1, c6.2) (c7.1, c7.2))) (
                      kk10 true H29) (
                      Ld .sl ((adr b3).add 2) H29 fun (x33 : Sl) =>
                      IxA 5 x33 s4 fun a9 =>
                      Ld (.int .i64) a9 H29 fun (x34 : Int) =>
                      kk10 (x34 != system_) H29)) fun j10 H30 =>
                  Br j10 (
                    k false H30) (
                    Lt (IntKind.wrap .i64 (s4 + 1)) fun t6 =>
                    next4 t6 H30)) (
                  k true H29)) 0 H18)) 0 H16)))
/-- hindcast/hindcastlaw16.MachineEnds -/
def v_hindcastlaw16_MachineEnds (p_ : Sl × Sl) (system_ : Int) (e_ : Int × Int × Int × Sl × Int × Int × Sl) (H : Heap) (k : Bool → Heap → Prop) : Prop :=
    Nw #[.slice p_.1.a p_.1.len p_.1.cap, .slice p_.2.a p_.2.len p_.2.cap] T_api_Program H fun b1 H1 =>
    Nw #[.int .i64 e_.1, .int .i64 e_.2.1, .int .i64 e_.2.2.1, .slice e_.2.2.2.1.a e_.2.2.2.1.len e_.2.2.2.1.cap, .int .i64 e_.2.2.2.2.1, .int .i64 e_.2.2.2.2.2.1, .slice e_.2.2.2.2.2.2.a e_.2.2.2.2.2.2.len e_.2.2.2.2.2.2.cap] T_api_Env H1 fun b2 H2 =>
    CallT Pg f_hindcastlaw16_shown [] (.one (.c .bool)) H2 fun (r1 : Bool) H3 =>
    LdC [.sl, .sl] (adr b1) H3 fun (c1 : Sl × Sl) =>
    LdC [(.int .i64), (.int .i64), (.int .i64), .sl, (.int .i64), (.int .i64), .sl] (adr b2) H3 fun (c2 : Int × Int × Int × Sl × Int × Int × Sl) =>
    CallT Pg f_hindcastlaw16_copied [.agg #[.int .i64 c2.1, .int .i64 c2.2.1, .int .i64 c2.2.2.1, .slice c2.2.2.2.1.a c2.2.2.2.1.len c2.2.2.2.1.cap, .int .i64 c2.2.2.2.2.1, .int .i64 c2.2.2.2.2.2.1, .slice c2.2.2.2.2.2.2.a c2.2.2.2.2.2.2.len c2.2.2.2.2.2.2.cap]] (.one (.agg [(.int .i64), (.int .i64), (.int .i64), .sl, (.int .i64), (.int .i64), .sl])) H3 fun (r2 : Int × Int × Int × Sl × Int × Int × Sl) H4 =>
    Stab [((adr b1).add 0, .slice c1.1.a c1.1.len c1.1.cap), ((adr b1).add 1, .slice c1.2.a c1.2.len c1.2.cap)] H4 <|
    CallT Pg f_hindcastref16_Long [.agg #[.slice c1.1.a c1.1.len c1.1.cap, .slice c1.2.a c1.2.len c1.2.cap], .int .i64 system_, .agg #[.int .i64 r2.1, .int .i64 r2.2.1, .int .i64 r2.2.2.1, .slice r2.2.2.2.1.a r2.2.2.2.1.len r2.2.2.2.1.cap, .int .i64 r2.2.2.2.2.1, .int .i64 r2.2.2.2.2.2.1, .slice r2.2.2.2.2.2.2.a r2.2.2.2.2.2.2.len r2.2.2.2.2.2.2.cap], .int .i64 300000] (.one (.c .bool)) H4 fun (r3 : Bool) H5 =>
    Stab [((adr b2).add 0, .int .i64 c2.1), ((adr b2).add 1, .int .i64 c2.2.1), ((adr b2).add 2, .int .i64 c2.2.2.1), ((adr b2).add 3, .slice c2.2.2.2.1.a c2.2.2.2.1.len c2.2.2.2.1.cap), ((adr b2).add 4, .int .i64 c2.2.2.2.2.1), ((adr b2).add 5, .int .i64 c2.2.2.2.2.2.1), ((adr b2).add 6, .slice c2.2.2.2.2.2.2.a c2.2.2.2.2.2.2.len c2.2.2.2.2.2.2.cap)] H5 <|
    Jn (σ := Bool) /-  -/ (fun kk1 =>
      Br (!r1) (
        kk1 true H5) (
        kk1 r3 H5)) fun j1 H6 =>
    Br j1 (
      k r1 H6) (
      LdC [.sl, .sl] (adr b1) H6 fun (c3 : Sl × Sl) =>
      LdC [(.int .i64), (.int .i64), (.int .i64), .sl, (.int .i64), (.int .i64), .sl] (adr b2) H6 fun (c4 : Int × Int × Int × Sl × Int × Int × Sl) =>
      (
        CallT Pg f_hindcastlaw16_copied [.agg #[.int .i64 c4.1, .int .i64 c4.2.1, .int .i64 c4.2.2.1, .slice c4.2.2.2.1.a c4.2.2.2.1.len c4.2.2.2.1.cap, .int .i64 c4.2.2.2.2.1, .int .i64 c4.2.2.2.2.2.1, .slice c4.2.2.2.2.2.2.a c4.2.2.2.2.2.2.len c4.2.2.2.2.2.2.cap]] (.one (.agg [(.int .i64), (.int .i64), (.int .i64), .sl, (.int .i64), (.int .i64), .sl])) H6 fun (r4 : Int × Int × Int × Sl × Int × Int × Sl) H7 =>
        Stab [((adr b1).add 0, .slice c3.1.a c3.1.len c3.1.cap), ((adr b1).add 1, .slice c3.2.a c3.2.len c3.2.cap)] H7 <|
        (
          CallT Pg f_machine_Run [.agg #[.slice c3.1.a c3.1.len c3.1.cap, .slice c3.2.a c3.2.len c3.2.cap], .int .i64 system_, .agg #[.int .i64 r4.1, .int .i64 r4.2.1, .int .i64 r4.2.2.1, .slice r4.2.2.2.1.a r4.2.2.2.1.len r4.2.2.2.1.cap, .int .i64 r4.2.2.2.2.1, .int .i64 r4.2.2.2.2.2.1, .slice r4.2.2.2.2.2.2.a r4.2.2.2.2.2.2.len r4.2.2.2.2.2.2.cap]] (.one (.agg [.sl, .sl, .sl, (.int .i64), (.int .i64)])) H7 fun (r5 : Sl × Sl × Sl × Int × Int) H8 =>
          Stab [((adr b2).add 0, .int .i64 c4.1), ((adr b2).add 1, .int .i64 c4.2.1), ((adr b2).add 2, .int .i64 c4.2.2.1), ((adr b2).add 3, .slice c4.2.2.2.1.a c4.2.2.2.1.len c4.2.2.2.1.cap), ((adr b2).add 4, .int .i64 c4.2.2.2.2.1), ((adr b2).add 5, .int .i64 c4.2.2.2.2.2.1), ((adr b2).add 6, .slice c4.2.2.2.2.2.2.a c4.2.2.2.2.2.2.len c4.2.2.2.2.2.2.cap)] H8 <|
          Nw #[.slice none 0 0, .slice none 0 0, .slice none 0 0, .int .i64 0, .int .i64 0] T_api_Outcome H8 fun b3 H9 =>
          Stab [((adr b2).add 0, .int .i64 c4.1), ((adr b2).add 1, .int .i64 c4.2.1), ((adr b2).add 2, .int .i64 c4.2.2.1), ((adr b2).add 3, .slice c4.2.2.2.1.a c4.2.2.2.1.len c4.2.2.2.1.cap), ((adr b2).add 4, .int .i64 c4.2.2.2.2.1), ((adr b2).add 5, .int .i64 c4.2.2.2.2.2.1), ((adr b2).add 6, .slice c4.2.2.2.2.2.2.a c4.2.2.2.2.2.2.len c4.2.2.2.2.2.2.cap), ((adr b1).add 0, .slice c3.1.a c3.1.len c3.1.cap), ((adr b1).add 1, .slice c3.2.a c3.2.len c3.2.cap)] H9 <|
          St ((adr b3).add 0) (.slice r5.1.a r5.1.len r5.1.cap) H9 fun H10 =>
          St ((adr b3).add 1) (.slice r5.2.1.a r5.2.1.len r5.2.1.cap) H10 fun H11 =>
          St ((adr b3).add 2) (.slice r5.2.2.1.a r5.2.2.1.len r5.2.2.1.cap) H11 fun H12 =>
          St ((adr b3).add 3) (.int .i64 r5.2.2.2.1) H12 fun H13 =>
          St ((adr b3).add 4) (.int .i64 r5.2.2.2.2) H13 fun H14 =>
          v_hindcastlaw16_MachineEnds_a0 b3 H14 system_ b1 k r1 b2) ∧ (
          Nw #[.slice none 0 0, .slice none 0 0, .slice none 0 0, .int .i64 0, .int .i64 0] T_api_Outcome H7 fun b5 H31 =>
          Stab [((adr b2).add 0, .int .i64 c4.1), ((adr b2).add 1, .int .i64 c4.2.1), ((adr b2).add 2, .int .i64 c4.2.2.1), ((adr b2).add 3, .slice c4.2.2.2.1.a c4.2.2.2.1.len c4.2.2.2.1.cap), ((adr b2).add 4, .int .i64 c4.2.2.2.2.1), ((adr b2).add 5, .int .i64 c4.2.2.2.2.2.1), ((adr b2).add 6, .slice c4.2.2.2.2.2.2.a c4.2.2.2.2.2.2.len c4.2.2.2.2.2.2.cap), ((adr b1).add 0, .slice c3.1.a c3.1.len c3.1.cap), ((adr b1).add 1, .slice c3.2.a c3.2.len c3.2.cap)] H31 <|
          CallT Pg f_machine_Run [.agg #[.slice c3.1.a c3.1.len c3.1.cap, .slice c3.2.a c3.2.len c3.2.cap], .int .i64 system_, .agg #[.int .i64 r4.1, .int .i64 r4.2.1, .int .i64 r4.2.2.1, .slice r4.2.2.2.1.a r4.2.2.2.1.len r4.2.2.2.1.cap, .int .i64 r4.2.2.2.2.1, .int .i64 r4.2.2.2.2.2.1, .slice r4.2.2.2.2.2.2.a r4.2.2.2.2.2.2.len r4.2.2.2.2.2.2.cap]] (.one (.agg [.sl, .sl, .sl, (.int .i64), (.int .i64)])) H31 fun (r6 : Sl × Sl × Sl × Int × Int) H32 =>
          Stab [((adr b2).add 0, .int .i64 c4.1), ((adr b2).add 1, .int .i64 c4.2.1), ((adr b2).add 2, .int .i64 c4.2.2.1), ((adr b2).add 3, .slice c4.2.2.2.1.a c4.2.2.2.1.len c4.2.2.2.1.cap), ((adr b2).add 4, .int .i64 c4.2.2.2.2.1), ((adr b2).add 5, .int .i64 c4.2.2.2.2.2.1), ((adr b2).add 6, .slice c4.2.2.2.2.2.2.a c4.2.2.2.2.2.2.len c4.2.2.2.2.2.2.cap)] H32 <|
          St ((adr b5).add 0) (.slice r6.1.a r6.1.len r6.1.cap) H32 fun H33 =>
          St ((adr b5).add 1) (.slice r6.2.1.a r6.2.1.len r6.2.1.cap) H33 fun H34 =>
          St ((adr b5).add 2) (.slice r6.2.2.1.a r6.2.2.1.len r6.2.2.1.cap) H34 fun H35 =>
          St ((adr b5).add 3) (.int .i64 r6.2.2.2.1) H35 fun H36 =>
          St ((adr b5).add 4) (.int .i64 r6.2.2.2.2) H36 fun H37 =>
          v_hindcastlaw16_MachineEnds_a0 b5 H37 system_ b1 k r1 b2) ∧ True) ∧ (
        Nw #[.slice none 0 0, .slice none 0 0, .slice none 0 0, .int .i64 0, .int .i64 0] T_api_Outcome H6 fun b7 H54 =>
        Stab [((adr b2).add 0, .int .i64 c4.1), ((adr b2).add 1, .int .i64 c4.2.1), ((adr b2).add 2, .int .i64 c4.2.2.1), ((adr b2).add 3, .slice c4.2.2.2.1.a c4.2.2.2.1.len c4.2.2.2.1.cap), ((adr b2).add 4, .int .i64 c4.2.2.2.2.1), ((adr b2).add 5, .int .i64 c4.2.2.2.2.2.1), ((adr b2).add 6, .slice c4.2.2.2.2.2.2.a c4.2.2.2.2.2.2.len c4.2.2.2.2.2.2.cap), ((adr b1).add 0, .slice c3.1.a c3.1.len c3.1.cap), ((adr b1).add 1, .slice c3.2.a c3.2.len c3.2.cap)] H54 <|
        CallT Pg f_hindcastlaw16_copied [.agg #[.int .i64 c4.1, .int .i64 c4.2.1, .int .i64 c4.2.2.1, .slice c4.2.2.2.1.a c4.2.2.2.1.len c4.2.2.2.1.cap, .int .i64 c4.2.2.2.2.1, .int .i64 c4.2.2.2.2.2.1, .slice c4.2.2.2.2.2.2.a c4.2.2.2.2.2.2.len c4.2.2.2.2.2.2.cap]] (.one (.agg [(.int .i64), (.int .i64), (.int .i64), .sl, (.int .i64), (.int .i64), .sl])) H54 fun (r7 : Int × Int × Int × Sl × Int × Int × Sl) H55 =>
        Stab [((adr b1).add 0, .slice c3.1.a c3.1.len c3.1.cap), ((adr b1).add 1, .slice c3.2.a c3.2.len c3.2.cap)] H55 <|
        CallT Pg f_machine_Run [.agg #[.slice c3.1.a c3.1.len c3.1.cap, .slice c3.2.a c3.2.len c3.2.cap], .int .i64 system_, .agg #[.int .i64 r7.1, .int .i64 r7.2.1, .int .i64 r7.2.2.1, .slice r7.2.2.2.1.a r7.2.2.2.1.len r7.2.2.2.1.cap, .int .i64 r7.2.2.2.2.1, .int .i64 r7.2.2.2.2.2.1, .slice r7.2.2.2.2.2.2.a r7.2.2.2.2.2.2.len r7.2.2.2.2.2.2.cap]] (.one (.agg [.sl, .sl, .sl, (.int .i64), (.int .i64)])) H55 fun (r8 : Sl × Sl × Sl × Int × Int) H56 =>
        Stab [((adr b2).add 0, .int .i64 c4.1), ((adr b2).add 1, .int .i64 c4.2.1), ((adr b2).add 2, .int .i64 c4.2.2.1), ((adr b2).add 3, .slice c4.2.2.2.1.a c4.2.2.2.1.len c4.2.2.2.1.cap), ((adr b2).add 4, .int .i64 c4.2.2.2.2.1), ((adr b2).add 5, .int .i64 c4.2.2.2.2.2.1), ((adr b2).add 6, .slice c4.2.2.2.2.2.2.a c4.2.2.2.2.2.2.len c4.2.2.2.2.2.2.cap)] H56 <|
        St ((adr b7).add 0) (.slice r8.1.a r8.1.len r8.1.cap) H56 fun H57 =>
        St ((adr b7).add 1) (.slice r8.2.1.a r8.2.1.len r8.2.1.cap) H57 fun H58 =>
        St ((adr b7).add 2) (.slice r8.2.2.1.a r8.2.2.1.len r8.2.2.1.cap) H58 fun H59 =>
        St ((adr b7).add 3) (.int .i64 r8.2.2.2.1) H59 fun H60 =>
        St ((adr b7).add 4) (.int .i64 r8.2.2.2.2) H60 fun H61 =>
        v_hindcastlaw16_MachineEnds_a0 b7 H61 system_ b1 k r1 b2) ∧ True)
def h_hindcastlaw16_MachineEnds : Hint := (.two .no (.two .no (.two .no (.two (.two (.join [(27, (.c .bool))] .no) .no) (.two .no (.two (.two (.join [(46, (.c .bool))] .no) .no) (.two (.two (.join [(79, (.c .bool))] .no) .no) (.two (.two .no (.two (.two (.join [(6, (.c .bool))] .no) .no) .no)) (.two (.two .no (.one (.loop [(10, (.c (.int .i64)))] (.two .no (.two (.one (.two .no (.two (.two (.join [(124, (.c .bool))] .no) .no) (.two .no (.two (.two .no (.one (.loop [(12, (.c .bool)), (13, (.c (.int .i64)))] (.two .no (.two (.one (.join [(12, (.c .bool))] .no)) .no))))) (.two .no (.two (.two .no (.one (.loop [(14, (.c (.int .i64))), (15, (.c (.int .i64)))] (.two .no (.two (.join [(14, (.c (.int .i64)))] (.one (.two .no (.join [(14, (.c (.int .i64)))] .no)))) .no))))) (.two (.join [(190, (.c .bool))] .no) .no)))))))) .no))))) (.two (.two .no (.one (.loop [(16, (.c (.int .i64)))] (.two .no (.two (.one (.two (.join [(217, (.c .bool))] .no) .no)) .no))))) .no))))))))))
theorem e_hindcastlaw16_MachineEnds (p_ : Sl × Sl) (system_ : Int) (e_ : Int × Int × Int × Sl × Int × Int × Sl) (H : Heap) (k : Bool → Heap → Prop) : EFun Pg Tryz.f4 h_hindcastlaw16_MachineEnds [.agg #[.slice p_.1.a p_.1.len p_.1.cap, .slice p_.2.a p_.2.len p_.2.cap], .int .i64 system_, .agg #[.int .i64 e_.1, .int .i64 e_.2.1, .int .i64 e_.2.2.1, .slice e_.2.2.2.1.a e_.2.2.2.1.len e_.2.2.2.1.cap, .int .i64 e_.2.2.2.2.1, .int .i64 e_.2.2.2.2.2.1, .slice e_.2.2.2.2.2.2.a e_.2.2.2.2.2.2.len e_.2.2.2.2.2.2.cap]] (.one (.c .bool)) H k = v_hindcastlaw16_MachineEnds p_ system_ e_ H k := by kernel_rfl
theorem c_hindcastlaw16_MachineEnds (p_ : Sl × Sl) (system_ : Int) (e_ : Int × Int × Int × Sl × Int × Int × Sl) {H : Heap} {k : Bool → Heap → Prop} (h : v_hindcastlaw16_MachineEnds p_ system_ e_ H k) : CallT Pg f_hindcastlaw16_MachineEnds [.agg #[.slice p_.1.a p_.1.len p_.1.cap, .slice p_.2.a p_.2.len p_.2.cap], .int .i64 system_, .agg #[.int .i64 e_.1, .int .i64 e_.2.1, .int .i64 e_.2.2.1, .slice e_.2.2.2.1.a e_.2.2.2.1.len e_.2.2.2.1.cap, .int .i64 e_.2.2.2.2.1, .int .i64 e_.2.2.2.2.2.1, .slice e_.2.2.2.2.2.2.a e_.2.2.2.2.2.2.len e_.2.2.2.2.2.2.cap]] (.one (.c .bool)) H k :=
  call_of_E Pg_mixed Tryz.func4 (by kernel_rfl) (by kernel_rfl) (by kernel_rfl) (by kernel_rfl) ((e_hindcastlaw16_MachineEnds p_ system_ e_ H k).symm ▸ h)
end Go.Proofs.YtfpmgpblhhcpgaaGreat
namespace Go.Proofs.YtfpmgpblhhcpgaaGreat
set_option linter.unusedVariables false
set_option linter.unusedSimpArgs false
open Go.RowKit Go.Shelf

attribute [local go_sem] Oper.semAt_some

abbrev InX := Int × Int × Int
abbrev inAgg (x : InX) : Value := .agg #[.int .i64 x.1, .int .i64 x.2.1, .int .i64 x.2.2]
/-- What has come when k rounds are over: from the last. -/
def elX (zs : List InX) (j : Nat) : InX := zs[j]?.getD (0, 0, 0)
def backTo (zs : List InX) (k : Nat) : List (Int × InX) := (List.range k).map fun (j : Nat) => ((zs.length : Int) - 1 - j, elX zs (zs.length - 1 - j))
theorem backTo_succ (zs : List InX) (k : Nat) : backTo zs (k + 1) = backTo zs k ++ [((zs.length : Int) - 1 - k, elX zs (zs.length - 1 - k))] := by simp [backTo, List.range_succ]
theorem backTo_length (zs : List InX) (k : Nat) : (backTo zs k).length = k := by simp [backTo]

set_option maxRecDepth 100000 in
set_option maxHeartbeats 2000000 in
theorem back1_in (F : Fence) (n : Nat) (h8 : F.fn 191) (hro : F.round = none) (hn : 1 ≤ n) (l Bs n₀ b off cap : Nat) (zs : List InX) (hreach : zs.length * 24 ≤ 140737488351232) (hb : b < n₀) (hBn : Bs < n₀) (J Jx : List (Int × InX) → World → Prop)
    (hY : ∀ pre x W, J pre W → pre.length < zs.length → YieldAt F (n - 1) Tryz.prog l #[.int .i64 x.1, inAgg x.2] W fun e W' =>
      (e = .returned (.bool true) ∧ J (pre ++ [x]) W' ∧ Below n₀ W W') ∨ (e = .returned (.bool false) ∧ Jx (pre ++ [x]) W'))
    (W : World) (hBs : W.cell? ⟨Bs, 0, none⟩ = some (.slice (some ⟨b, off, none⟩) zs.length cap))
    (hc : ∀ j, j < zs.length → W.cell? ⟨b, off + j * 3, none⟩ = some (.int .i64 (elX zs j).1) ∧ W.cell? ⟨b, off + j * 3 + 1, none⟩ = some (.int .i64 (elX zs j).2.1) ∧ W.cell? ⟨b, off + j * 3 + 2, none⟩ = some (.int .i64 (elX zs j).2.2)) (h0 : J [] W) :
    CallsIn F n Tryz.prog 191 #[.func (.yield l) #[] #[], .pointer (some ⟨Bs, 0, none⟩)] W fun e W' => (∃ v, e = .returned v) ∧
      ((∃ ys, ys = backTo zs zs.length ∧ J ys W') ∨ (∃ pre, (∃ k, k ≤ zs.length ∧ pre = backTo zs k) ∧ Jx pre W')) := by
  refine callsIn_of_wp Tryz.func191 rfl h8 ?_ hro
  simp only [Tryz.ntmps191, List.size_toArray, List.length_cons, List.length_nil, Nat.reduceAdd, Nat.reduceSub, Array.replicate_succ, Array.replicate_zero, List.push_toArray, List.append_toArray, List.nil_append, List.cons_append]
  gi_wp2
  gi_loopw [3] (fun i wr => ∃ k : Nat, k ≤ zs.length ∧ i = .int .i64 ((zs.length : Int) - 1 - k) ∧ J (backTo zs k) wr ∧ Below n₀ W wr)
    (fun i _ => (intOf i + 1).toNat)
  case atStart => exact ⟨0, Nat.zero_le _, by simp, h0, Below.refl _ _⟩
  case round =>
    obtain ⟨k, hk, rfl, hJs, hnx⟩ := hrel
    by_cases hlt : k < zs.length
    · obtain ⟨fn, tmps, assign, body, hy, hR⟩ := hY _ ((zs.length : Int) - 1 - k, elX zs (zs.length - 1 - k)) wr hJs (by rw [backTo_length]; exact hlt)
      obtain ⟨c0, c1, c2⟩ := hc (zs.length - 1 - k) (by omega)
      have d0 := (hnx.cell (p := ⟨b, off + (zs.length - 1 - k) * 3, none⟩) hb).trans c0
      have d1 := (hnx.cell (p := ⟨b, off + (zs.length - 1 - k) * 3 + 1, none⟩) hb).trans c1
      have d2 := (hnx.cell (p := ⟨b, off + (zs.length - 1 - k) * 3 + 2, none⟩) hb).trans c2
      dsimp only [inAgg] at hy
      have hbs := (hnx.cell (p := ⟨Bs, 0, none⟩) hBn).trans hBs
      have hge : (0 : Int) ≤ (zs.length : Int) - 1 - k := by omega
      gi_wp2
      refine hR.mono ?_
      rintro e W3 (⟨rfl, hJ3, hk3⟩ | ⟨rfl, hJx3⟩)
      · gi_wp2
        go_roundw
        case rel => exact ⟨k + 1, by omega, by simp; omega, by rw [backTo_succ]; exact hJ3, hnx.trans hk3⟩
        case measure => simp [intOf]; omega
      · gi_wp2
        refine bodyPost_ret (results_none rfl _ _ _) rfl ?_
        exact ⟨⟨_, rfl⟩, .inr ⟨_, ⟨k + 1, by omega, (backTo_succ _ _).symm⟩, hJx3⟩⟩
    · obtain rfl : k = zs.length := by omega
      gi_wp2
      go_end0
      exact ⟨⟨_, rfl⟩, .inl ⟨_, rfl, hJs⟩⟩

set_option maxHeartbeats 1000000 in
theorem back1_nil_in (F : Fence) (n : Nat) (h8 : F.fn 191) (hro : F.round = none) (l Bs : Nat) (J : List (Int × InX) → World → Prop) (W : World) (hBs : W.cell? ⟨Bs, 0, none⟩ = some (.slice none 0 0)) (h0 : J [] W) :
    CallsIn F n Tryz.prog 191 #[.func (.yield l) #[] #[], .pointer (some ⟨Bs, 0, none⟩)] W fun e W' => (∃ v, e = .returned v) ∧ J [] W' := by
  refine callsIn_of_wp Tryz.func191 rfl h8 ?_ hro
  simp only [Tryz.ntmps191, List.size_toArray, List.length_cons, List.length_nil, Nat.reduceAdd, Nat.reduceSub, Array.replicate_succ, Array.replicate_zero, List.push_toArray, List.append_toArray, List.nil_append, List.cons_append]
  gi_wp2
  gi_loopw [3] (fun i wr => i = .int .i64 (-1) ∧ J [] wr) (fun _ _ => 0)
  case atStart => exact ⟨rfl, h0⟩
  case round =>
    obtain ⟨rfl, hJs⟩ := hrel
    gi_wp2
    go_end0
    exact ⟨⟨_, rfl⟩, hJs⟩

set_option maxHeartbeats 1000000 in
theorem back_in (F : Fence) (n : Nat) (h5 : F.fn 162) (hro : F.round = none) (a : Option Addr) (len cap : Nat) (w : World) :
    CallsIn F n Tryz.prog 162 #[.slice a len cap] w fun e w' => e = .returned (.func (.func 191) #[] #[.pointer (some ⟨w.heap.size, 0, none⟩)]) ∧ w' = w.alloc (.cells #[.slice a len cap] 26) := by
  refine callsIn_of_wp Tryz.func162 rfl h5 ?_ hro
  simp only [Tryz.ntmps162, List.size_toArray, List.length_cons, List.length_nil, Nat.reduceAdd, Nat.reduceSub, Array.replicate_succ, Array.replicate_zero, List.push_toArray, List.append_toArray, List.nil_append, List.cons_append]
  gi_wp2
  go_ret
  exact ⟨rfl, rfl⟩

/-- The inputs lie in a block below n₀, or there are none. -/
def InsAt (n₀ : Nat) (W : World) (sv : Value) (zs : List InX) : Prop :=
  (sv = .slice none 0 0 ∧ zs = []) ∨ ∃ b off cap, sv = .slice (some ⟨b, off, none⟩) zs.length cap ∧ b < n₀ ∧ ∀ j, j < zs.length → W.cell? ⟨b, off + j * 3, none⟩ = some (.int .i64 (elX zs j).1) ∧ W.cell? ⟨b, off + j * 3 + 1, none⟩ = some (.int .i64 (elX zs j).2.1) ∧ W.cell? ⟨b, off + j * 3 + 2, none⟩ = some (.int .i64 (elX zs j).2.2)
theorem InsAt.below {n₀ : Nat} {A B : World} (h : Below n₀ A B) {sv : Value} {zs : List InX} : InsAt n₀ A sv zs → InsAt n₀ B sv zs
  | .inl e => .inl e
  | .inr ⟨b, off, cap, e, hb, hc⟩ => .inr ⟨b, off, cap, e, hb, fun j hj => by
    obtain ⟨c0, c1, c2⟩ := hc j hj
    exact ⟨(h.cell (p := ⟨b, off + j * 3, none⟩) hb).trans c0, (h.cell (p := ⟨b, off + j * 3 + 1, none⟩) hb).trans c1, (h.cell (p := ⟨b, off + j * 3 + 2, none⟩) hb).trans c2⟩⟩
theorem back_stops (F : Fence) (n : Nat) (h8 : F.fn 191) (hro : F.round = none) (hn : 1 ≤ n) (Bs n₀ : Nat) (sv : Value) (zs : List InX) (hreach : zs.length * 24 ≤ 140737488351232) (w : World) (hBs : Bs < n₀) (hn₀ : n₀ ≤ w.heap.size)
    (hc : w.cell? ⟨Bs, 0, none⟩ = some sv) (hI : InsAt n₀ w sv zs) :
    SeqStopsK F n Tryz.prog 191 #[.pointer (some ⟨Bs, 0, none⟩)] (fun x : Int × InX => #[Value.int .i64 x.1, inAgg x.2]) (Below n₀) (fun ys => ys = backTo zs zs.length) (fun pre => ∃ k, k ≤ zs.length ∧ pre = backTo zs k) zs.length w := fun l J Jx W hW _ _ hY h0 => by
  have hc' := (hW.cell (p := ⟨Bs, 0, none⟩) (Nat.lt_of_lt_of_le hBs hn₀)).trans hc
  rcases hI.below (hW.mono hn₀) with ⟨rfl, rfl⟩ | ⟨b, off, cap, rfl, hb, hcs⟩
  · exact (back1_nil_in F n h8 hro l Bs J W hc' h0).mono fun e W' ⟨he, hj⟩ => ⟨he, .inl ⟨_, rfl, hj⟩⟩
  · refine (back1_in F n h8 hro hn l Bs n₀ b off cap zs hreach hb hBs J Jx hY W hc' hcs h0).mono ?_
    rintro e W' ⟨he, ⟨ys, rfl, hj⟩ | ⟨pre, ⟨k, hk, rfl⟩, hj⟩⟩
    · exact ⟨he, .inl ⟨_, rfl, hj⟩⟩
    · exact ⟨he, .inr ⟨_, ⟨k, hk, rfl⟩, hj⟩⟩
end Go.Proofs.YtfpmgpblhhcpgaaGreat
/-
  Machine: input.
-/
namespace Go.Proofs.YtfpmgpblhhcpgaaGreat
set_option linter.unusedVariables false
set_option linter.unusedSimpArgs false
open Go.RowKit Go.Shelf

attribute [local go_sem] Oper.semAt_some
def hit (p q : Int) (x : Int × InX) : Prop := x.2.1 = p ∧ x.2.2.1 = q
set_option maxRecDepth 100000 in
set_option maxHeartbeats 2000000 in
theorem input_in (F : Fence) (n : Nat) (h1 : 5 ≤ n) (h119 : F.fn 119) (h162 : F.fn 162) (h191 : F.fn 191) (hro : F.round = none) (b : Nat) (sv : Value) (p q : Int) (zs : List InX) (hreach : zs.length * 24 ≤ 140737488351232) (w : World)
    (hbw : b < w.heap.size) (hsl : ∃ a l c, sv = .slice a l c) (hc : w.cell? ⟨b, 14, none⟩ = some sv) (hI : InsAt w.heap.size w sv zs) :
    CallsIn F n Tryz.prog 119 #[.pointer (some ⟨b, 0, none⟩), .int .i64 p, .int .i64 q] w fun e W' => Below w.heap.size w W' ∧ ((e = .returned (.int .i64 0) ∧ ∀ x ∈ backTo zs zs.length, ¬ hit p q x) ∨ ∃ pre x k, k ≤ zs.length ∧ backTo zs k = pre ++ [x] ∧ (∀ y ∈ pre, ¬ hit p q y) ∧ hit p q x ∧ e = .returned (.int .i64 x.2.2.2)) := by
  obtain ⟨sa, sl, sc, rfl⟩ := hsl
  refine callsIn_of_wp_marks Tryz.func119 rfl h119 ?_ hro
  simp only [Tryz.ntmps119, List.size_toArray, List.length_cons, List.length_nil, Nat.reduceAdd, Nat.reduceSub, Array.replicate_succ, Array.replicate_zero, List.push_toArray, List.append_toArray, List.nil_append, List.cons_append]
  have hc3 : (((w.alloc (.cells #[.int .i64 p] 2)).alloc (.cells #[.int .i64 q] 2)).alloc (.cells #[.int .i64 0] 2)).cell? ⟨b, 14, none⟩ = some (.slice sa sl sc) :=
    (((((Below.refl w.heap.size w).alloc (Nat.le_refl _) _).alloc (by simp) _).alloc (by simp; omega) _).cell (p := ⟨b, 14, none⟩) hbw).trans hc
  gi_wp2
  refine ⟨fun _ => by omega, (back_in F (n - 1) h162 hro _ _ _ _).mono ?_⟩
  rintro e w' ⟨rfl, rfl⟩
  gi_wp2
  have hB0 : Below w.heap.size w ((((w.alloc (.cells #[.int .i64 p] 2)).alloc (.cells #[.int .i64 q] 2)).alloc (.cells #[.int .i64 0] 2)).alloc (.cells #[.slice sa sl sc] 26)) :=
    ((((Below.refl w.heap.size w).alloc (Nat.le_refl _) _).alloc (by simp) _).alloc (by simp; omega) _).alloc (by simp; omega) _
  obtain ⟨W0, hW0⟩ : ∃ W0, ((((w.alloc (.cells #[.int .i64 p] 2)).alloc (.cells #[.int .i64 q] 2)).alloc (.cells #[.int .i64 0] 2)).alloc (.cells #[.slice sa sl sc] 26)) = W0 := ⟨_, rfl⟩
  have bP : Boxed W0 w.heap.size 2 (.int .i64 p) := by rw [← hW0]; exact (((Boxed.new w 2 (.int .i64 p)).alloc _).alloc _).alloc _
  have bQ : Boxed W0 (w.heap.size + 1) 2 (.int .i64 q) := by rw [← hW0]; have := Boxed.new (w.alloc (.cells #[.int .i64 p] 2)) 2 (.int .i64 q); simp at this; exact (this.alloc _).alloc _
  have bR : Boxed W0 (w.heap.size + 1 + 1) 2 (.int .i64 0) := by rw [← hW0]; have := Boxed.new ((w.alloc (.cells #[.int .i64 p] 2)).alloc (.cells #[.int .i64 q] 2)) 2 (.int .i64 0); simp at this; exact this.alloc _
  have bS : Boxed W0 (w.heap.size + 1 + 1 + 1) 26 (.slice sa sl sc) := by rw [← hW0]; have := Boxed.new (((w.alloc (.cells #[.int .i64 p] 2)).alloc (.cells #[.int .i64 q] 2)).alloc (.cells #[.int .i64 0] 2)) 26 (.slice sa sl sc); simp at this; exact this
  rw [hW0] at hB0 ⊢
  have hsz : W0.heap.size = w.heap.size + 1 + 1 + 1 + 1 := by rw [← hW0]; simp
  have hI0 : InsAt W0.heap.size W0 (.slice sa sl sc) zs := by
    have := hI.below hB0
    rcases this with h | ⟨b, off, cap, e, hb, hcc⟩
    · exact .inl h
    · exact .inr ⟨b, off, cap, e, by omega, hcc⟩
  refine wpIn_rangeFunc_ownH hro (by omega) (gf := 191) (lb := #[.pointer (some ⟨w.heap.size + 1 + 1 + 1, 0, none⟩)]) rfl h191 (enters_of Tryz.func191 (by kernel_rfl) rfl)
    (back_stops F (n - 1) h191 hro (by omega) (w.heap.size + 1 + 1 + 1) W0.heap.size (.slice sa sl sc) zs hreach W0 (by omega) (Nat.le_refl _) bS.cell hI0) belowK_t (belowK_b (Nat.le_refl _)) (Below.refl _ _) (fun _ => rfl)
    (fun pre W => (((Boxed W w.heap.size 2 (.int .i64 p) ∧ Boxed W (w.heap.size + 1) 2 (.int .i64 q)) ∧ Boxed W (w.heap.size + 1 + 1) 2 (.int .i64 0)) ∧ ∀ x ∈ pre, ¬ hit p q x) ∧ (Below w.heap.size w W ∧ Below W0.heap.size W0 W))
    (fun c pre W => (c = .ret ∧ ∃ pre' x, pre = pre' ++ [x] ∧ (∀ y ∈ pre', ¬ hit p q y) ∧ hit p q x ∧ Boxed W (w.heap.size + 1 + 1) 2 (.int .i64 x.2.2.2)) ∧ Below w.heap.size w W)
    ?hI ?hIx ?h0
    (fun x a' W => ∃ Bx, w.heap.size + 1 + 1 < Bx ∧ W.heap[Bx]? = some (.cells #[.int .i64 x.2.1, .int .i64 x.2.2.1, .int .i64 x.2.2.2] 57) ∧ a' = { tmps := #[.pointer (some ⟨b, 0, none⟩), .int .i64 p, .int .i64 q, undef, .pointer (some ⟨w.heap.size, 0, none⟩), .pointer (some ⟨w.heap.size + 1, 0, none⟩), .pointer (some ⟨w.heap.size + 1 + 1, 0, none⟩), undef, .pointer (some ⟨Bx, 0, none⟩), .pointer (some ⟨b, 0, none⟩), .pointer (some ⟨b, 0, none⟩), .pointer (some ⟨b, 11, none⟩), .pointer (some ⟨b, 14, none⟩), .slice sa sl sc, .func (.func 191) #[] #[.pointer (some ⟨w.heap.size + 1 + 1 + 1, 0, none⟩)], .int .i64 x.1, .agg #[.int .i64 x.2.1, .int .i64 x.2.2.1, .int .i64 x.2.2.2], undef, undef, undef, undef, undef, undef, undef, undef, undef, undef, undef, undef], defers := [] })
    ?hAx ?assign ?body ?done ?stop
  case hI =>
    exact OwnFrom.and (OwnFrom.and (OwnFrom.and (OwnFrom.and (Own.from (boxed_own _ _ _) _) (Own.from (boxed_own _ _ _) _)) (Own.from (boxed_own _ _ _) _)) (ownFrom_pure _ _)) (OwnFrom.and (ownFrom_below (Nat.le_refl _) (by omega)) (ownFrom_below (Nat.le_refl _) (Nat.le_refl _)))
  case hIx =>
    intro c
    refine OwnFrom.and ?_ (ownFrom_below (Nat.le_refl _) (by omega))
    rintro s X Y row ⟨hc, pre', x, h1, h2, h3, h4⟩ hg hr
    exact ⟨hc, pre', x, h1, h2, h3, boxed_own _ 2 (fun (_ : Unit) => Value.int .i64 x.2.2.2) () X Y row h4 hg (fun r e => (hr r e).2)⟩
  case h0 => exact ⟨⟨⟨⟨bP, bQ⟩, bR⟩, fun x hx => by cases hx⟩, hB0, Below.refl _ _⟩
  case hAx =>
    rintro x a' _ X Y row ⟨Bx, h1, h2, h3⟩ hg hr
    refine ⟨Bx, h1, ?_, h3⟩
    refine (hg.block Bx (Array.getElem?_eq_some_iff.1 h2).1 fun e => ?_).trans h2
    obtain ⟨_, o, ho, hcl⟩ := hr Bx e.symm
    rw [h2] at ho; cases ho; cases hcl
  case assign =>
    rintro l pre x W K ⟨⟨⟨⟨b1, b2⟩, b3⟩, hno⟩, hB1, hB2⟩ hK
    dsimp only [inAgg]
    gi_wp2
    refine hK _ _ ((KeepsOthers.alloc _ _).from _) ((Below.refl _ W).alloc hB2.size _) ⟨⟨⟨⟨b1.alloc _, b2.alloc _⟩, b3.alloc _⟩, hno⟩, hB1.alloc hB1.size _, hB2.alloc hB2.size _⟩ ⟨W.heap.size, b3.lt, World.alloc_heap_new W _, rfl⟩
  case body =>
    rintro l pre x a' W hl ⟨r, hr⟩ ⟨⟨⟨⟨b1, b2⟩, b3⟩, hno⟩, hB1, hB2⟩ ⟨Bx, hBx, bX, rfl⟩ hlt
    have c1 := b1.cell
    have c2 := b2.cell
    have x0 : W.cell? ⟨Bx, 0, none⟩ = some (.int .i64 x.2.1) := by simp [World.cell?, bX]
    have x1 : W.cell? ⟨Bx, 1, none⟩ = some (.int .i64 x.2.2.1) := by simp [World.cell?, bX]
    have x2 : W.cell? ⟨Bx, 2, none⟩ = some (.int .i64 x.2.2.2) := by simp [World.cell?, bX]
    have f3 := b3.frozen
    have c3 := b3.cell
    gi_wp2
    · rename_i e1 e2
      refine ⟨(KeepsOthers.setCell _ _ _).from _, ⟨rfl, pre, x, rfl, hno, ⟨e1, by simpa using e2⟩, b3.set _⟩, hB1.setCell (p := ⟨w.heap.size + 1 + 1, 0, none⟩) (by simp; omega) _⟩
    · rename_i e1 e2
      refine ⟨KeepsFrom.refl _ _, Below.refl _ _, ⟨⟨⟨b1, b2⟩, b3⟩, fun y hy => ?_⟩, hB1, hB2⟩
      rcases List.mem_append.1 hy with hy | hy
      · exact hno y hy
      · rw [List.mem_singleton.1 hy]; exact fun h => (by simpa using e2 : ¬ x.2.2.1 = q) h.2
    · rename_i e1
      refine ⟨KeepsFrom.refl _ _, Below.refl _ _, ⟨⟨⟨b1, b2⟩, b3⟩, fun y hy => ?_⟩, hB1, hB2⟩
      rcases List.mem_append.1 hy with hy | hy
      · exact hno y hy
      · rw [List.mem_singleton.1 hy]; exact fun h => e1 h.1
  case done =>
    rintro D xs W hD rfl ⟨⟨⟨⟨b1, b2⟩, b3⟩, hno⟩, hB1, hB2⟩ hK
    have c3 := b3.cell
    have f3 := b3.frozen
    gi_wp2
    have hK2 := (KeepsOthers.setCell W ⟨w.heap.size + 1 + 1, 0, none⟩ (.int .i64 0)).same D _ hK rfl
    refine ⟨by simp, .inl ⟨_, _, rfl, run_takeDeferred hK2, ?_⟩⟩
    have hc5 := cell_kept (b3.set (.int .i64 0)).cell (grownBy_putObj' _ D (.deferred none)) (fun r e => by cases e; exact ⟨_, hK2, rfl⟩)
    refine ⟨.int .i64 0, ?_, (hB1.setCell (p := ⟨w.heap.size + 1 + 1, 0, none⟩) (by simp; omega) _).trans (belowK_b (w := w) (Nat.le_refl _) _ D _ _ (by omega) hK2 rfl rfl), .inl ⟨rfl, hno⟩⟩
    simp [results, Tryz.f119, go_sem, hc5]
  case stop =>
    rintro D c pre W hD hSp ⟨⟨rfl, pre', x, hpre, hno, hhit, b3⟩, hB1⟩ hK
    have c3 := b3.cell
    gi_wp2
    refine ⟨by simp, .inl ⟨_, _, rfl, run_takeDeferred hK, ?_⟩⟩
    have hc5 := cell_kept b3.cell (grownBy_putObj' _ D (.deferred none)) (fun r e => by cases e; exact ⟨_, hK, rfl⟩)
    obtain ⟨k, hk, hkp⟩ := hSp
    refine ⟨.int .i64 x.2.2.2, ?_, hB1.trans (belowK_b (w := w) (Nat.le_refl _) W D _ _ (by omega) hK rfl rfl), .inr ⟨pre', x, k, hk, by rw [← hkp, hpre], hno, hhit, rfl⟩⟩
    simp [results, Tryz.f119, go_sem, hc5]
end Go.Proofs.YtfpmgpblhhcpgaaGreat
/-
  Heaps: what a block holds, what a step may have turned, and rules for the printed conditions' words.
-/
namespace Go.Proofs.YtfpmgpblhhcpgaaGreat.Hc
set_option linter.unusedVariables false
set_option linter.unusedSimpArgs false

/-- From H to H' nothing has turned but blocks of M, and blocks that are new. -/
structure Upd (M : Nat → Prop) (H H' : Heap) : Prop where
  size : H.size ≤ H'.size
  get : ∀ b, b < H.size → ¬ M b → H'[b]? = H[b]?
abbrev Ext (H H' : Heap) : Prop := Upd (fun _ => False) H H'

theorem Upd.refl (M : Nat → Prop) (H : Heap) : Upd M H H := ⟨Nat.le_refl _, fun _ _ _ => rfl⟩
theorem Upd.trans {M M2 : Nat → Prop} {H H1 H2 : Heap} (h : Upd M H H1) (h2 : Upd M2 H1 H2) (hM : ∀ b, b < H.size → M2 b → M b) : Upd M H H2 :=
  ⟨Nat.le_trans h.size h2.size, fun b hb hn => (h2.get b (Nat.lt_of_lt_of_le hb h.size) fun hm => hn (hM b hb hm)).trans (h.get b hb hn)⟩
theorem Upd.mono {M M2 : Nat → Prop} {H H1 : Heap} (h : Upd M2 H H1) (hM : ∀ b, b < H.size → M2 b → M b) : Upd M H H1 :=
  ⟨h.size, fun b hb hn => h.get b hb fun hm => hn (hM b hb hm)⟩
theorem Upd.ext {M : Nat → Prop} {H H1 H2 : Heap} (h : Upd M H H1) (h2 : Ext H1 H2) : Upd M H H2 := h.trans h2 fun _ _ h => h.elim
theorem Upd.push (M : Nat → Prop) (H : Heap) (o : Obj) : Upd M H (H.push o) :=
  ⟨by simp, fun b hb _ => by rw [Array.getElem?_push, if_neg (by omega)]⟩
theorem Upd.set (H : Heap) (a : Addr) (v : Value) : Upd (· = a.block) H (hset H a v) :=
  ⟨by simp [hset], fun b _ hn => by simp only [hset, Array.getElem?_modify]; rw [if_neg (fun e => hn e.symm)]⟩
theorem lt_of_get {H : Heap} {b : Nat} {o : Obj} (h : H[b]? = some o) : b < H.size := by
  rcases Nat.lt_or_ge b H.size with h' | h'
  · exact h'
  · rw [Array.getElem?_eq_none h'] at h; cases h
/-- A block that was not turned holds what it held. -/
theorem Upd.keep {M : Nat → Prop} {H H' : Heap} (h : Upd M H H') {b : Nat} {o : Obj} (hb : H[b]? = some o) (hn : ¬ M b) : H'[b]? = some o := (h.get b (lt_of_get hb) hn).trans hb
theorem get_push_new (H : Heap) (o : Obj) : (H.push o)[H.size]? = some o := by simp
theorem get_push_old {H : Heap} {o o' : Obj} {b : Nat} (h : H[b]? = some o') : (H.push o)[b]? = some o' := by
  have := lt_of_get h
  rw [Array.getElem?_push, if_neg (by omega)]; exact h
theorem lt_of_cell {H : Heap} {a : Addr} {v : Value} (h : hcell H a = some v) : a.block < H.size := by
  unfold hcell at h
  rcases Nat.lt_or_ge a.block H.size with h' | h'
  · exact h'
  · rw [Array.getElem?_eq_none h'] at h; cases h
theorem hcell_congr {H H' : Heap} {a : Addr} (h : H'[a.block]? = H[a.block]?) : hcell H' a = hcell H a := by unfold hcell; rw [h]
theorem hfrozen_congr {H H' : Heap} {a : Addr} (h : H'[a.block]? = H[a.block]?) : hfrozen H' a = hfrozen H a := by unfold hfrozen; rw [h]
theorem Upd.cell {M : Nat → Prop} {H H' : Heap} (h : Upd M H H') {a : Addr} {v : Value} (hc : hcell H a = some v) (hn : ¬ M a.block) : hcell H' a = some v :=
  (hcell_congr (h.get _ (lt_of_cell hc) hn)).trans hc

/-- Cells of a block that is known whole. -/
theorem cell_blk {H : Heap} {b o : Nat} {cs : Array Value} {t : TypeId} {fr : Nat × Nat} (h : H[b]? = some (.cells cs t fr)) : hcell H ⟨b, o, none⟩ = cs[o]? := by
  simp [hcell, h]
theorem frozen_blk {H : Heap} {b o : Nat} {cs : Array Value} {t : TypeId} (h : H[b]? = some (.cells cs t (0, 0))) : hfrozen H ⟨b, o, none⟩ = false := by
  simp [hfrozen, h]
theorem set_blk {H : Heap} {b o : Nat} {cs : Array Value} {t : TypeId} {fr : Nat × Nat} (h : H[b]? = some (.cells cs t fr)) (v : Value) :
    (hset H ⟨b, o, none⟩ v)[b]? = some (.cells (cs.setIfInBounds o v) t fr) := by
  simp [hset, Array.getElem?_modify, h]
@[simp] theorem size_hset (H : Heap) (a : Addr) (v : Value) : (hset H a v).size = H.size := by simp [hset]
@[simp] theorem adr_add (b n : Nat) : (adr b).add n = ⟨b, n, none⟩ := by unfold Addr.add; split <;> simp_all
@[simp] theorem mk_add (b o n : Nat) : (Addr.add ⟨b, o, none⟩ n) = ⟨b, o + n, none⟩ := by unfold Addr.add; split <;> simp_all

/-! ### the words -/
@[simp] theorem NilCk_some (a : Addr) (k : Addr → Prop) : NilCk (some a) k ↔ k a := by simp [NilCk]
@[simp] theorem NilCk_none (k : Addr → Prop) : NilCk none k ↔ False := by simp [NilCk]
theorem Ld.mk {c : CTy} {a : Addr} {H : Heap} {k : c.den → Prop} (d : c.den) (h : hcell H a = some (c.emb d)) (hk : k d) : Ld c a H k := ⟨d, h, hk⟩
theorem Ld_int {kd : IntKind} {a : Addr} {H : Heap} {k : Int → Prop} {n : Int} (h : hcell H a = some (.int kd n)) (hk : k n) : Ld (.int kd) a H k := ⟨n, h, hk⟩
theorem Ld_bool {a : Addr} {H : Heap} {k : Bool → Prop} {n : Bool} (h : hcell H a = some (.bool n)) (hk : k n) : Ld .bool a H k := ⟨n, h, hk⟩
theorem Ld_str {a : Addr} {H : Heap} {k : ByteArray → Prop} {n : ByteArray} (h : hcell H a = some (.string n)) (hk : k n) : Ld .str a H k := ⟨n, h, hk⟩
theorem Ld_ptr {a : Addr} {H : Heap} {k : Option Addr → Prop} {n : Option Addr} (h : hcell H a = some (.pointer n)) (hk : k n) : Ld .ptr a H k := ⟨n, h, hk⟩
theorem Ld_sl {a : Addr} {H : Heap} {k : Sl → Prop} {s : Sl} (h : hcell H a = some (.slice s.a s.len s.cap)) (hk : k s) : Ld .sl a H k := ⟨s, h, hk⟩
theorem St.mk {a : Addr} {v : Value} {H : Heap} {k : Heap → Prop} {u : Value} (h : hcell H a = some u) (hf : hfrozen H a = false) (hk : k (hset H a v)) : St a v H k := ⟨by rw [h]; rfl, hf, hk⟩
theorem St_blk {b o : Nat} {v : Value} {H : Heap} {k : Heap → Prop} {cs : Array Value} {t : TypeId} (h : H[b]? = some (.cells cs t (0, 0))) (ho : o < cs.size)
    (hk : ∀ H', Upd (· = b) H H' → H'.size = H.size → H'[b]? = some (.cells (cs.setIfInBounds o v) t (0, 0)) → k H') : St ⟨b, o, none⟩ v H k :=
  ⟨by rw [cell_blk h]; simp [ho], frozen_blk h, hk _ (Upd.set H ⟨b, o, none⟩ v) (by simp) (set_blk h v)⟩
@[simp] theorem Br_true (X Y : Prop) : Br true X Y ↔ X := Iff.rfl
@[simp] theorem Br_false (X Y : Prop) : Br false X Y ↔ Y := Iff.rfl
theorem Br.mk {b : Bool} {X Y : Prop} (h1 : b = true → X) (h2 : b = false → Y) : Br b X Y := by cases b; exact h2 rfl; exact h1 rfl
theorem Br_dec {p : Prop} [Decidable p] {X Y : Prop} (h1 : p → X) (h2 : ¬ p → Y) : Br (decide p) X Y := Br.mk (fun h => h1 (of_decide_eq_true h)) fun h => h2 (of_decide_eq_false h)
theorem Br_yes {p : Prop} [Decidable p] {X Y : Prop} (h : p) (hx : X) : Br (decide p) X Y := by rw [decide_eq_true h]; exact hx
theorem Br_no {p : Prop} [Decidable p] {X Y : Prop} (h : ¬ p) (hy : Y) : Br (decide p) X Y := by rw [decide_eq_false h]; exact hy
@[simp] theorem Lt_def (v : Int) (k : Int → Prop) : Lt v k ↔ k v := Iff.rfl
theorem Lt.mk {v u : Int} {k : Int → Prop} (h : v = u) (hk : k u) : Lt v k := by subst h; exact hk
theorem Nw.mk {cells : Array Value} {t : TypeId} {H : Heap} {k : Nat → Heap → Prop}
    (h : ∀ H', H' = H.push (.cells cells t) → k H.size H') : Nw cells t H k := h _ rfl
/-- New memory: its block, and all else as it was. -/
theorem Nw_blk {cells : Array Value} {t : TypeId} {H : Heap} {k : Nat → Heap → Prop}
    (h : ∀ b H', b = H.size → Ext H H' → H'.size = H.size + 1 → H'[b]? = some (.cells cells t (0, 0)) → k b H') : Nw cells t H k :=
  h _ _ rfl (Upd.push _ _ _) (by simp) (get_push_new _ _)
theorem Jn.mk {σ : Type} {m : (σ → Heap → Prop) → Prop} {k : σ → Heap → Prop} (R : σ → Heap → Prop) (h1 : ∀ kk, (∀ s H, R s H → kk s H) → m kk) (h2 : ∀ s H, R s H → k s H) : Jn m k := h1 k h2
theorem Jn_in {σ : Type} {m : (σ → Heap → Prop) → Prop} {k : σ → Heap → Prop} (h : m k) : Jn m k := h
theorem LoopT.mk {σ : Type} {body : (σ → Heap → Prop) → σ → Heap → Prop} {s : σ} {H : Heap} (I : σ → Heap → Prop) (μ : σ → Heap → Nat) (h : I s H)
    (hb : ∀ next s H, I s H → (∀ s' H', I s' H' → μ s' H' < μ s H → next s' H') → body next s H) : LoopT body s H :=
  ⟨I, μ, h, fun s H hI => hb _ s H hI fun _ _ h1 h2 => ⟨h1, h2⟩⟩
/-- A loop whose measure is the proof's own number. -/
theorem LoopT.ghost {σ : Type} {body : (σ → Heap → Prop) → σ → Heap → Prop} {s : σ} {H : Heap} (I : Nat → σ → Heap → Prop) (n : Nat) (h : I n s H)
    (hb : ∀ next m s H, I m s H → (∀ m' s' H', m' < m → I m' s' H' → next s' H') → body next s H) : LoopT body s H := by
  refine ⟨fun s H => ∃ m, I m s H, fun s H => leastOf (fun m => I m s H), ⟨n, h⟩, fun s H hI => ?_⟩
  have hl := leastOf_spec hI
  exact hb _ _ s H hl.1 fun m' s' H' hlt hI' => ⟨⟨m', hI'⟩, Nat.lt_of_le_of_lt ((leastOf_spec ⟨m', hI'⟩).2 m' hI') hlt⟩
theorem CallT.mono {P : Program} {f : FuncId} {args : List Value} {r : RTy} {H : Heap} {k k' : r.den → Heap → Prop} (h : CallT P f args r H k) (hk : ∀ d H', k d H' → k' d H') : CallT P f args r H k' :=
  ⟨h.1, fun w hw => (h.2 w hw).mono fun _ _ ⟨he, d, h1, h2⟩ => ⟨he, d, h1, hk d _ h2⟩⟩
theorem IxA.mk {size : Nat} {s : Sl} {i : Int} {k : Addr → Prop} {a : Addr} (ha : s.a = some a) (h0 : 0 ≤ i) (h1 : i < (s.len : Int)) (hk : k (a.add (i.toNat * size))) : IxA size s i k := ⟨a, ha, h0, h1, hk⟩
theorem Stab_1 {a : Addr} {v : Value} {H : Heap} {X : Prop} (h : hcell H a = some v) (hx : X) : Stab [(a, v)] H X := ⟨by simpa using h, hx⟩
theorem Stab_2 {a b : Addr} {v u : Value} {H : Heap} {X : Prop} (h : hcell H a = some v) (h2 : hcell H b = some u) (hx : X) : Stab [(a, v), (b, u)] H X := ⟨by simp [h, h2], hx⟩
theorem Stab_all {l : List (Addr × Value)} {H : Heap} {X : Prop} (h : ∀ x ∈ l, hcell H x.1 = some x.2) (hx : X) : Stab l H X := by
  cases l with
  | nil => exact hx
  | cons e l => exact ⟨h, hx⟩
/-- What an int64 may be. -/
def I64 (x : Int) : Prop := -9223372036854775808 ≤ x ∧ x < 9223372036854775808
theorem wrap_u64 (x : Int) : IntKind.wrap .u64 x = x % 18446744073709551616 := by
  unfold IntKind.wrap; simp [IntKind.signed, IntKind.bits]
theorem wrap_i64 (x : Int) : IntKind.wrap .i64 x = (x + 9223372036854775808) % 18446744073709551616 - 9223372036854775808 := by
  unfold IntKind.wrap; simp [IntKind.signed, IntKind.bits]; split <;> omega
theorem wrap_i64_id {x : Int} (h0 : -9223372036854775808 ≤ x) (h1 : x < 9223372036854775808) : IntKind.wrap .i64 x = x := by rw [wrap_i64]; omega
theorem wrap_u64_id {x : Int} (h0 : 0 ≤ x) (h1 : x < 18446744073709551616) : IntKind.wrap .u64 x = x := by rw [wrap_u64]; omega
theorem wrap_u8 (x : Int) : IntKind.wrap .u8 x = x % 256 := by
  unfold IntKind.wrap; simp [IntKind.signed, IntKind.bits]
end Go.Proofs.YtfpmgpblhhcpgaaGreat.Hc
/-
  Blocks that are rows of one-cell elements: reading, storing, making.
-/
namespace Go.Proofs.YtfpmgpblhhcpgaaGreat.Hc
set_option linter.unusedVariables false
set_option linter.unusedSimpArgs false

/-- Block b holds just these cells. -/
def Row (H : Heap) (b : Nat) (T : TypeId) (vs : List Value) : Prop := H[b]? = some (.cells ⟨vs⟩ T (0, 0))
theorem Row.lt {H : Heap} {b : Nat} {T : TypeId} {vs : List Value} (h : Row H b T vs) : b < H.size := lt_of_get h
theorem Row.cell {H : Heap} {b : Nat} {T : TypeId} {vs : List Value} (h : Row H b T vs) (i : Nat) : hcell H ⟨b, i, none⟩ = vs[i]? := by
  rw [cell_blk h]; simp
theorem Upd.row {M : Nat → Prop} {H H' : Heap} (h : Upd M H H') {b : Nat} {T : TypeId} {vs : List Value} (hb : Row H b T vs) (hn : ¬ M b) : Row H' b T vs := h.keep hb hn
theorem St_row {b i : Nat} {v : Value} {H : Heap} {k : Heap → Prop} {T : TypeId} {vs : List Value} (h : Row H b T vs) (hi : i < vs.length)
    (hk : ∀ H', Upd (· = b) H H' → H'.size = H.size → Row H' b T (vs.set i v) → k H') : St ⟨b, i, none⟩ v H k := by
  refine St_blk h (by simpa using hi) fun H' h1 h2 h3 => hk H' h1 h2 ?_
  unfold Row; rw [h3]; simp
theorem IxA_adr {size b len cap : Nat} {i : Int} {k : Addr → Prop} (h0 : 0 ≤ i) (h1 : i < (len : Int)) (hk : k ⟨b, i.toNat * size, none⟩) : IxA size ⟨some (adr b), len, cap⟩ i k :=
  IxA.mk rfl h0 h1 (by simpa using hk)
theorem zcells_one (z : Value) (n : Nat) : zcells #[z] n = ⟨List.replicate n z⟩ := by
  unfold zcells
  apply Array.ext'
  simp only [Array.toList_map, Array.toList_range]
  apply List.ext_getElem
  · simp
  · intro i h1 h2; simp [Nat.mod_one]
theorem Mks_row {T : TypeId} {bytes : Nat} {z : Value} {n : Int} {H : Heap} {k : Sl → Heap → Prop} (h0 : 0 ≤ n) (h1 : n < 9223372036854775808) (hb : (bytes : Int) * n ≤ 2 ^ 48)
    (hk : ∀ b H', b = H.size → Ext H H' → H'.size = H.size + 1 → Row H' b T (List.replicate n.toNat z) → k ⟨some (adr b), n.toNat, n.toNat⟩ H') : Mks T 1 bytes #[z] n n H k := by
  unfold Mks
  rw [wrap_i64_id (by omega) h1]
  refine ⟨h0, by omega, hb, ?_⟩
  rw [Nat.mul_one, zcells_one]
  exact hk _ _ rfl (Upd.push _ _ _) (by simp) (get_push_new _ _)
/-- A new block with these cells. -/
theorem Nw_row {vs : List Value} {t : TypeId} {H : Heap} {k : Nat → Heap → Prop}
    (h : ∀ b H', b = H.size → Ext H H' → H'.size = H.size + 1 → Row H' b t vs → k b H') : Nw ⟨vs⟩ t H k :=
  Nw_blk fun b H' h1 h2 h3 h4 => h b H' h1 h2 h3 h4

abbrev ints (xs : List Int) : List Value := xs.map (Value.int .i64)
theorem ints_get {xs : List Int} {i : Nat} (h : i < xs.length) : (ints xs)[i]? = some (.int .i64 (xs.getD i 0)) := by
  simp [List.getElem?_eq_getElem h]
theorem ints_set (xs : List Int) (i : Nat) (x : Int) : (ints xs).set i (.int .i64 x) = ints (xs.set i x) := by simp [ints, List.map_set]
def iota (n : Nat) : List Int := (List.range n).map Int.ofNat
theorem iota_len (n : Nat) : (iota n).length = n := by simp [iota]
theorem iota_succ (n : Nat) : iota (n + 1) = iota n ++ [(n : Int)] := by simp [iota, List.range_succ]
theorem iota_step {n i : Nat} (h : i < n) : (iota i ++ List.replicate (n - i) 0).set i (i : Int) = iota (i + 1) ++ List.replicate (n - (i + 1)) 0 := by
  rw [List.set_append_right _ _ (by rw [iota_len]; exact Nat.le_refl _), iota_len, Nat.sub_self, iota_succ]
  obtain ⟨m, hm⟩ : ∃ m, n - i = m + 1 := ⟨n - i - 1, by omega⟩
  rw [hm, List.replicate_succ, List.set_cons_zero, show n - (i + 1) = m by omega]
  simp
theorem mem_iota {n : Nat} {x : Int} : x ∈ iota n ↔ 0 ≤ x ∧ x < n := by
  simp only [iota, List.mem_map, List.mem_range]
  constructor
  · rintro ⟨a, h, rfl⟩; exact ⟨Int.natCast_nonneg a, by simp; omega⟩
  · rintro ⟨h0, h1⟩; exact ⟨x.toNat, by omega, by simp; omega⟩
theorem nodup_iota (n : Nat) : (iota n).Nodup := by
  unfold iota
  rw [List.nodup_iff_pairwise_ne, List.pairwise_map]
  exact List.Pairwise.imp (fun {a b} (h : a < b) => by simp; omega) List.pairwise_lt_range
end Go.Proofs.YtfpmgpblhhcpgaaGreat.Hc
/-
  Slices that grow: what they hold, and append.
-/
namespace Go.Proofs.YtfpmgpblhhcpgaaGreat.Hc
set_option linter.unusedVariables false
set_option linter.unusedSimpArgs false

theorem Row.ne {H : Heap} {b b' : Nat} {T T' : TypeId} {vs vs' : List Value} (h : Row H b T vs) (h' : Row H b' T' vs') (ht : T ≠ T') : b ≠ b' := by
  rintro rfl
  unfold Row at h h'
  rw [h] at h'
  simp only [Option.some.injEq, Obj.cells.injEq] at h'
  exact ht h'.2.1
theorem hcells_iff {H : Heap} {a : Addr} : ∀ {vs : List Value} {i : Nat}, hcells H a i vs ↔ ∀ j, j < vs.length → hcell H (a.add (i + j)) = vs[j]?
  | [], i => by simp [hcells]
  | v :: vs, i => by
    simp only [hcells, hcells_iff (vs := vs)]
    constructor
    · rintro ⟨h0, h⟩ j hj
      cases j with
      | zero => simpa using h0
      | succ j => have := h j (by simpa using hj); rw [show i + (j + 1) = i + 1 + j by omega]; simpa using this
    · intro h
      refine ⟨by simpa using h 0 (by simp), fun j hj => ?_⟩
      have := h (j + 1) (by simpa using hj)
      rw [show i + 1 + j = i + (j + 1) by omega]; simpa using this
/-- The first cells of a row. -/
theorem Row.rd {H : Heap} {b : Nat} {T : TypeId} {vs ws : List Value} (h : Row H b T (vs ++ ws)) : hcells H (adr b) 0 vs := by
  rw [hcells_iff]
  intro j hj
  rw [adr_add, h.cell, Nat.zero_add, List.getElem?_append_left hj]
theorem Row.rd_all {H : Heap} {b : Nat} {T : TypeId} {vs : List Value} (h : Row H b T vs) : hcells H (adr b) 0 vs := Row.rd (ws := []) (by simpa using h)

/-- A slice of one-cell elements that is its holder's own: what it holds; the block behind it is known whole. -/
structure Vec (H : Heap) (T : TypeId) (s : Sl) (vs : List Value) : Prop where
  len : s.len = vs.length
  own : (s.a = none ∧ s.cap = 0 ∧ vs = []) ∨ ∃ b sp, s.a = some (adr b) ∧ Row H b T (vs ++ sp) ∧ s.cap ≤ vs.length + sp.length
  lc : s.len ≤ s.cap
theorem Vec.nil (H : Heap) (T : TypeId) : Vec H T ⟨none, 0, 0⟩ [] := ⟨rfl, .inl ⟨rfl, rfl, rfl⟩, Nat.le_refl _⟩
theorem Vec.rd {H : Heap} {T : TypeId} {s : Sl} {vs : List Value} (h : Vec H T s vs) : rdL H s.a vs := by
  rcases h.own with ⟨h1, _, h3⟩ | ⟨b, sp, h1, h2, _⟩
  · rw [h1]; exact h3
  · rw [h1]; exact h2.rd
theorem Vec.upd {M : Nat → Prop} {H H' : Heap} (hu : Upd M H H') {T : TypeId} {s : Sl} {vs : List Value} (h : Vec H T s vs) (hn : ∀ b, s.a = some (adr b) → ¬ M b) : Vec H' T s vs := by
  refine ⟨h.len, ?_, h.lc⟩
  rcases h.own with h1 | ⟨b, sp, h1, h2, h3⟩
  · exact .inl h1
  · exact .inr ⟨b, sp, h1, hu.row h2 (hn b h1), h3⟩
theorem Vec.lt {H : Heap} {T : TypeId} {s : Sl} {vs : List Value} (h : Vec H T s vs) {b : Nat} (hb : s.a = some (adr b)) : b < H.size := by
  rcases h.own with ⟨h1, _⟩ | ⟨c, sp, h1, h2, _⟩
  · rw [h1] at hb; cases hb
  · rw [h1] at hb; cases hb; exact h2.lt
theorem Vec.ne {H : Heap} {T T' : TypeId} {s : Sl} {vs vs' : List Value} (h : Vec H T s vs) {b b' : Nat} (hb : s.a = some (adr b)) (h' : Row H b' T' vs') (ht : T ≠ T') : b ≠ b' := by
  rcases h.own with ⟨h1, _⟩ | ⟨c, sp, h1, h2, _⟩
  · rw [h1] at hb; cases hb
  · rw [h1] at hb; cases hb; exact h2.ne h' ht
theorem Vec.cell {H : Heap} {T : TypeId} {s : Sl} {vs : List Value} (h : Vec H T s vs) {i : Nat} (hi : i < vs.length) : ∃ b, s.a = some (adr b) ∧ hcell H ⟨b, i, none⟩ = vs[i]? := by
  rcases h.own with ⟨_, _, h3⟩ | ⟨b, sp, h1, h2, _⟩
  · subst h3; simp at hi
  · exact ⟨b, h1, by rw [h2.cell, List.getElem?_append_left hi]⟩
/-- Reading element i. -/
theorem IxA_vec {H : Heap} {T : TypeId} {s : Sl} {vs : List Value} (h : Vec H T s vs) {i : Int} {k : Addr → Prop} (h0 : 0 ≤ i) (h1 : i < (vs.length : Int))
    (hk : ∀ a, hcell H a = vs[i.toNat]? → (∃ b, s.a = some (adr b) ∧ a = ⟨b, i.toNat, none⟩) → k a) : IxA 1 s i k := by
  obtain ⟨b, hb, hc⟩ := h.cell (i := i.toNat) (by omega)
  refine IxA.mk hb h0 (by rw [h.len]; exact h1) ?_
  rw [adr_add, Nat.mul_one]
  exact hk _ hc ⟨b, hb, rfl⟩

theorem growBy_ge (n : Nat) : ∀ (r c : Nat), n ≤ c → Builtin.growBy n r c = c
  | 0, c, _ => rfl
  | r + 1, c, h => by rw [Builtin.growBy, if_pos h]
theorem growBy_le (n : Nat) : ∀ (r c : Nat), c < n → Builtin.growBy n r c ≤ n + n / 4 + 200
  | 0, c, h => by simp only [Builtin.growBy]; omega
  | r + 1, c, h => by
    rw [Builtin.growBy, if_neg (by omega)]
    rcases Nat.lt_or_ge (c + (c + 768) / 4) n with h1 | h1
    · exact growBy_le n r _ h1
    · rw [growBy_ge n r _ h1]; omega
theorem nextcap_le (n c : Nat) (h : c < n) : Builtin.nextslicecap n c ≤ n + n / 4 + 1000 := by
  unfold Builtin.nextslicecap
  split
  · omega
  · split
    · omega
    · have := growBy_le n 4 c h
      omega

theorem StL_row {b o : Nat} {T : TypeId} : ∀ {ws : List Value} {i : Nat} {H : Heap} {k : Heap → Prop} {cs : List Value}, Row H b T cs → o + i + ws.length ≤ cs.length → (∀ w ∈ ws, w.oneCell' = true) →
    (∀ H', Upd (fun x => x = b ∧ ws ≠ []) H H' → H'.size = H.size → Row H' b T (cs.take (o + i) ++ ws ++ cs.drop (o + i + ws.length)) → k H') → StL ⟨b, o, none⟩ i ws H k
  | [], i, H, k, cs, h, hl, _, hk => by
    refine hk H (.refl _ _) rfl ?_
    simpa using h
  | w :: ws, i, H, k, cs, h, hl, h1, hk => by
    simp only [StL, mk_add]
    simp only [List.length_cons] at hl
    refine ⟨h1 w (by simp), St_row h (by omega) fun H1 hU hs hr => ?_⟩
    refine StL_row hr (by simp; omega) (fun x hx => h1 x (by simp [hx])) fun H2 hU2 hs2 hr2 => ?_
    refine hk H2 ((hU.mono fun _ _ e => ⟨e, by simp⟩).trans hU2 fun _ _ e => ⟨e.1, by simp⟩) (hs2.trans hs) ?_
    have e : (cs.set (o + i) w).take (o + (i + 1)) ++ ws ++ (cs.set (o + i) w).drop (o + (i + 1) + ws.length) = cs.take (o + i) ++ (w :: ws) ++ cs.drop (o + i + (w :: ws).length) := by
      have ht : (cs.set (o + i) w).take (o + (i + 1)) = cs.take (o + i) ++ [w] := by
        rw [show o + (i + 1) = o + i + 1 by omega, List.take_add_one, List.getElem?_set_self (by omega), List.take_set_of_le (by omega)]; rfl
      rw [ht, List.drop_set_of_lt (by omega)]
      simp only [List.length_cons, List.append_assoc, List.singleton_append, List.cons_append, List.nil_append]
      rw [show o + (i + 1) + ws.length = o + i + (ws.length + 1) by omega]
    rw [e] at hr2
    exact hr2

/-- append to a slice of one's own. -/
theorem App_vec2 {T : TypeId} {bytes : Nat} {z : Value} {s x : Sl} {H : Heap} {k : Sl → Heap → Prop} {vs ws : List Value} (hv : Vec H T s vs) (hx : rdL H x.a ws) (hxl : ws.length = x.len)
    (hone : ∀ w ∈ ws, w.oneCell' = true) (hb : bytes ≠ 0) (hcap : (vs.length + ws.length + (vs.length + ws.length) / 4 + 1000) * bytes ≤ 2 ^ 48)
    (hk : ∀ s' H', Vec H' T s' (vs ++ ws) → Upd (fun b => s.a = some (adr b) ∧ s.len + x.len ≤ s.cap ∧ ws ≠ []) H H' → (s'.a = s.a ∧ s.len + x.len ≤ s.cap ∨ s'.a = some (adr H.size)) → H.size ≤ H'.size → k s' H') :
    App T 1 bytes #[z] s x H k := by
  have hlen := hv.len
  refine ⟨ws, hx, fun _ => by omega, fun hfit => ?_, fun hgrow => ?_⟩
  · rcases hv.own with ⟨h1, h2, h3⟩ | ⟨b, sp, h1, h2, h3⟩
    · rw [h1]
      have hw : ws = [] := List.eq_nil_of_length_eq_zero (by omega)
      subst hw h3
      refine hk _ H ⟨by simp at hxl; simp; omega, .inl ⟨rfl, by simpa using h2, rfl⟩, hfit⟩ (.refl _ _) (.inl ⟨h1.symm, hfit⟩) (Nat.le_refl _)
    · rw [h1]
      dsimp only
      rw [adr_add, Nat.mul_one]
      have hl : vs.length ≤ s.len := by omega
      refine StL_row h2 (by simp; omega) hone fun H' hU hs hr => ?_
      refine hk _ H' ⟨by simp; omega, .inr ⟨b, sp.drop ws.length, rfl, ?_, by simp; omega⟩, hfit⟩ (hU.mono fun b' _ e => ?_) (.inl ⟨h1.symm, hfit⟩) (by omega)
      · rw [hlen, Nat.add_zero, List.take_left, List.drop_append, List.drop_eq_nil_of_le (by omega), List.nil_append] at hr
        rw [show vs.length + ws.length - vs.length = ws.length by omega] at hr
        exact hr
      · obtain ⟨rfl, e⟩ := e; exact ⟨h1, hfit, e⟩
  · refine ⟨hb, ?_, vs, hv.rd, fun _ => by omega, fun c hc => ?_⟩
    · have := nextcap_le (s.len + x.len) s.cap hgrow
      refine Nat.le_trans (Nat.mul_le_mul_right bytes this) ?_
      rw [hlen, ← hxl]; exact hcap
    · have e : (⟨vs⟩ ++ ⟨ws⟩ ++ zcells #[z] ((c - (s.len + x.len)) * (#[z] : Array Value).size) : Array Value) = ⟨vs ++ ws ++ List.replicate (c - (s.len + x.len)) z⟩ := by
        rw [zcells_one]; apply Array.ext'; simp
      rw [e]
      refine hk _ _ ⟨by simp; omega, .inr ⟨H.size, List.replicate (c - (s.len + x.len)) z, rfl, get_push_new _ _, by simp; omega⟩, hc⟩ (Upd.push _ _ _) (.inr rfl) (by simp)
theorem App_vec {T : TypeId} {bytes : Nat} {z : Value} {s x : Sl} {H : Heap} {k : Sl → Heap → Prop} {vs ws : List Value} (hv : Vec H T s vs) (hx : rdL H x.a ws) (hxl : ws.length = x.len)
    (hone : ∀ w ∈ ws, w.oneCell' = true) (hb : bytes ≠ 0) (hcap : (vs.length + ws.length + (vs.length + ws.length) / 4 + 1000) * bytes ≤ 2 ^ 48)
    (hk : ∀ s' H', Vec H' T s' (vs ++ ws) → Upd (fun b => s.a = some (adr b) ∧ s.len + x.len ≤ s.cap ∧ ws ≠ []) H H' → (s'.a = s.a ∨ s'.a = some (adr H.size)) → H.size ≤ H'.size → k s' H') :
    App T 1 bytes #[z] s x H k :=
  App_vec2 hv hx hxl hone hb hcap fun s' H' h1 h2 h3 h4 => hk s' H' h1 h2 (h3.imp (·.1) id) h4
end Go.Proofs.YtfpmgpblhhcpgaaGreat.Hc
/-
  What a reading of an argument says of the heap.
-/
namespace Go.Proofs.YtfpmgpblhhcpgaaGreat.Hc
set_option linter.unusedVariables false
set_option linter.unusedSimpArgs false

def RdC (P : Program) (H : Heap) : Nat → TypeId → List Value → Prop
  | 0, _, _ => False
  | f + 1, t, cs => match P.underlying t with
    | some .bool => ∃ b, cs = [.bool b]
    | some (.int k) => ∃ n, cs = [.int k n] ∧ k.min ≤ n ∧ n ≤ k.max
    | some .string => ∃ s, cs = [.string s] ∧ s.size ≤ reachBytes
    | some (.pointer e) => cs = [.pointer none] ∨ ∃ a xs, cs = [.pointer (some a)] ∧ xs.length = P.cellsOf e ∧ hcells H a 0 xs ∧ RdC P H f e xs
    | some (.slice e) => cs = [.slice none 0 0] ∨ ∃ a len cap, cs = [.slice (some a) len cap] ∧ len ≤ cap ∧ (cap ≤ maxLen ∧ cap * P.bytesOf e ≤ reachBytes) ∧
        ∀ i, i < cap → ∃ xs, xs.length = P.cellsOf e ∧ hcells H (a.add (i * P.cellsOf e)) 0 xs ∧ RdC P H f e xs
    | some (.struct fs) => cs.length = P.cellsOf t ∧ ∀ g ∈ fs.toList, RdC P H f g.type ((cs.drop g.offset).take (P.cellsOf g.type))
    | some (.array n e) => cs.length = P.cellsOf t ∧ ∀ i, i < n → RdC P H f e ((cs.drop (i * P.cellsOf e)).take (P.cellsOf e))
    | _ => True

theorem mapM_some_get {α β : Type} {f : α → Option β} : ∀ {l : List α} {ys : List β}, l.mapM f = some ys → ys.length = l.length ∧ ∀ (i : Nat) (x : α), l[i]? = some x → ∃ y, ys[i]? = some y ∧ f x = some y
  | [], ys, h => by simp at h; subst h; exact ⟨rfl, fun i x hx => by simp at hx⟩
  | a :: l, ys, h => by
    simp only [List.mapM_cons, Option.bind_eq_bind, Option.bind_eq_some_iff] at h
    obtain ⟨y, hy, zs, hzs, he⟩ := h
    cases he
    obtain ⟨h1, h2⟩ := mapM_some_get hzs
    refine ⟨by simp [h1], fun i x hx => ?_⟩
    cases i with
    | zero => simp at hx; subst hx; exact ⟨y, rfl, hy⟩
    | succ i => exact h2 i x (by simpa using hx)
theorem weights_all {H : Type} {P : Program} {e : TypeId} : ∀ {ds : List (DataW H)} {d : DataW H}, d ∈ ds → ∀ n ∈ d.weights P e, n ∈ DataW.weightsAll P e ds
  | c :: r, d, h, n, hn => by
    rw [DataW.weightsAll, List.mem_append]
    rcases List.mem_cons.1 h with rfl | h
    · exact .inl hn
    · exact .inr (weights_all h n hn)
theorem mapM_range_hcells {w : World} {a : Addr} : ∀ {n i : Nat} {xs : List Value}, (List.range' i n).mapM (fun i => w.cell? (a.add i)) = some xs → xs.length = n ∧ hcells w.heap a i xs
  | 0, i, xs, h => by simp at h; subst h; exact ⟨rfl, trivial⟩
  | n + 1, i, xs, h => by
    simp only [List.range'_succ, List.mapM_cons, Option.bind_eq_bind, Option.bind_eq_some_iff] at h
    obtain ⟨y, hy, zs, hzs, he⟩ := h
    obtain ⟨h1, h2⟩ := mapM_range_hcells hzs
    cases he
    exact ⟨by simp [h1], hy, h2⟩
theorem cells?_hcells {w : World} {base : Nat} {a : Addr} {n : Nat} {xs : List Value} (h : w.cells? base a n = some xs) : xs.length = n ∧ hcells w.heap a 0 xs := by
  unfold World.cells? at h
  split at h
  · rw [List.range_eq_range'] at h; exact mapM_range_hcells h
  · cases h

theorem rd_of_trod {X : Type} {enc : TypeId × Value → X} {P : Program} {w : World} {base : Nat} {held : Bool} : ∀ {f : Nat} {t : TypeId} {cs : List Value} {d : DataW X} {ps : List MemPlace},
    DataW.trod enc P w base (fun _ => true) held f t cs = some (d, ps) → (∀ n ∈ d.weights P t, n ≤ reachBytes) → RdC P w.heap f t cs
  | 0, t, cs, d, ps, h, hwt => by simp [DataW.trod] at h
  | f + 1, t, cs, d, ps, h, hwt => by
    unfold DataW.trod at h
    unfold RdC
    split at h
    case h_1 b hu => rw [hu]; exact ⟨b, rfl⟩
    case h_2 k k' n hu =>
      rw [hu]
      split at h
      · rename_i hc
        obtain ⟨rfl, hw⟩ := hc
        simp only [Lit.wf, Bool.and_eq_true, decide_eq_true_eq] at hw
        exact ⟨n, rfl, hw.1, hw.2⟩
      · cases h
    case h_3 => rename_i hu; rw [hu]; trivial
    case h_4 s hu =>
      rw [hu]
      split at h
      · simp only [Option.some.injEq, Prod.mk.injEq] at h
        obtain ⟨rfl, rfl⟩ := h
        refine ⟨s, rfl, hwt _ ?_⟩
        simp [DataW.weights]
      · cases h
    case h_5 => rename_i hu; rw [hu]; exact .inl rfl
    case h_6 e a hu =>
      rw [hu]
      simp only [Option.map_eq_some_iff, Option.bind_eq_some_iff] at h
      obtain ⟨x, ⟨xs, hxs, hx⟩, hd⟩ := h
      obtain ⟨h1, h2⟩ := cells?_hcells hxs
      obtain ⟨d', ps'⟩ := x
      simp only [Prod.mk.injEq] at hd
      obtain ⟨rfl, _⟩ := hd
      refine .inr ⟨a, xs, rfl, h1, h2, rd_of_trod hx fun n hn => hwt n ?_⟩
      rw [DataW.weights, hu]; exact hn
    case h_7 => rename_i hu; rw [hu]; exact .inl rfl
    case h_8 e a len cap hu =>
      rw [hu]
      dsimp only at h
      split at h
      · rename_i hc
        obtain ⟨_, hlc, hcap⟩ := hc
        simp only [if_true, Option.bind_eq_some_iff, Option.map_eq_some_iff] at h
        obtain ⟨es, hes, rs, hrs, hd⟩ := h
        simp only [Option.some.injEq, Prod.mk.injEq] at hd
        obtain ⟨rfl, _⟩ := hd
        obtain ⟨l1, g1⟩ := mapM_some_get hes
        obtain ⟨l2, g2⟩ := mapM_some_get hrs
        simp only [DataW.weights, hu] at hwt
        refine .inr ⟨a, len, cap, rfl, hlc, ⟨hcap, ?_⟩, fun i hi => ?_⟩
        · have := hwt _ (List.mem_cons_self ..)
          simp only [List.length_map, l1, l2, List.length_range] at this
          rwa [show len + (cap - len) = cap by omega] at this
        have key : ∃ y : DataW X × List MemPlace, (w.cells? base (a.add (i * P.cellsOf e)) (P.cellsOf e)).bind (DataW.trod enc P w base (fun _ => true) held f e) = some y ∧ ∀ n ∈ y.1.weights P e, n ≤ reachBytes := by
          rcases Nat.lt_or_ge i len with hl | hl
          · obtain ⟨y, h1, h2⟩ := g1 i i (by simp [hl])
            refine ⟨y, h2, fun n hn => hwt n ?_⟩
            refine List.mem_cons_of_mem _ (List.mem_append_left _ (weights_all (List.mem_map.2 ⟨y, List.mem_of_getElem? h1, rfl⟩) n hn))
          · obtain ⟨y, h1, h2⟩ := g2 (i - len) (i - len) (by rw [List.getElem?_range (by omega)])
            rw [show len + (i - len) = i by omega] at h2
            refine ⟨y, h2, fun n hn => hwt n ?_⟩
            refine List.mem_cons_of_mem _ (List.mem_append_right _ (weights_all (List.mem_map.2 ⟨y, List.mem_of_getElem? h1, rfl⟩) n hn))
        obtain ⟨⟨d', ps'⟩, hy, hwy⟩ := key
        simp only [Option.bind_eq_some_iff] at hy
        obtain ⟨xs, hxs, hx⟩ := hy
        obtain ⟨h1, h2⟩ := cells?_hcells hxs
        exact ⟨xs, h1, h2, rd_of_trod hx hwy⟩
      · cases h
    case h_9 fs _ hu =>
      rw [hu]
      split at h
      · rename_i hl
        simp only [Option.map_eq_some_iff] at h
        obtain ⟨xs, hxs, hd⟩ := h
        simp only [Prod.mk.injEq] at hd
        obtain ⟨rfl, _⟩ := hd
        obtain ⟨l1, g1⟩ := mapM_some_get hxs
        simp only [DataW.weights, hu] at hwt
        refine ⟨hl, fun g hg => ?_⟩
        obtain ⟨i, hi, hgi⟩ := List.getElem_of_mem hg
        obtain ⟨y, hy1, hy⟩ := g1 i g (by rw [List.getElem?_eq_getElem hi, hgi])
        obtain ⟨d', ps'⟩ := y
        exact rd_of_trod hy fun n hn => hwt n (DataW.weights_mem_each (j := i) (by rw [List.getElem?_map, List.getElem?_eq_getElem hi, hgi]; rfl) (by rw [List.getElem?_map, hy1]; rfl) n hn)
      · cases h
    case h_10 n e _ hu =>
      rw [hu]
      split at h
      · rename_i hl
        simp only [Option.map_eq_some_iff] at h
        obtain ⟨xs, hxs, hd⟩ := h
        simp only [Prod.mk.injEq] at hd
        obtain ⟨rfl, _⟩ := hd
        obtain ⟨l1, g1⟩ := mapM_some_get hxs
        simp only [DataW.weights, hu] at hwt
        refine ⟨hl, fun i hi => ?_⟩
        obtain ⟨⟨d', ps'⟩, hy1, hy⟩ := g1 i i (by rw [List.getElem?_range hi])
        exact rd_of_trod hy fun n hn => hwt n (weights_all (List.mem_map.2 ⟨_, List.mem_of_getElem? hy1, rfl⟩) n hn)
      · cases h
    all_goals first
      | (rename_i hu; rw [hu]; trivial)
      | (rename_i hu _; rw [hu]; trivial)
      | (rename_i hu _ _; rw [hu]; trivial)
      | (cases h; done)
end Go.Proofs.YtfpmgpblhhcpgaaGreat.Hc
/-
  From a law's condition to what its row asks of the walk.
-/
namespace Go.Proofs.YtfpmgpblhhcpgaaGreat.Hc
set_option linter.unusedVariables false
set_option linter.unusedSimpArgs false
open Go.RowKit

/-- An argument as it can be read. -/
def RdV (P : Program) (H : Heap) (t : TypeId) (v : Value) : Prop :=
  ∃ f, RdC P H f t v.cells.toList ∧ (match P.underlying t with
    | some (.struct _) => ∃ cs, v = .agg cs
    | some (.array _ _) => ∃ cs, v = .agg cs
    | _ => v.cells = #[v])

theorem cells_of_ok {P : Program} {w : World} {r : Reach} {base : Nat} {t : TypeId} {v : Value} (h : Cell.okWide P w r base t v) : v.cells = #[v] := by
  cases v with
  | agg cs =>
    unfold Cell.okWide at h
    split at h <;> first
      | (rename_i hv; cases hv; done)
      | (rename_i hu hv; cases hv; done)
      | (unfold Cell.ok at h; (repeat' split at h) <;> first | (rename_i hv; cases hv; done) | (simp_all; done) | exact h.elim)
  | _ => rfl

theorem rdV_of {X : Type} {enc : TypeId × Value → X} {P : Program} {w : World} {t : TypeId} {v : Value} {d : DataW X} {ps : List MemPlace} {b base : Nat} {r : Reach}
    (h : DataW.Trod enc P w b (fun _ => true) true t v d ps) (ho : Value.okWide P w r base t v) (hw : ∀ n ∈ d.weights P t, n ≤ reachBytes) : RdV P w.heap t v := by
  obtain ⟨f, hf⟩ := h
  refine ⟨f, rd_of_trod hf hw, ?_⟩
  unfold Value.okWide at ho
  split
  · rename_i fs hu; rw [hu] at ho; obtain ⟨cs, rfl, _⟩ := ho; exact ⟨cs, rfl⟩
  · rename_i n e hu; rw [hu] at ho; obtain ⟨cs, rfl, _⟩ := ho; exact ⟨cs, rfl⟩
  · rename_i h1 h2
    split at ho
    · rename_i fs hu; exact absurd hu (h1 fs)
    · rename_i n e hu; exact absurd hu (h2 n e)
    · exact cells_of_ok ho

/-- What the form's own reach says of one argument. -/
theorem reach_at {X : Type} {P : Program} {ts : List TypeId} {ds : List (DataW X)} (h : (DataW.weightsEach P ts ds).all (· ≤ reachBytes) = true) {j : Nat} {t : TypeId} {d : DataW X} (ht : ts[j]? = some t) (hd : ds[j]? = some d) :
    ∀ n ∈ d.weights P t, n ≤ reachBytes := fun n hn => of_decide_eq_true (List.all_eq_true.1 h n (DataW.weights_mem_each ht hd n hn))

theorem below_of_ext {w w' : World} (he : SameEnv w w') (h : Ext w.heap w'.heap) : Below w.heap.size w w' :=
  ⟨he.os, he.tape, he.output, h.size, fun b hb => h.get b hb (fun h => h)⟩
theorem calls_of_law {P : Program} {f : FuncId} {args : List Value} {W : World} (h : CallT P f args (.one (.c .bool)) W.heap (fun b H' => b = true ∧ Ext W.heap H')) :
    Calls P f ⟨args⟩ W fun e W' => e = .returned (.bool true) ∧ Below W.heap.size W W' :=
  (h.2 W rfl).mono fun e w' ⟨he, d, h1, h2, h3⟩ => ⟨by rw [h1, h2]; rfl, below_of_ext he h3⟩
/-- An argument that is an integer. -/
theorem rd_int {P : Program} {t : TypeId} {k : IntKind} (hu : P.underlying t = some (.int k)) {H : Heap} {v : Value} (h : RdV P H t v) : ∃ n, v = .int k n ∧ k.min ≤ n ∧ n ≤ k.max := by
  obtain ⟨f, hr, hv⟩ := h
  cases f with
  | zero => exact hr.elim
  | succ f =>
    simp only [RdC, hu] at hr hv
    obtain ⟨n, hn, h0, h1⟩ := hr
    rw [hv] at hn
    simp only [List.cons.injEq, and_true] at hn
    exact ⟨n, hn, h0, h1⟩

theorem i64_of {n : Int} (h : IntKind.i64.min ≤ n ∧ n ≤ IntKind.i64.max) : I64 n := by
  have e0 : IntKind.i64.min = -9223372036854775808 := by decide
  have e1 : IntKind.i64.max = 9223372036854775807 := by decide
  rw [e0, e1] at h
  unfold I64; omega
theorem rd_i64 {P : Program} {t : TypeId} (hu : P.underlying t = some (.int .i64)) {H : Heap} {v : Value} (h : RdV P H t v) : ∃ n, v = .int .i64 n ∧ I64 n := by
  obtain ⟨n, hn, h⟩ := rd_int hu h
  exact ⟨n, hn, i64_of h⟩
/-- A cell that is an int64. -/
theorem rdC_i64 {P : Program} {t : TypeId} (hu : P.underlying t = some (.int .i64)) {H : Heap} {f : Nat} {cs : List Value} (h : RdC P H f t cs) : ∃ n, cs = [.int .i64 n] ∧ I64 n := by
  cases f with
  | zero => exact h.elim
  | succ f =>
    simp only [RdC, hu] at h
    obtain ⟨n, hn, h⟩ := h
    exact ⟨n, hn, i64_of h⟩
theorem rdC_struct {P : Program} {t : TypeId} {fs : Array Field} (hu : P.underlying t = some (.struct fs)) {H : Heap} {f : Nat} {cs : List Value} (h : RdC P H f t cs) :
    ∃ f', cs.length = P.cellsOf t ∧ ∀ g ∈ fs.toList, RdC P H f' g.type ((cs.drop g.offset).take (P.cellsOf g.type)) := by
  cases f with
  | zero => exact h.elim
  | succ f => simp only [RdC, hu] at h; exact ⟨f, h⟩
theorem rdC_slice {P : Program} {t e : TypeId} (hu : P.underlying t = some (.slice e)) {H : Heap} {f : Nat} {cs : List Value} (h : RdC P H f t cs) :
    ∃ f', cs = [.slice none 0 0] ∨ ∃ a len cap, cs = [.slice (some a) len cap] ∧ len ≤ cap ∧ (cap ≤ maxLen ∧ cap * P.bytesOf e ≤ reachBytes) ∧
        ∀ i, i < cap → ∃ xs, xs.length = P.cellsOf e ∧ hcells H (a.add (i * P.cellsOf e)) 0 xs ∧ RdC P H f' e xs := by
  cases f with
  | zero => exact h.elim
  | succ f => simp only [RdC, hu] at h; exact ⟨f, h⟩
theorem rdC_array {P : Program} {t e : TypeId} {n : Nat} (hu : P.underlying t = some (.array n e)) {H : Heap} {f : Nat} {cs : List Value} (h : RdC P H f t cs) :
    ∃ f', cs.length = P.cellsOf t ∧ ∀ i, i < n → RdC P H f' e ((cs.drop (i * P.cellsOf e)).take (P.cellsOf e)) := by
  cases f with
  | zero => exact h.elim
  | succ f => simp only [RdC, hu] at h; exact ⟨f, h⟩
theorem rd_struct {P : Program} {t : TypeId} {fs : Array Field} (hu : P.underlying t = some (.struct fs)) {H : Heap} {v : Value} (h : RdV P H t v) :
    ∃ f cs, v = .agg ⟨cs⟩ ∧ RdC P H f t cs := by
  obtain ⟨f, hr, hv⟩ := h
  simp only [hu] at hv
  obtain ⟨⟨cs⟩, rfl⟩ := hv
  exact ⟨f, cs, rfl, hr⟩
theorem rd_cell {P : Program} {t : TypeId} {d : TypeDesc} (hu : P.underlying t = some d) (hd : (match d with | .struct _ => false | .array _ _ => false | _ => true) = true) {H : Heap} {v : Value} (h : RdV P H t v) :
    ∃ f, RdC P H f t [v] := by
  obtain ⟨f, hr, hv⟩ := h
  rw [hu] at hv
  have : v.cells = #[v] := by cases d <;> first | exact hv | cases hd
  rw [this] at hr
  exact ⟨f, hr⟩
end Go.Proofs.YtfpmgpblhhcpgaaGreat.Hc
