/-
  Machine: outcomes, told plainly; are two one?
-/
import Derived.Test.YtfpmgpblhhcpgaaGreatHcLaw
import Derived.Test.YtfpmgpblhhcpgaaGreatHcFun
import Derived.KernelRfl
import Derived.Test.YtfpmgpblhhcpgaaGreatProg
import Derived.Test.YtfpmgpblhhcpgaaGreatOE
namespace Go.Proofs.YtfpmgpblhhcpgaaGreat
set_option linter.unusedVariables false
set_option linter.unusedSimpArgs false
open Go.Proofs.YtfpmgpblhhcpgaaGreat.Hc
abbrev f_hindcastlaw16_MachineInputs : FuncId := 5
abbrev f_hindcastlaw16_same : FuncId := 15
abbrev f_hindcastlaw16_parts : FuncId := 36
abbrev f_hindcastlaw16_numbers : FuncId := 37
/-- hindcast/hindcastlaw16.same -/
def v_hindcastlaw16_same (a_ : Sl × Sl × Sl × Int × Int) (b_ : Sl × Sl × Sl × Int × Int) (H : Heap) (k : Bool → Heap → Prop) : Prop :=
    Nw #[.slice a_.1.a a_.1.len a_.1.cap, .slice a_.2.1.a a_.2.1.len a_.2.1.cap, .slice a_.2.2.1.a a_.2.2.1.len a_.2.2.1.cap, .int .i64 a_.2.2.2.1, .int .i64 a_.2.2.2.2] T_api_Outcome H fun b1 H1 =>
    Nw #[.slice b_.1.a b_.1.len b_.1.cap, .slice b_.2.1.a b_.2.1.len b_.2.1.cap, .slice b_.2.2.1.a b_.2.2.1.len b_.2.2.1.cap, .int .i64 b_.2.2.2.1, .int .i64 b_.2.2.2.2] T_api_Outcome H1 fun b2 H2 =>
    Ld .sl (adr b1) H2 fun (x1 : Sl) =>
    Ld .sl (adr b2) H2 fun (x2 : Sl) =>
    CallT Pg f_hindcastlaw16_parts [.slice x1.a x1.len x1.cap, .slice x2.a x2.len x2.cap] (.one (.c .bool)) H2 fun (r1 : Bool) H3 =>
    Jn (σ := Bool) /-  -/ (fun kk1 =>
      Br (!r1) (
        kk1 true H3) (
        Ld (.int .i64) ((adr b1).add 3) H3 fun (x3 : Int) =>
        Ld (.int .i64) ((adr b2).add 3) H3 fun (x4 : Int) =>
        Br (x3 != x4) (
          kk1 true H3) (
          Ld (.int .i64) ((adr b1).add 4) H3 fun (x5 : Int) =>
          Ld (.int .i64) ((adr b2).add 4) H3 fun (x6 : Int) =>
          Br (x5 != x6) (
            kk1 true H3) (
            Ld .sl ((adr b1).add 1) H3 fun (x7 : Sl) =>
            Ld .sl ((adr b2).add 1) H3 fun (x8 : Sl) =>
            Br ((x7.len : Int) != (x8.len : Int)) (
              kk1 true H3) (
              Ld .sl ((adr b1).add 2) H3 fun (x9 : Sl) =>
              Ld .sl ((adr b2).add 2) H3 fun (x10 : Sl) =>
              kk1 ((x9.len : Int) != (x10.len : Int)) H3))))) fun j1 H4 =>
    Br j1 (
      k false H4) (
      LoopT (σ := Int) /- i -/ (fun next1 s1 H5 =>
        Ld .sl ((adr b1).add 1) H5 fun (x11 : Sl) =>
        Br (decide (s1 < (x11.len : Int))) (
          Ld .sl ((adr b1).add 1) H5 fun (x12 : Sl) =>
          IxA 6 x12 s1 fun a1 =>
          LdC [(.int .i64), (.int .i64), (.int .i64), (.int .i64), .sl, .sl] a1 H5 fun (c1 : Int × Int × Int × Int × Sl × Sl) =>
          Nw #[.int .i64 0, .int .i64 0, .int .i64 0, .int .i64 0, .slice none 0 0, .slice none 0 0] T_api_Command H5 fun b3 H6 =>
          St ((adr b3).add 0) (.int .i64 c1.1) H6 fun H7 =>
          St ((adr b3).add 1) (.int .i64 c1.2.1) H7 fun H8 =>
          St ((adr b3).add 2) (.int .i64 c1.2.2.1) H8 fun H9 =>
          St ((adr b3).add 3) (.int .i64 c1.2.2.2.1) H9 fun H10 =>
          St ((adr b3).add 4) (.slice c1.2.2.2.2.1.a c1.2.2.2.2.1.len c1.2.2.2.2.1.cap) H10 fun H11 =>
          St ((adr b3).add 5) (.slice c1.2.2.2.2.2.a c1.2.2.2.2.2.len c1.2.2.2.2.2.cap) H11 fun H12 =>
          Ld .sl ((adr b2).add 1) H12 fun (x13 : Sl) =>
          IxA 6 x13 s1 fun a2 =>
          LdC [(.int .i64), (.int .i64), (.int .i64), (.int .i64), .sl, .sl] a2 H12 fun (c2 : Int × Int × Int × Int × Sl × Sl) =>
          Nw #[.int .i64 0, .int .i64 0, .int .i64 0, .int .i64 0, .slice none 0 0, .slice none 0 0] T_api_Command H12 fun b4 H13 =>
          St ((adr b4).add 0) (.int .i64 c2.1) H13 fun H14 =>
          St ((adr b4).add 1) (.int .i64 c2.2.1) H14 fun H15 =>
          St ((adr b4).add 2) (.int .i64 c2.2.2.1) H15 fun H16 =>
          St ((adr b4).add 3) (.int .i64 c2.2.2.2.1) H16 fun H17 =>
          St ((adr b4).add 4) (.slice c2.2.2.2.2.1.a c2.2.2.2.2.1.len c2.2.2.2.2.1.cap) H17 fun H18 =>
          St ((adr b4).add 5) (.slice c2.2.2.2.2.2.a c2.2.2.2.2.2.len c2.2.2.2.2.2.cap) H18 fun H19 =>
          Ld .sl ((adr b3).add 4) H19 fun (x14 : Sl) =>
          Ld .sl ((adr b4).add 4) H19 fun (x15 : Sl) =>
          CallT Pg f_hindcastlaw16_numbers [.slice x14.a x14.len x14.cap, .slice x15.a x15.len x15.cap] (.one (.c .bool)) H19 fun (r2 : Bool) H20 =>
          Ld .sl ((adr b3).add 5) H20 fun (x16 : Sl) =>
          Ld .sl ((adr b4).add 5) H20 fun (x17 : Sl) =>
          CallT Pg f_hindcastlaw16_parts [.slice x16.a x16.len x16.cap, .slice x17.a x17.len x17.cap] (.one (.c .bool)) H20 fun (r3 : Bool) H21 =>
          Jn (σ := Bool) /-  -/ (fun kk2 =>
            Br (!r2) (
              kk2 true H21) (
              Br (!r3) (
                kk2 true H21) (
                Ld (.int .i64) (adr b3) H21 fun (x18 : Int) =>
                Ld (.int .i64) (adr b4) H21 fun (x19 : Int) =>
                Br (x18 != x19) (
                  kk2 true H21) (
                  LdC [(.int .i64), (.int .i64)] ((adr b3).add 1) H21 fun (c3 : Int × Int) =>
                  LdC [(.int .i64), (.int .i64)] ((adr b4).add 1) H21 fun (c4 : Int × Int) =>
                  Br (!(eqL [(.int .i64), (.int .i64)] (c3.1, c3.2) (c4.1, c4.2))) (
                    kk2 true H21) (
                    Ld (.int .i64) ((adr b3).add 3) H21 fun (x20 : Int) =>
                    Ld (.int .i64) ((adr b4).add 3) H21 fun (x21 : Int) =>
                    kk2 (x20 != x21) H21))))) fun j2 H22 =>
          Br j2 (
            k false H22) (
            Lt (IntKind.wrap .i64 (s1 + 1)) fun t1 =>
            next1 t1 H22)) (
          LoopT (σ := Int) /- i -/ (fun next2 s2 H23 =>
            Ld .sl ((adr b1).add 2) H23 fun (x22 : Sl) =>
            Br (decide (s2 < (x22.len : Int))) (
              Ld .sl ((adr b1).add 2) H23 fun (x23 : Sl) =>
              IxA 5 x23 s2 fun a3 =>
              LdC [(.int .i64), (.int .i64), (.int .i64), (.int .i64), (.int .i64)] a3 H23 fun (c5 : Int × Int × Int × Int × Int) =>
              Ld .sl ((adr b2).add 2) H23 fun (x24 : Sl) =>
              IxA 5 x24 s2 fun a4 =>
              LdC [(.int .i64), (.int .i64), (.int .i64), (.int .i64), (.int .i64)] a4 H23 fun (c6 : Int × Int × Int × Int × Int) =>
              Br (!(eqL [(.int .i64), (.int .i64), (.int .i64), (.int .i64), (.int .i64)] (c5.1, c5.2.1, c5.2.2.1, c5.2.2.2.1, c5.2.2.2.2) (c6.1, c6.2.1, c6.2.2.1, c6.2.2.2.1, c6.2.2.2.2))) (
                k false H23) (
                Lt (IntKind.wrap .i64 (s2 + 1)) fun t2 =>
                next2 t2 H23)) (
              k true H23)) 0 H5)) 0 H4)
def h_hindcastlaw16_same : Hint := (.two .no (.two .no (.two (.two (.join [(50, (.c .bool))] .no) .no) (.two (.two .no (.one (.loop [(6, (.c (.int .i64)))] (.two .no (.two (.one (.two .no (.two .no (.two .no (.two .no (.two (.join [(104, (.c .bool))] .no) .no)))))) .no))))) (.two (.two .no (.one (.loop [(11, (.c (.int .i64)))] .no))) .no)))))
theorem e_hindcastlaw16_same (a_ : Sl × Sl × Sl × Int × Int) (b_ : Sl × Sl × Sl × Int × Int) (H : Heap) (k : Bool → Heap → Prop) : EFun Pg Tryz.f15 h_hindcastlaw16_same [.agg #[.slice a_.1.a a_.1.len a_.1.cap, .slice a_.2.1.a a_.2.1.len a_.2.1.cap, .slice a_.2.2.1.a a_.2.2.1.len a_.2.2.1.cap, .int .i64 a_.2.2.2.1, .int .i64 a_.2.2.2.2], .agg #[.slice b_.1.a b_.1.len b_.1.cap, .slice b_.2.1.a b_.2.1.len b_.2.1.cap, .slice b_.2.2.1.a b_.2.2.1.len b_.2.2.1.cap, .int .i64 b_.2.2.2.1, .int .i64 b_.2.2.2.2]] (.one (.c .bool)) H k = v_hindcastlaw16_same a_ b_ H k := by kernel_rfl
theorem c_hindcastlaw16_same (a_ : Sl × Sl × Sl × Int × Int) (b_ : Sl × Sl × Sl × Int × Int) {H : Heap} {k : Bool → Heap → Prop} (h : v_hindcastlaw16_same a_ b_ H k) : CallT Pg f_hindcastlaw16_same [.agg #[.slice a_.1.a a_.1.len a_.1.cap, .slice a_.2.1.a a_.2.1.len a_.2.1.cap, .slice a_.2.2.1.a a_.2.2.1.len a_.2.2.1.cap, .int .i64 a_.2.2.2.1, .int .i64 a_.2.2.2.2], .agg #[.slice b_.1.a b_.1.len b_.1.cap, .slice b_.2.1.a b_.2.1.len b_.2.1.cap, .slice b_.2.2.1.a b_.2.2.1.len b_.2.2.1.cap, .int .i64 b_.2.2.2.1, .int .i64 b_.2.2.2.2]] (.one (.c .bool)) H k :=
  call_of_E Pg_mixed Tryz.func15 (by kernel_rfl) (by kernel_rfl) (by kernel_rfl) (by kernel_rfl) ((e_hindcastlaw16_same a_ b_ H k).symm ▸ h)
/-- hindcast/hindcastlaw16.parts -/
def v_hindcastlaw16_parts (a_ : Sl) (b_ : Sl) (H : Heap) (k : Bool → Heap → Prop) : Prop :=
    Br ((a_.len : Int) != (b_.len : Int)) (
      k false H) (
      LoopT (σ := Int) /- i -/ (fun next1 s1 H1 =>
        Br (decide (s1 < (a_.len : Int))) (
          IxA 2 a_ s1 fun a1 =>
          Ld .sl (a1.add 1) H1 fun (x1 : Sl) =>
          IxA 2 b_ s1 fun a2 =>
          Ld .sl (a2.add 1) H1 fun (x2 : Sl) =>
          CallT Pg f_hindcastlaw16_numbers [.slice x1.a x1.len x1.cap, .slice x2.a x2.len x2.cap] (.one (.c .bool)) H1 fun (r1 : Bool) H2 =>
          Jn (σ := Bool) /-  -/ (fun kk1 =>
            Br (!r1) (
              kk1 true H2) (
              IxA 2 a_ s1 fun a3 =>
              Ld (.int .i64) a3 H2 fun (x3 : Int) =>
              IxA 2 b_ s1 fun a4 =>
              Ld (.int .i64) a4 H2 fun (x4 : Int) =>
              kk1 (x3 != x4) H2)) fun j1 H3 =>
          Br j1 (
            k false H3) (
            Lt (IntKind.wrap .i64 (s1 + 1)) fun t1 =>
            next1 t1 H3)) (
          k true H1)) 0 H)
def h_hindcastlaw16_parts : Hint := (.two .no (.two .no (.two (.two .no (.one (.loop [(5, (.c (.int .i64)))] (.two .no (.two (.one (.two .no (.two (.join [(43, (.c .bool))] .no) .no))) .no))))) .no)))
theorem e_hindcastlaw16_parts (a_ : Sl) (b_ : Sl) (H : Heap) (k : Bool → Heap → Prop) : EFun Pg Tryz.f36 h_hindcastlaw16_parts [.slice a_.a a_.len a_.cap, .slice b_.a b_.len b_.cap] (.one (.c .bool)) H k = v_hindcastlaw16_parts a_ b_ H k := by kernel_rfl
theorem c_hindcastlaw16_parts (a_ : Sl) (b_ : Sl) {H : Heap} {k : Bool → Heap → Prop} (h : v_hindcastlaw16_parts a_ b_ H k) : CallT Pg f_hindcastlaw16_parts [.slice a_.a a_.len a_.cap, .slice b_.a b_.len b_.cap] (.one (.c .bool)) H k :=
  call_of_E Pg_mixed Tryz.func36 (by kernel_rfl) (by kernel_rfl) (by kernel_rfl) (by kernel_rfl) ((e_hindcastlaw16_parts a_ b_ H k).symm ▸ h)
/-- hindcast/hindcastlaw16.numbers -/
def v_hindcastlaw16_numbers (a_ : Sl) (b_ : Sl) (H : Heap) (k : Bool → Heap → Prop) : Prop :=
    Br ((a_.len : Int) != (b_.len : Int)) (
      k false H) (
      LoopT (σ := Int) /- i -/ (fun next1 s1 H1 =>
        Br (decide (s1 < (a_.len : Int))) (
          IxA 1 a_ s1 fun a1 =>
          Ld (.int .i64) a1 H1 fun (x1 : Int) =>
          IxA 1 b_ s1 fun a2 =>
          Ld (.int .i64) a2 H1 fun (x2 : Int) =>
          Br (x1 != x2) (
            k false H1) (
            Lt (IntKind.wrap .i64 (s1 + 1)) fun t1 =>
            next1 t1 H1)) (
          k true H1)) 0 H)
def h_hindcastlaw16_numbers : Hint := (.two .no (.two .no (.two (.two .no (.one (.loop [(5, (.c (.int .i64)))] .no))) .no)))
theorem e_hindcastlaw16_numbers (a_ : Sl) (b_ : Sl) (H : Heap) (k : Bool → Heap → Prop) : EFun Pg Tryz.f37 h_hindcastlaw16_numbers [.slice a_.a a_.len a_.cap, .slice b_.a b_.len b_.cap] (.one (.c .bool)) H k = v_hindcastlaw16_numbers a_ b_ H k := by kernel_rfl
theorem c_hindcastlaw16_numbers (a_ : Sl) (b_ : Sl) {H : Heap} {k : Bool → Heap → Prop} (h : v_hindcastlaw16_numbers a_ b_ H k) : CallT Pg f_hindcastlaw16_numbers [.slice a_.a a_.len a_.cap, .slice b_.a b_.len b_.cap] (.one (.c .bool)) H k :=
  call_of_E Pg_mixed Tryz.func37 (by kernel_rfl) (by kernel_rfl) (by kernel_rfl) (by kernel_rfl) ((e_hindcastlaw16_numbers a_ b_ H k).symm ▸ h)
def v_hindcastlaw16_MachineInputs_a0 (b2 : Nat) (H16 : Heap) (other_ : Int) (k : Bool → Heap → Prop) (b3 : Nat) (b1 : Nat) (system_ : Int) (r1 : Bool) : Prop :=
    LdC [(.int .i64), (.int .i64), (.int .i64), .sl, (.int .i64), (.int .i64), .sl] (adr b2) H16 fun (c5 : Int × Int × Int × Sl × Int × Int × Sl) =>
    CallT Pg f_hindcastlaw16_copied [.agg #[.int .i64 c5.1, .int .i64 c5.2.1, .int .i64 c5.2.2.1, .slice c5.2.2.2.1.a c5.2.2.2.1.len c5.2.2.2.1.cap, .int .i64 c5.2.2.2.2.1, .int .i64 c5.2.2.2.2.2.1, .slice c5.2.2.2.2.2.2.a c5.2.2.2.2.2.2.len c5.2.2.2.2.2.2.cap]] (.one (.agg [(.int .i64), (.int .i64), (.int .i64), .sl, (.int .i64), (.int .i64), .sl])) H16 fun (r6 : Int × Int × Int × Sl × Int × Int × Sl) H17 =>
    Nw #[.int .i64 0, .int .i64 0, .int .i64 0, .slice none 0 0, .int .i64 0, .int .i64 0, .slice none 0 0] T_api_Env H17 fun b4 H18 =>
    St ((adr b4).add 0) (.int .i64 r6.1) H18 fun H19 =>
    St ((adr b4).add 1) (.int .i64 r6.2.1) H19 fun H20 =>
    St ((adr b4).add 2) (.int .i64 r6.2.2.1) H20 fun H21 =>
    St ((adr b4).add 3) (.slice r6.2.2.2.1.a r6.2.2.2.1.len r6.2.2.2.1.cap) H21 fun H22 =>
    St ((adr b4).add 4) (.int .i64 r6.2.2.2.2.1) H22 fun H23 =>
    St ((adr b4).add 5) (.int .i64 r6.2.2.2.2.2.1) H23 fun H24 =>
    St ((adr b4).add 6) (.slice r6.2.2.2.2.2.2.a r6.2.2.2.2.2.2.len r6.2.2.2.2.2.2.cap) H24 fun H25 =>
    St ((adr b4).add 3) (.slice none 0 0) H25 fun H26 =>
    St ((adr b4).add 2) (.int .i64 other_) H26 fun H27 =>
    LoopT (σ := Int) /- i -/ (fun next1 s1 H28 =>
      Ld .sl ((adr b2).add 3) H28 fun (x3 : Sl) =>
      Br (decide (s1 < (x3.len : Int))) (
        Jn (σ := Unit) /-  -/ (fun kk3 =>
          Lt (IntKind.wrap .i64 (s1 + 1)) fun t1 =>
          LoopT (σ := Bool × Int) /- later, k -/ (fun next2 s2 H30 =>
            Ld .sl ((adr b2).add 3) H30 fun (x4 : Sl) =>
            Br (decide (s2.2 < (x4.len : Int))) (
              Jn (σ := Bool) /- later -/ (fun kk4 =>
                Br s2.1 (
                  kk4 true H30) (
                  Ld .sl ((adr b2).add 3) H30 fun (x5 : Sl) =>
                  IxA 3 x5 s2.2 fun a1 =>
                  Ld (.int .i64) a1 H30 fun (x6 : Int) =>
                  Ld .sl ((adr b2).add 3) H30 fun (x7 : Sl) =>
                  IxA 3 x7 s1 fun a2 =>
                  Ld (.int .i64) a2 H30 fun (x8 : Int) =>
                  Br (x6 == x8) (
                    Ld .sl ((adr b2).add 3) H30 fun (x9 : Sl) =>
                    IxA 3 x9 s2.2 fun a3 =>
                    Ld (.int .i64) (a3.add 1) H30 fun (x10 : Int) =>
                    Ld .sl ((adr b2).add 3) H30 fun (x11 : Sl) =>
                    IxA 3 x11 s1 fun a4 =>
                    Ld (.int .i64) (a4.add 1) H30 fun (x12 : Int) =>
                    kk4 (x10 == x12) H30) (
                    kk4 false H30))) fun j4 H31 =>
              Lt (IntKind.wrap .i64 (s2.2 + 1)) fun t2 =>
              next2 (j4, t2) H31) (
              Jn (σ := Unit) /-  -/ (fun kk5 =>
                Br (!s2.1) (
                  Ld .sl ((adr b4).add 3) H30 fun (x13 : Sl) =>
                  Ld .sl ((adr b2).add 3) H30 fun (x14 : Sl) =>
                  IxA 3 x14 s1 fun a5 =>
                  LdC [(.int .i64), (.int .i64), (.int .i64)] a5 H30 fun (c6 : Int × Int × Int) =>
                  Nw #[.int .i64 c6.1, .int .i64 c6.2.1, .int .i64 c6.2.2] T_api_Input H30 fun b5 H33 =>
                  Stab [((adr b2).add 3, .slice x14.a x14.len x14.cap), ((adr b4).add 3, .slice x13.a x13.len x13.cap)] H33 <|
                  App T_api_Input 3 24 #[.int .i64 0, .int .i64 0, .int .i64 0] x13 ⟨some (adr b5), 1, 1⟩ H33 fun l2 H34 =>
                  Stab [(a5.add 0, .int .i64 c6.1), (a5.add 1, .int .i64 c6.2.1), (a5.add 2, .int .i64 c6.2.2), ((adr b2).add 3, .slice x14.a x14.len x14.cap)] H34 <|
                  St ((adr b4).add 3) (.slice l2.a l2.len l2.cap) H34 fun H35 =>
                  kk5 () H35) (
                  kk5 () H30)) fun j5 H32 =>
              kk3 () H32)) (false, t1) H28) fun j3 H29 =>
        Lt (IntKind.wrap .i64 (s1 + 1)) fun t3 =>
        next1 t3 H29) (
        LdC [.sl, .sl, .sl, (.int .i64), (.int .i64)] (adr b3) H28 fun (c7 : Sl × Sl × Sl × Int × Int) =>
        LdC [.sl, .sl] (adr b1) H28 fun (c8 : Sl × Sl) =>
        LdC [(.int .i64), (.int .i64), (.int .i64), .sl, (.int .i64), (.int .i64), .sl] (adr b4) H28 fun (c9 : Int × Int × Int × Sl × Int × Int × Sl) =>
        CallT Pg f_machine_Run [.agg #[.slice c8.1.a c8.1.len c8.1.cap, .slice c8.2.a c8.2.len c8.2.cap], .int .i64 system_, .agg #[.int .i64 c9.1, .int .i64 c9.2.1, .int .i64 c9.2.2.1, .slice c9.2.2.2.1.a c9.2.2.2.1.len c9.2.2.2.1.cap, .int .i64 c9.2.2.2.2.1, .int .i64 c9.2.2.2.2.2.1, .slice c9.2.2.2.2.2.2.a c9.2.2.2.2.2.2.len c9.2.2.2.2.2.2.cap]] (.one (.agg [.sl, .sl, .sl, (.int .i64), (.int .i64)])) H28 fun (r7 : Sl × Sl × Sl × Int × Int) H36 =>
        Stab [((adr b3).add 0, .slice c7.1.a c7.1.len c7.1.cap), ((adr b3).add 1, .slice c7.2.1.a c7.2.1.len c7.2.1.cap), ((adr b3).add 2, .slice c7.2.2.1.a c7.2.2.1.len c7.2.2.1.cap), ((adr b3).add 3, .int .i64 c7.2.2.2.1), ((adr b3).add 4, .int .i64 c7.2.2.2.2)] H36 <|
        CallT Pg f_hindcastlaw16_same [.agg #[.slice c7.1.a c7.1.len c7.1.cap, .slice c7.2.1.a c7.2.1.len c7.2.1.cap, .slice c7.2.2.1.a c7.2.2.1.len c7.2.2.1.cap, .int .i64 c7.2.2.2.1, .int .i64 c7.2.2.2.2], .agg #[.slice r7.1.a r7.1.len r7.1.cap, .slice r7.2.1.a r7.2.1.len r7.2.1.cap, .slice r7.2.2.1.a r7.2.2.1.len r7.2.2.1.cap, .int .i64 r7.2.2.2.1, .int .i64 r7.2.2.2.2]] (.one (.c .bool)) H36 fun (r8 : Bool) H37 =>
        Stab [((adr b4).add 0, .int .i64 c9.1), ((adr b4).add 1, .int .i64 c9.2.1), ((adr b4).add 2, .int .i64 c9.2.2.1), ((adr b4).add 3, .slice c9.2.2.2.1.a c9.2.2.2.1.len c9.2.2.2.1.cap), ((adr b4).add 4, .int .i64 c9.2.2.2.2.1), ((adr b4).add 5, .int .i64 c9.2.2.2.2.2.1), ((adr b4).add 6, .slice c9.2.2.2.2.2.2.a c9.2.2.2.2.2.2.len c9.2.2.2.2.2.2.cap), ((adr b1).add 0, .slice c8.1.a c8.1.len c8.1.cap), ((adr b1).add 1, .slice c8.2.a c8.2.len c8.2.cap)] H37 <|
        Jn (σ := Bool) /-  -/ (fun kk6 =>
          Br r1 (
            kk6 r8 H37) (
            kk6 false H37)) fun j6 H38 =>
        k j6 H38)) 0 H27
/-- hindcast/hindcastlaw16.MachineInputs -/
def v_hindcastlaw16_MachineInputs (p_ : Sl × Sl) (system_ : Int) (e_ : Int × Int × Int × Sl × Int × Int × Sl) (other_ : Int) (H : Heap) (k : Bool → Heap → Prop) : Prop :=
    Nw #[.slice p_.1.a p_.1.len p_.1.cap, .slice p_.2.a p_.2.len p_.2.cap] T_api_Program H fun b1 H1 =>
    Nw #[.int .i64 e_.1, .int .i64 e_.2.1, .int .i64 e_.2.2.1, .slice e_.2.2.2.1.a e_.2.2.2.1.len e_.2.2.2.1.cap, .int .i64 e_.2.2.2.2.1, .int .i64 e_.2.2.2.2.2.1, .slice e_.2.2.2.2.2.2.a e_.2.2.2.2.2.2.len e_.2.2.2.2.2.2.cap] T_api_Env H1 fun b2 H2 =>
    CallT Pg f_hindcastlaw16_shown [] (.one (.c .bool)) H2 fun (r1 : Bool) H3 =>
    Ld .sl ((adr b2).add 3) H3 fun (x1 : Sl) =>
    Jn (σ := Unit) /-  -/ (fun kk1 =>
      Br (decide ((x1.len : Int) > 300)) (
        Ld .sl ((adr b2).add 3) H3 fun (x2 : Sl) =>
        SlA 3 x2 0 300 (x2.cap : Nat) fun l1 =>
        St ((adr b2).add 3) (.slice l1.a l1.len l1.cap) H3 fun H5 =>
        kk1 () H5) (
        kk1 () H3)) fun j1 H4 =>
    LdC [.sl, .sl] (adr b1) H4 fun (c1 : Sl × Sl) =>
    LdC [(.int .i64), (.int .i64), (.int .i64), .sl, (.int .i64), (.int .i64), .sl] (adr b2) H4 fun (c2 : Int × Int × Int × Sl × Int × Int × Sl) =>
    CallT Pg f_hindcastlaw16_copied [.agg #[.int .i64 c2.1, .int .i64 c2.2.1, .int .i64 c2.2.2.1, .slice c2.2.2.2.1.a c2.2.2.2.1.len c2.2.2.2.1.cap, .int .i64 c2.2.2.2.2.1, .int .i64 c2.2.2.2.2.2.1, .slice c2.2.2.2.2.2.2.a c2.2.2.2.2.2.2.len c2.2.2.2.2.2.2.cap]] (.one (.agg [(.int .i64), (.int .i64), (.int .i64), .sl, (.int .i64), (.int .i64), .sl])) H4 fun (r2 : Int × Int × Int × Sl × Int × Int × Sl) H6 =>
    Stab [((adr b1).add 0, .slice c1.1.a c1.1.len c1.1.cap), ((adr b1).add 1, .slice c1.2.a c1.2.len c1.2.cap)] H6 <|
    CallT Pg f_hindcastref16_Long [.agg #[.slice c1.1.a c1.1.len c1.1.cap, .slice c1.2.a c1.2.len c1.2.cap], .int .i64 system_, .agg #[.int .i64 r2.1, .int .i64 r2.2.1, .int .i64 r2.2.2.1, .slice r2.2.2.2.1.a r2.2.2.2.1.len r2.2.2.2.1.cap, .int .i64 r2.2.2.2.2.1, .int .i64 r2.2.2.2.2.2.1, .slice r2.2.2.2.2.2.2.a r2.2.2.2.2.2.2.len r2.2.2.2.2.2.2.cap], .int .i64 300000] (.one (.c .bool)) H6 fun (r3 : Bool) H7 =>
    Stab [((adr b2).add 0, .int .i64 c2.1), ((adr b2).add 1, .int .i64 c2.2.1), ((adr b2).add 2, .int .i64 c2.2.2.1), ((adr b2).add 3, .slice c2.2.2.2.1.a c2.2.2.2.1.len c2.2.2.2.1.cap), ((adr b2).add 4, .int .i64 c2.2.2.2.2.1), ((adr b2).add 5, .int .i64 c2.2.2.2.2.2.1), ((adr b2).add 6, .slice c2.2.2.2.2.2.2.a c2.2.2.2.2.2.2.len c2.2.2.2.2.2.2.cap)] H7 <|
    Jn (σ := Bool) /-  -/ (fun kk2 =>
      Br (!r1) (
        kk2 true H7) (
        kk2 r3 H7)) fun j2 H8 =>
    Br j2 (
      k r1 H8) (
      LdC [.sl, .sl] (adr b1) H8 fun (c3 : Sl × Sl) =>
      LdC [(.int .i64), (.int .i64), (.int .i64), .sl, (.int .i64), (.int .i64), .sl] (adr b2) H8 fun (c4 : Int × Int × Int × Sl × Int × Int × Sl) =>
      (
        CallT Pg f_hindcastlaw16_copied [.agg #[.int .i64 c4.1, .int .i64 c4.2.1, .int .i64 c4.2.2.1, .slice c4.2.2.2.1.a c4.2.2.2.1.len c4.2.2.2.1.cap, .int .i64 c4.2.2.2.2.1, .int .i64 c4.2.2.2.2.2.1, .slice c4.2.2.2.2.2.2.a c4.2.2.2.2.2.2.len c4.2.2.2.2.2.2.cap]] (.one (.agg [(.int .i64), (.int .i64), (.int .i64), .sl, (.int .i64), (.int .i64), .sl])) H8 fun (r4 : Int × Int × Int × Sl × Int × Int × Sl) H9 =>
        Stab [((adr b1).add 0, .slice c3.1.a c3.1.len c3.1.cap), ((adr b1).add 1, .slice c3.2.a c3.2.len c3.2.cap)] H9 <|
        (
          CallT Pg f_machine_Run [.agg #[.slice c3.1.a c3.1.len c3.1.cap, .slice c3.2.a c3.2.len c3.2.cap], .int .i64 system_, .agg #[.int .i64 r4.1, .int .i64 r4.2.1, .int .i64 r4.2.2.1, .slice r4.2.2.2.1.a r4.2.2.2.1.len r4.2.2.2.1.cap, .int .i64 r4.2.2.2.2.1, .int .i64 r4.2.2.2.2.2.1, .slice r4.2.2.2.2.2.2.a r4.2.2.2.2.2.2.len r4.2.2.2.2.2.2.cap]] (.one (.agg [.sl, .sl, .sl, (.int .i64), (.int .i64)])) H9 fun (r5 : Sl × Sl × Sl × Int × Int) H10 =>
          Stab [((adr b2).add 0, .int .i64 c4.1), ((adr b2).add 1, .int .i64 c4.2.1), ((adr b2).add 2, .int .i64 c4.2.2.1), ((adr b2).add 3, .slice c4.2.2.2.1.a c4.2.2.2.1.len c4.2.2.2.1.cap), ((adr b2).add 4, .int .i64 c4.2.2.2.2.1), ((adr b2).add 5, .int .i64 c4.2.2.2.2.2.1), ((adr b2).add 6, .slice c4.2.2.2.2.2.2.a c4.2.2.2.2.2.2.len c4.2.2.2.2.2.2.cap)] H10 <|
          Nw #[.slice none 0 0, .slice none 0 0, .slice none 0 0, .int .i64 0, .int .i64 0] T_api_Outcome H10 fun b3 H11 =>
          Stab [((adr b2).add 0, .int .i64 c4.1), ((adr b2).add 1, .int .i64 c4.2.1), ((adr b2).add 2, .int .i64 c4.2.2.1), ((adr b2).add 3, .slice c4.2.2.2.1.a c4.2.2.2.1.len c4.2.2.2.1.cap), ((adr b2).add 4, .int .i64 c4.2.2.2.2.1), ((adr b2).add 5, .int .i64 c4.2.2.2.2.2.1), ((adr b2).add 6, .slice c4.2.2.2.2.2.2.a c4.2.2.2.2.2.2.len c4.2.2.2.2.2.2.cap), ((adr b1).add 0, .slice c3.1.a c3.1.len c3.1.cap), ((adr b1).add 1, .slice c3.2.a c3.2.len c3.2.cap)] H11 <|
          St ((adr b3).add 0) (.slice r5.1.a r5.1.len r5.1.cap) H11 fun H12 =>
          St ((adr b3).add 1) (.slice r5.2.1.a r5.2.1.len r5.2.1.cap) H12 fun H13 =>
          St ((adr b3).add 2) (.slice r5.2.2.1.a r5.2.2.1.len r5.2.2.1.cap) H13 fun H14 =>
          St ((adr b3).add 3) (.int .i64 r5.2.2.2.1) H14 fun H15 =>
          St ((adr b3).add 4) (.int .i64 r5.2.2.2.2) H15 fun H16 =>
          v_hindcastlaw16_MachineInputs_a0 b2 H16 other_ k b3 b1 system_ r1) ∧ (
          Nw #[.slice none 0 0, .slice none 0 0, .slice none 0 0, .int .i64 0, .int .i64 0] T_api_Outcome H9 fun b6 H39 =>
          Stab [((adr b2).add 0, .int .i64 c4.1), ((adr b2).add 1, .int .i64 c4.2.1), ((adr b2).add 2, .int .i64 c4.2.2.1), ((adr b2).add 3, .slice c4.2.2.2.1.a c4.2.2.2.1.len c4.2.2.2.1.cap), ((adr b2).add 4, .int .i64 c4.2.2.2.2.1), ((adr b2).add 5, .int .i64 c4.2.2.2.2.2.1), ((adr b2).add 6, .slice c4.2.2.2.2.2.2.a c4.2.2.2.2.2.2.len c4.2.2.2.2.2.2.cap), ((adr b1).add 0, .slice c3.1.a c3.1.len c3.1.cap), ((adr b1).add 1, .slice c3.2.a c3.2.len c3.2.cap)] H39 <|
          CallT Pg f_machine_Run [.agg #[.slice c3.1.a c3.1.len c3.1.cap, .slice c3.2.a c3.2.len c3.2.cap], .int .i64 system_, .agg #[.int .i64 r4.1, .int .i64 r4.2.1, .int .i64 r4.2.2.1, .slice r4.2.2.2.1.a r4.2.2.2.1.len r4.2.2.2.1.cap, .int .i64 r4.2.2.2.2.1, .int .i64 r4.2.2.2.2.2.1, .slice r4.2.2.2.2.2.2.a r4.2.2.2.2.2.2.len r4.2.2.2.2.2.2.cap]] (.one (.agg [.sl, .sl, .sl, (.int .i64), (.int .i64)])) H39 fun (r9 : Sl × Sl × Sl × Int × Int) H40 =>
          Stab [((adr b2).add 0, .int .i64 c4.1), ((adr b2).add 1, .int .i64 c4.2.1), ((adr b2).add 2, .int .i64 c4.2.2.1), ((adr b2).add 3, .slice c4.2.2.2.1.a c4.2.2.2.1.len c4.2.2.2.1.cap), ((adr b2).add 4, .int .i64 c4.2.2.2.2.1), ((adr b2).add 5, .int .i64 c4.2.2.2.2.2.1), ((adr b2).add 6, .slice c4.2.2.2.2.2.2.a c4.2.2.2.2.2.2.len c4.2.2.2.2.2.2.cap)] H40 <|
          St ((adr b6).add 0) (.slice r9.1.a r9.1.len r9.1.cap) H40 fun H41 =>
          St ((adr b6).add 1) (.slice r9.2.1.a r9.2.1.len r9.2.1.cap) H41 fun H42 =>
          St ((adr b6).add 2) (.slice r9.2.2.1.a r9.2.2.1.len r9.2.2.1.cap) H42 fun H43 =>
          St ((adr b6).add 3) (.int .i64 r9.2.2.2.1) H43 fun H44 =>
          St ((adr b6).add 4) (.int .i64 r9.2.2.2.2) H44 fun H45 =>
          v_hindcastlaw16_MachineInputs_a0 b2 H45 other_ k b6 b1 system_ r1) ∧ True) ∧ (
        Nw #[.slice none 0 0, .slice none 0 0, .slice none 0 0, .int .i64 0, .int .i64 0] T_api_Outcome H8 fun b9 H68 =>
        Stab [((adr b2).add 0, .int .i64 c4.1), ((adr b2).add 1, .int .i64 c4.2.1), ((adr b2).add 2, .int .i64 c4.2.2.1), ((adr b2).add 3, .slice c4.2.2.2.1.a c4.2.2.2.1.len c4.2.2.2.1.cap), ((adr b2).add 4, .int .i64 c4.2.2.2.2.1), ((adr b2).add 5, .int .i64 c4.2.2.2.2.2.1), ((adr b2).add 6, .slice c4.2.2.2.2.2.2.a c4.2.2.2.2.2.2.len c4.2.2.2.2.2.2.cap), ((adr b1).add 0, .slice c3.1.a c3.1.len c3.1.cap), ((adr b1).add 1, .slice c3.2.a c3.2.len c3.2.cap)] H68 <|
        CallT Pg f_hindcastlaw16_copied [.agg #[.int .i64 c4.1, .int .i64 c4.2.1, .int .i64 c4.2.2.1, .slice c4.2.2.2.1.a c4.2.2.2.1.len c4.2.2.2.1.cap, .int .i64 c4.2.2.2.2.1, .int .i64 c4.2.2.2.2.2.1, .slice c4.2.2.2.2.2.2.a c4.2.2.2.2.2.2.len c4.2.2.2.2.2.2.cap]] (.one (.agg [(.int .i64), (.int .i64), (.int .i64), .sl, (.int .i64), (.int .i64), .sl])) H68 fun (r13 : Int × Int × Int × Sl × Int × Int × Sl) H69 =>
        Stab [((adr b1).add 0, .slice c3.1.a c3.1.len c3.1.cap), ((adr b1).add 1, .slice c3.2.a c3.2.len c3.2.cap)] H69 <|
        CallT Pg f_machine_Run [.agg #[.slice c3.1.a c3.1.len c3.1.cap, .slice c3.2.a c3.2.len c3.2.cap], .int .i64 system_, .agg #[.int .i64 r13.1, .int .i64 r13.2.1, .int .i64 r13.2.2.1, .slice r13.2.2.2.1.a r13.2.2.2.1.len r13.2.2.2.1.cap, .int .i64 r13.2.2.2.2.1, .int .i64 r13.2.2.2.2.2.1, .slice r13.2.2.2.2.2.2.a r13.2.2.2.2.2.2.len r13.2.2.2.2.2.2.cap]] (.one (.agg [.sl, .sl, .sl, (.int .i64), (.int .i64)])) H69 fun (r14 : Sl × Sl × Sl × Int × Int) H70 =>
        Stab [((adr b2).add 0, .int .i64 c4.1), ((adr b2).add 1, .int .i64 c4.2.1), ((adr b2).add 2, .int .i64 c4.2.2.1), ((adr b2).add 3, .slice c4.2.2.2.1.a c4.2.2.2.1.len c4.2.2.2.1.cap), ((adr b2).add 4, .int .i64 c4.2.2.2.2.1), ((adr b2).add 5, .int .i64 c4.2.2.2.2.2.1), ((adr b2).add 6, .slice c4.2.2.2.2.2.2.a c4.2.2.2.2.2.2.len c4.2.2.2.2.2.2.cap)] H70 <|
        St ((adr b9).add 0) (.slice r14.1.a r14.1.len r14.1.cap) H70 fun H71 =>
        St ((adr b9).add 1) (.slice r14.2.1.a r14.2.1.len r14.2.1.cap) H71 fun H72 =>
        St ((adr b9).add 2) (.slice r14.2.2.1.a r14.2.2.1.len r14.2.2.1.cap) H72 fun H73 =>
        St ((adr b9).add 3) (.int .i64 r14.2.2.2.1) H73 fun H74 =>
        St ((adr b9).add 4) (.int .i64 r14.2.2.2.2) H74 fun H75 =>
        v_hindcastlaw16_MachineInputs_a0 b2 H75 other_ k b9 b1 system_ r1) ∧ True)
def h_hindcastlaw16_MachineInputs : Hint := (.two .no (.two .no (.two (.two .no (.join [] .no)) (.two .no (.two (.two (.join [(35, (.c .bool))] .no) .no) (.two .no (.two .no (.two .no (.two .no (.two (.two .no (.one (.loop [(13, (.c (.int .i64)))] (.two .no (.two (.join [] (.one (.two .no (.two (.two .no (.one (.loop [(14, (.c .bool)), (15, (.c (.int .i64)))] (.two .no (.two (.one (.join [(14, (.c .bool))] .no)) .no))))) (.two .no (.join [] .no)))))) .no))))) (.two .no (.two (.join [(8, (.c .bool))] .no) .no))))))))))))
theorem e_hindcastlaw16_MachineInputs (p_ : Sl × Sl) (system_ : Int) (e_ : Int × Int × Int × Sl × Int × Int × Sl) (other_ : Int) (H : Heap) (k : Bool → Heap → Prop) : EFun Pg Tryz.f5 h_hindcastlaw16_MachineInputs [.agg #[.slice p_.1.a p_.1.len p_.1.cap, .slice p_.2.a p_.2.len p_.2.cap], .int .i64 system_, .agg #[.int .i64 e_.1, .int .i64 e_.2.1, .int .i64 e_.2.2.1, .slice e_.2.2.2.1.a e_.2.2.2.1.len e_.2.2.2.1.cap, .int .i64 e_.2.2.2.2.1, .int .i64 e_.2.2.2.2.2.1, .slice e_.2.2.2.2.2.2.a e_.2.2.2.2.2.2.len e_.2.2.2.2.2.2.cap], .int .i64 other_] (.one (.c .bool)) H k = v_hindcastlaw16_MachineInputs p_ system_ e_ other_ H k := by kernel_rfl
theorem c_hindcastlaw16_MachineInputs (p_ : Sl × Sl) (system_ : Int) (e_ : Int × Int × Int × Sl × Int × Int × Sl) (other_ : Int) {H : Heap} {k : Bool → Heap → Prop} (h : v_hindcastlaw16_MachineInputs p_ system_ e_ other_ H k) : CallT Pg f_hindcastlaw16_MachineInputs [.agg #[.slice p_.1.a p_.1.len p_.1.cap, .slice p_.2.a p_.2.len p_.2.cap], .int .i64 system_, .agg #[.int .i64 e_.1, .int .i64 e_.2.1, .int .i64 e_.2.2.1, .slice e_.2.2.2.1.a e_.2.2.2.1.len e_.2.2.2.1.cap, .int .i64 e_.2.2.2.2.1, .int .i64 e_.2.2.2.2.2.1, .slice e_.2.2.2.2.2.2.a e_.2.2.2.2.2.2.len e_.2.2.2.2.2.2.cap], .int .i64 other_] (.one (.c .bool)) H k :=
  call_of_E Pg_mixed Tryz.func5 (by kernel_rfl) (by kernel_rfl) (by kernel_rfl) (by kernel_rfl) ((e_hindcastlaw16_MachineInputs p_ system_ e_ other_ H k).symm ▸ h)
end Go.Proofs.YtfpmgpblhhcpgaaGreat
namespace Go.Proofs.YtfpmgpblhhcpgaaGreat
set_option linter.unusedVariables false
set_option linter.unusedSimpArgs false
open Go.Proofs.YtfpmgpblhhcpgaaGreat.Hc Go.Proofs.YtfpmgpblhhcpgaaGreat.Hc.Vf Go.Proofs.YtfpmgpblhhcpgaaGreat.Hc.Mc Go.Proofs.YtfpmgpblhhcpgaaGreat.Hc.Dice
set_option maxRecDepth 100000
variable {H : Heap}

instance : Inhabited CmP := ⟨⟨0, (0, 0), 0, ⟨none, 0, 0⟩, [], ⟨none, 0, 0⟩, []⟩⟩
structure Outc where
  vals : List Pt
  cmds : List Cm
  evs : List Ev
  st : Int
  er : Int
def partsP (vals : List Pt) (ks : List Int) : List Pt := ks.filterMap fun k => vals.find? fun p => p.kind == k
theorem partsOf_pt (q : List PtP) (ks : List Int) : (partsOf q ks).map PtP.pt = partsP (q.map PtP.pt) ks := by
  unfold partsOf partsP
  rw [List.map_filterMap]
  congr 1
  funext k
  rw [List.find?_map]
  rfl
abbrev sortU (l : List Int) : List Int := Lib.compact (l.mergeSort fun a b => decide (a ≤ b))
/-- What a run of this gives. -/
def IsOut (P : MP) (E : En) (m0 : Ms) (o : Outc) : Prop :=
  (∃ N m', Runs P E m0 N 0 m' ∧ o = ⟨partsP m'.vals (sortU P.writes), m'.cmds, m'.evs, m'.steps, 0⟩) ∨ ∃ N er m', er ≠ 0 ∧ Runs P E m0 N er m' ∧ o = ⟨[], [], [], m'.steps, er⟩
theorem IsOut.unique {P : MP} {E : En} {m0 : Ms} {o o' : Outc} (h : IsOut P E m0 o) (h' : IsOut P E m0 o') : o = o' := by
  rcases h with ⟨N, m, h, rfl⟩ | ⟨N, er, m, hne, h, rfl⟩ <;> rcases h' with ⟨N', m', h', rfl⟩ | ⟨N', er', m', hne', h', rfl⟩
  · obtain ⟨_, _, rfl⟩ := h.unique h'; rfl
  · exact absurd (h.unique h').2.1.symm hne'
  · exact absurd (h.unique h').2.1 hne
  · obtain ⟨_, rfl, rfl⟩ := h.unique h'; rfl
def OutIs (lim : Int) (ss : List Sy) (fs : List Rou) (n : Int) (E : En) (parts : List Pt) (o : Outc) : Prop :=
  if 0 ≤ n ∧ n < (ss.length : Int) then IsOut ⟨fs.map fnOf, fnOf (ss[n.toNat]!).rou, (ss[n.toNat]!).l 2, (ss[n.toNat]!).l 3, n, lim⟩ E (initM ⟨fs.map fnOf, fnOf (ss[n.toNat]!).rou, (ss[n.toNat]!).l 2, (ss[n.toNat]!).l 3, n, lim⟩ E parts) o
  else o = ⟨[], [], [], 0, 190⟩
theorem OutIs.unique {lim : Int} {ss : List Sy} {fs : List Rou} {n : Int} {E : En} {parts : List Pt} {o o' : Outc} (h : OutIs lim ss fs n E parts o) (h' : OutIs lim ss fs n E parts o') : o = o' := by
  unfold OutIs at h h'
  split at h
  · rw [if_pos ‹_›] at h'; exact h.unique h'
  · rw [if_neg ‹_›] at h'; rw [h, h']
abbrev OutS := Sl × Sl × Sl × Int × Int
/-- An outcome as it is read. -/
structure OutRd (H : Heap) (r : OutS) (o : Outc) (ps : List PtP) (cl : List CmP) : Prop where
  vv : RN ptV 2 H r.1 ps
  vR : ∀ q ∈ ps, RL (Value.int .i64) H q.sl q.vals
  cv : RN cmV 6 H r.2.1 cl
  cR : ∀ q ∈ cl, RL (Value.int .i64) H q.vsl q.vals ∧ RN ptV 2 H q.psl q.parts ∧ ∀ p ∈ q.parts, RL (Value.int .i64) H p.sl p.vals
  ev : RN evV 5 H r.2.2.1 o.evs
  vals : ps.map PtP.pt = o.vals
  cmds : cl.map CmP.cm = o.cmds
  st : r.2.2.2.1 = o.st
  er : r.2.2.2.2 = o.er
theorem OutRd.ext {H' : Heap} {r : OutS} {o : Outc} {ps : List PtP} {cl : List CmP} (h : OutRd H r o ps cl) (hE : Ext H H') : OutRd H' r o ps cl :=
  ⟨h.vv.ext hE, fun q hq => (h.vR q hq).ext hE, h.cv.ext hE, fun q hq => ⟨(h.cR q hq).1.ext hE, (h.cR q hq).2.1.ext hE, fun p hp => ((h.cR q hq).2.2 p hp).ext hE⟩, h.ev.ext hE, h.vals, h.cmds, h.st, h.er⟩
/-- An outcome that is its owner's. -/
structure OutM (lo : Nat) (H : Heap) (r : OutS) (o : Outc) (ps : List PtP) (cl : List CmP) : Prop where
  out : OutR lo H r.1 r.2.1 r.2.2.1 ps cl o.evs
  vals : ps.map PtP.pt = o.vals
  cmds : cl.map CmP.cm = o.cmds
  st : r.2.2.2.1 = o.st
  er : r.2.2.2.2 = o.er
theorem OutM.rd {lo : Nat} {r : OutS} {o : Outc} {ps : List PtP} {cl : List CmP} (h : OutM lo H r o ps cl) : OutRd H r o ps cl :=
  ⟨VecN.rn ptV_len (by decide) h.out.vv, fun q hq => (h.out.vR q hq).rl, VecN.rn cmV_len (by decide) h.out.cv, fun q hq => ⟨(h.out.cR q hq).1.rl, VecN.rn ptV_len (by decide) (h.out.cR q hq).2.1, fun p hp => ((h.out.cR q hq).2.2 p hp).rl⟩, VecN.rn evV_len (by decide) h.out.ev, h.vals, h.cmds, h.st, h.er⟩
/-- What lies elsewhere may be turned. -/
theorem OutM.upd {lo : Nat} {H' : Heap} {M : Nat → Prop} {r : OutS} {o : Outc} {ps : List PtP} {cl : List CmP} (h : OutM lo H r o ps cl) (hU : Upd M H H') (hM : ∀ b, lo ≤ b → b < H.size → ¬ M b) : OutM lo H' r o ps cl := by
  have hn := h.out.new
  have key : ∀ {T : TypeId} {m : Nat} {s : Sl} {vs : List Value}, s ∈ r.1 :: r.2.1 :: r.2.2.1 :: (ps.map PtP.sl ++ cl.flatMap cmSl ++ cl.map CmP.psl) → VecN H T m s vs → VecN H' T m s vs := fun hm hv => hv.upd hU fun b hb => hM b (hn _ hm b hb) (hv.lt hb)
  have key1 : ∀ {T : TypeId} {s : Sl} {vs : List Value}, s ∈ r.1 :: r.2.1 :: r.2.2.1 :: (ps.map PtP.sl ++ cl.flatMap cmSl ++ cl.map CmP.psl) → Vec H T s vs → Vec H' T s vs := fun hm hv => hv.upd hU fun b hb => hM b (hn _ hm b hb) (hv.lt hb)
  refine ⟨⟨key (by simp) h.out.vv, fun q hq => key1 ?_ (h.out.vR q hq), key (by simp) h.out.cv, fun q hq => ⟨key1 ?_ (h.out.cR q hq).1, key ?_ (h.out.cR q hq).2.1, fun p hp => key1 ?_ ((h.out.cR q hq).2.2 p hp)⟩, key (by simp) h.out.ev, h.out.ap, h.out.pa, hn⟩, h.vals, h.cmds, h.st, h.er⟩
  · simp only [List.mem_cons, List.mem_append]
    exact .inr (.inr (.inr (.inl (.inl (List.mem_map.2 ⟨q, hq, rfl⟩)))))
  · simp only [List.mem_cons, List.mem_append]
    exact .inr (.inr (.inr (.inl (.inr (List.mem_flatMap.2 ⟨q, hq, List.mem_cons_self⟩)))))
  · simp only [List.mem_cons, List.mem_append]
    exact .inr (.inr (.inr (.inr (List.mem_map.2 ⟨q, hq, rfl⟩))))
  · simp only [List.mem_cons, List.mem_append]
    exact .inr (.inr (.inr (.inl (.inr (List.mem_flatMap.2 ⟨q, hq, List.mem_cons_of_mem _ (List.mem_map.2 ⟨p, hp, rfl⟩)⟩)))))
theorem OutM.nil (lo : Nat) (H : Heap) (st er : Int) : OutM lo H (⟨none, 0, 0⟩, ⟨none, 0, 0⟩, ⟨none, 0, 0⟩, st, er) ⟨[], [], [], st, er⟩ [] [] :=
  ⟨⟨VecN.nil _ _ _, (fun q h => by cases h), VecN.nil _ _ _, (fun q h => by cases h), VecN.nil _ _ _, .nil, by simp, fun s hs b hb => by
    simp only [List.map_nil, List.flatMap_nil, List.append_nil, List.mem_cons, List.not_mem_nil, or_false] at hs
    rcases hs with rfl | rfl | rfl <;> cases hb⟩, rfl, rfl, rfl, rfl⟩
/-- The program's run for an Env that was copied. -/
theorem s_RunM {B : Heap} {p : Sl × Sl} {ss : List Sy} {fs : List Rou} {e : EnV} {ins : List (Int × Int × Int)} {ps qs : List PtP} {bi bp lo : Nat} (hP : PrgI B p ss fs) (hE : EnvI B e ins ps) (hx : Ext B H) (hcp : CpR lo H bi bp ins qs) (hq : qs.map PtP.pt = ps.map PtP.pt) {n : Int} {k : OutS → Heap → Prop}
    (hk : ∀ H' r o vs cl, Ext H H' → OutIs (2 ^ 40) ss fs n (enS e ins) (firsts (ps.map PtP.pt)) o → OutM H.size H' r o vs cl → k r H') :
    CallT Pg f_machine_Run [prgA p, .int .i64 n, envA (cpE e bi bp ins.length qs.length)] RunT H k := by
  refine s_RunC hP hE hx hcp hq (fun H' h hn => hk _ _ ⟨[], [], [], 0, 190⟩ _ _ h (by unfold OutIs; rw [if_neg hn]) (OutM.nil _ _ _ _)) (fun H' N er m' h hn hr hne => hk _ _ _ _ _ h ((if_pos hn).mpr (.inr ⟨N, er, m', hne, hr, rfl⟩)) (OutM.nil _ _ _ _))
    fun H' N m' vs cs es ps' cl q h hn hr ho hcm hv hnd hps => hk _ _ _ ps' cl h ((if_pos hn).mpr (.inl ⟨N, m', hr, rfl⟩)) ⟨ho, ?_, hcm.symm, rfl, rfl⟩
  rw [hps, partsOf_pt, ← hv]
/-- The document's. -/
theorem s_rRunM {B : Heap} {p : Sl × Sl} {ss : List Sy} {fs : List Rou} {e : EnV} {ins : List (Int × Int × Int)} {ps0 : List PtP} (hss : RN sysV 8 H p.1 ss) {n : Int} (hi : 0 ≤ n ∧ n < (ss.length : Int) → RunIn H p ss n e ps0 fs ins) {k : OutS → Heap → Prop}
    (hk : ∀ H' r o vs cl, Ext H H' → OutIs (2 ^ 63) ss fs n (enS e ins) (ps0.map PtP.pt) o → OutRd H' r o vs cl → k r H') :
    CallT Pg f_hindcastref16_Run [prgA p, .int .i64 n, envA e] RunT H k := by
  by_cases hn : 0 ≤ n ∧ n < (ss.length : Int)
  · refine s_rRun (hi hn) (fun H' N er m' h hr hne => hk _ _ _ _ _ h ((if_pos hn).mpr (.inr ⟨N, er, m', hne, hr, rfl⟩)) (OutM.nil 0 _ _ _).rd)
      fun H' N m' vs cs es ps' cl q h hr g1 g2 g3 g4 g5 g6 g7 g8 => hk _ _ _ ps' cl h ((if_pos hn).mpr (.inl ⟨N, m', hr, rfl⟩)) ⟨VecN.rn ptV_len (by decide) g1, fun q hq => (g2 q hq).rl, VecN.rn cmV_len (by decide) g3, fun q hq => ⟨(g4 q hq).1.rl, VecN.rn ptV_len (by decide) (g4 q hq).2.1, fun p hp => ((g4 q hq).2.2 p hp).rl⟩, VecN.rn evV_len (by decide) g5, ?_, g6.symm, rfl, rfl⟩
    rw [g8, partsOf_pt, ← g7]
  · have hsl := hss.len
    refine c_hindcastref16_Run p n (e.fr, e.sd, e.en, e.inS, e.ix, e.gn, e.rp) ?_
    unfold v_hindcastref16_Run
    refine Nw_row (vs := [slV p.1, slV p.2]) fun b1 H1 hb1 hE1 hz1 hr1 => ?_
    refine Nw_row (vs := envL e) fun b2 H2 hb2 hE2 hz2 hr2 => ?_
    refine Nw_row (vs := [.slice none 0 0, .slice none 0 0, .slice none 0 0, .int .i64 0, .int .i64 0]) fun b3 H3 hb3 hE3 hz3 hr3 => ?_
    have hE03 : Ext H H3 := (hE1.trans hE2 fun _ _ h => h).trans hE3 fun _ _ h => h
    have hr1 := (hE2.trans hE3 fun _ _ h => h).row hr1 fun h => h
    refine Jn.mk (fun j H' => H3 = H' ∧ j = true) (fun kk hkk => ?_) ?_
    · exact Br_dec (fun h => hkk _ _ ⟨rfl, rfl⟩) fun h => Ld_sl (s := p.1) ((hr1.cell 0).trans rfl) (hkk _ _ ⟨rfl, decide_eq_true (by omega)⟩)
    rintro j _ ⟨rfl, rfl⟩
    rw [Br_true]
    simp only [adr_add]
    refine St_row hr3 (by simp) fun G1 hU1 _ hg1 => St_row hg1 (by simp) fun G2 hU2 _ hg2 => St_row hg2 (by simp) fun G3 hU3 _ hg3 => St_row hg3 (by simp) fun G4 hU4 _ hg4 => St_row hg4 (by simp) fun G5 hU5 _ hg5 => ?_
    refine ⟨(⟨none, 0, 0⟩, ⟨none, 0, 0⟩, ⟨none, 0, 0⟩, 0, 190), hg5.rd_all, ?_⟩
    have hUU := (((hU1.trans hU2 fun _ _ e => e).trans hU3 fun _ _ e => e).trans hU4 fun _ _ e => e).trans hU5 fun _ _ e => e
    exact hk G5 _ ⟨[], [], [], 0, 190⟩ _ _ (extUpd (b := b3) hE03 (by have := hE1.size; have := hE2.size; omega) hUU) (by unfold OutIs; rw [if_neg hn]) (OutM.nil 0 _ _ _).rd

/-! ### are two one? -/
abbrev BoolR : RTy := .one (.c .bool)
theorem s_numbers {a b : Sl} {xs : List Int} (ha : RL (Value.int .i64) H a xs) (hb : RL (Value.int .i64) H b xs) (hl : xs.length ≤ 2 ^ 60) {k : Bool → Heap → Prop} (hk : k true H) : CallT Pg f_hindcastlaw16_numbers [.slice a.a a.len a.cap, .slice b.a b.len b.cap] BoolR H k := by
  refine c_hindcastlaw16_numbers _ _ ?_
  unfold v_hindcastlaw16_numbers
  have h1 := ha.len
  have h2 := hb.len
  have e : ((a.len : Int) != (b.len : Int)) = false := by rw [h1, h2]; simp
  rw [e, Br_false]
  refine LoopT.mk (fun i H' => H = H' ∧ ∃ n : Nat, i = n ∧ n ≤ xs.length) (fun i _ => xs.length - i.toNat) ⟨rfl, 0, rfl, Nat.zero_le _⟩ ?_
  rintro next _ _ ⟨rfl, n, rfl, hn⟩ hnext
  refine Br_dec (fun hlt => ?_) fun _ => hk
  have hn2 : n < xs.length := by omega
  refine IxA_rl ha rfl hn2 fun a1 g1 => Ld_int (n := xs[n]) g1 (IxA_rl hb rfl hn2 fun a2 g2 => Ld_int (n := xs[n]) g2 ?_)
  have e2 : (xs[n] != xs[n]) = false := by simp
  rw [e2, Br_false]
  exact Lt.mk (u := ((n + 1 : Nat) : Int)) (by rw [wrap_i64_id] <;> omega) (hnext _ _ ⟨rfl, n + 1, rfl, hn2⟩ (by omega))
theorem pt_get {ps qs : List PtP} (h : ps.map PtP.pt = qs.map PtP.pt) {n : Nat} (h1 : n < ps.length) (h2 : n < qs.length) : ps[n].kind = qs[n].kind ∧ ps[n].vals = qs[n].vals := by
  have e : (ps.map PtP.pt)[n]? = (qs.map PtP.pt)[n]? := by rw [h]
  rw [List.getElem?_map, List.getElem?_map, List.getElem?_eq_getElem h1, List.getElem?_eq_getElem h2] at e
  simp only [Option.map_some, Option.some.injEq, Pt.mk.injEq] at e
  exact e
theorem s_parts {a b : Sl} {ps qs : List PtP} (ha : RN ptV 2 H a ps) (hb : RN ptV 2 H b qs) (hpa : ∀ q ∈ ps, RL (Value.int .i64) H q.sl q.vals ∧ q.vals.length ≤ 2 ^ 60) (hpb : ∀ q ∈ qs, RL (Value.int .i64) H q.sl q.vals) (he : ps.map PtP.pt = qs.map PtP.pt) (hl : ps.length ≤ 2 ^ 60) {k : Bool → Heap → Prop} (hk : k true H) :
    CallT Pg f_hindcastlaw16_parts [.slice a.a a.len a.cap, .slice b.a b.len b.cap] BoolR H k := by
  refine c_hindcastlaw16_parts _ _ ?_
  unfold v_hindcastlaw16_parts
  have h1 := ha.len
  have h2 := hb.len
  have h3 := map_len he
  have e : ((a.len : Int) != (b.len : Int)) = false := by rw [h1, h2, h3]; simp
  rw [e, Br_false]
  refine LoopT.mk (fun i H' => H = H' ∧ ∃ n : Nat, i = n ∧ n ≤ ps.length) (fun i _ => ps.length - i.toNat) ⟨rfl, 0, rfl, Nat.zero_le _⟩ ?_
  rintro next _ _ ⟨rfl, n, rfl, hn⟩ hnext
  refine Br_dec (fun hlt => ?_) fun _ => hk
  have hn2 : n < ps.length := by omega
  have hn3 : n < qs.length := by omega
  obtain ⟨e1, e2⟩ := pt_get he hn2 hn3
  have ga : ∀ {k : Addr → Prop}, (∀ a', hcells H a' 0 (ptV ps[n]) → k a') → IxA 2 a (n : Nat) k := fun hk => IxA_rn' ptV_len ha (by decide) rfl hn2 fun a' g => hk a' (by rw [getElem!_pos ps n hn2] at g; exact g)
  have gb : ∀ {k : Addr → Prop}, (∀ a', hcells H a' 0 (ptV qs[n]) → k a') → IxA 2 b (n : Nat) k := fun hk => IxA_rn' ptV_len hb (by decide) rfl hn3 fun a' g => hk a' (by rw [getElem!_pos qs n hn3] at g; exact g)
  refine ga fun a1 g1 => Ld_sl (s := ps[n].sl) g1.2.1 (gb fun a2 g2 => Ld_sl (s := qs[n].sl) g2.2.1 ?_)
  have hv := hpb _ (List.getElem_mem hn3)
  rw [← e2] at hv
  refine s_numbers (hpa _ (List.getElem_mem hn2)).1 hv (hpa _ (List.getElem_mem hn2)).2 ?_
  refine Jn.mk (fun j H' => H = H' ∧ j = false) (fun kk hkk => ?_) ?_
  · rw [Bool.not_true, Br_false]
    refine ga fun a1 g1 => Ld_int (n := ps[n].kind) g1.1 (gb fun a2 g2 => Ld_int (n := qs[n].kind) g2.1 (hkk _ _ ⟨rfl, by rw [e1]; simp⟩))
  · rintro j _ ⟨rfl, rfl⟩
    rw [Br_false]
    exact Lt.mk (u := ((n + 1 : Nat) : Int)) (by rw [wrap_i64_id] <;> omega) (hnext _ _ ⟨rfl, n + 1, rfl, hn2⟩ (by omega))
/-- Small enough to be looked at. -/
structure OutSm (o : Outc) (ps : List PtP) (cl : List CmP) : Prop where
  h_ps : ps.length ≤ 2 ^ 60
  h_pv : ∀ q ∈ ps, q.vals.length ≤ 2 ^ 60
  h_cl : cl.length ≤ 2 ^ 60
  h_cv : ∀ q ∈ cl, q.vals.length ≤ 2 ^ 60 ∧ q.parts.length ≤ 2 ^ 60 ∧ ∀ p ∈ q.parts, p.vals.length ≤ 2 ^ 60
  h_ev : o.evs.length ≤ 2 ^ 60
theorem cm_get {cl dl : List CmP} (h : cl.map CmP.cm = dl.map CmP.cm) {n : Nat} (h1 : n < cl.length) (h2 : n < dl.length) : cl[n].op = dl[n].op ∧ cl[n].e = dl[n].e ∧ cl[n].kind = dl[n].kind ∧ cl[n].vals = dl[n].vals ∧ cl[n].parts.map PtP.pt = dl[n].parts.map PtP.pt := by
  have e : (cl.map CmP.cm)[n]? = (dl.map CmP.cm)[n]? := by rw [h]
  rw [List.getElem?_map, List.getElem?_map, List.getElem?_eq_getElem h1, List.getElem?_eq_getElem h2] at e
  simp only [Option.map_some, Option.some.injEq, Cm.mk.injEq] at e
  exact e
theorem s_same {a b : OutS} {o : Outc} {ps qs : List PtP} {cl dl : List CmP} (ha : OutRd H a o ps cl) (hb : OutRd H b o qs dl) (hs : OutSm o ps cl) {k : Bool → Heap → Prop} (hk : ∀ H', Ext H H' → k true H') :
    CallT Pg f_hindcastlaw16_same [.agg #[.slice a.1.a a.1.len a.1.cap, .slice a.2.1.a a.2.1.len a.2.1.cap, .slice a.2.2.1.a a.2.2.1.len a.2.2.1.cap, .int .i64 a.2.2.2.1, .int .i64 a.2.2.2.2], .agg #[.slice b.1.a b.1.len b.1.cap, .slice b.2.1.a b.2.1.len b.2.1.cap, .slice b.2.2.1.a b.2.2.1.len b.2.2.1.cap, .int .i64 b.2.2.2.1, .int .i64 b.2.2.2.2]] BoolR H k := by
  refine c_hindcastlaw16_same a b ?_
  unfold v_hindcastlaw16_same
  have hps : ps.map PtP.pt = qs.map PtP.pt := ha.vals.trans hb.vals.symm
  have hcm : cl.map CmP.cm = dl.map CmP.cm := ha.cmds.trans hb.cmds.symm
  have hcl : cl.length = dl.length := by have := congrArg List.length hcm; simpa using this
  refine Nw_row (vs := [slV a.1, slV a.2.1, slV a.2.2.1, .int .i64 a.2.2.2.1, .int .i64 a.2.2.2.2]) fun b1 H1 hb1 hE1 _ hr1 => ?_
  refine Nw_row (vs := [slV b.1, slV b.2.1, slV b.2.2.1, .int .i64 b.2.2.2.1, .int .i64 b.2.2.2.2]) fun b2 H2 hb2 hE2 _ hr2 => ?_
  have hE02 := hE1.trans hE2 fun _ _ h => h
  have hr1 := hE2.row hr1 fun h => h
  have ha2 := ha.ext hE02
  have hb2' := hb.ext hE02
  simp only [adr_add]
  refine Ld_sl (s := a.1) ((hr1.cell 0).trans rfl) (Ld_sl (s := b.1) ((hr2.cell 0).trans rfl) ?_)
  refine s_parts ha2.vv hb2'.vv (fun q hq => ⟨ha2.vR q hq, hs.h_pv q hq⟩) hb2'.vR hps hs.h_ps ?_
  have e1 : (a.2.2.2.1 != b.2.2.2.1) = false := by rw [ha.st, hb.st]; simp
  have e2 : (a.2.2.2.2 != b.2.2.2.2) = false := by rw [ha.er, hb.er]; simp
  have l1 := ha.cv.len
  have l2 := hb.cv.len
  have l3 := ha.ev.len
  have l4 := hb.ev.len
  have e3 : ((a.2.1.len : Int) != (b.2.1.len : Int)) = false := by rw [l1, l2, hcl]; simp
  have e4 : ((a.2.2.1.len : Int) != (b.2.2.1.len : Int)) = false := by rw [l3, l4]; simp
  refine Jn.mk (fun j H' => H2 = H' ∧ j = false) (fun kk hkk => ?_) ?_
  · rw [Bool.not_true, Br_false]
    refine Ld_int (n := a.2.2.2.1) ((hr1.cell 3).trans rfl) (Ld_int (n := b.2.2.2.1) ((hr2.cell 3).trans rfl) ?_)
    rw [e1, Br_false]
    refine Ld_int (n := a.2.2.2.2) ((hr1.cell 4).trans rfl) (Ld_int (n := b.2.2.2.2) ((hr2.cell 4).trans rfl) ?_)
    rw [e2, Br_false]
    refine Ld_sl (s := a.2.1) ((hr1.cell 1).trans rfl) (Ld_sl (s := b.2.1) ((hr2.cell 1).trans rfl) ?_)
    rw [e3, Br_false]
    refine Ld_sl (s := a.2.2.1) ((hr1.cell 2).trans rfl) (Ld_sl (s := b.2.2.1) ((hr2.cell 2).trans rfl) ?_)
    rw [e4]
    exact hkk _ _ ⟨rfl, rfl⟩
  rintro j _ ⟨rfl, rfl⟩
  rw [Br_false]
  have ca : ∀ {H'}, Ext H2 H' → Row H' b1 T_api_Outcome [slV a.1, slV a.2.1, slV a.2.2.1, .int .i64 a.2.2.2.1, .int .i64 a.2.2.2.2] := fun h => h.row hr1 fun h => h
  have cb : ∀ {H'}, Ext H2 H' → Row H' b2 T_api_Outcome [slV b.1, slV b.2.1, slV b.2.2.1, .int .i64 b.2.2.2.1, .int .i64 b.2.2.2.2] := fun h => h.row hr2 fun h => h
  have hscl := hs.h_cl
  have hsev := hs.h_ev
  refine LoopT.mk (fun i H' => Ext H2 H' ∧ ∃ n : Nat, i = n ∧ n ≤ cl.length) (fun i _ => cl.length - i.toNat) ⟨.refl _ _, 0, rfl, Nat.zero_le _⟩ ?_
  rintro next _ H5 ⟨hE5, n, rfl, hn⟩ hnext
  refine Ld_sl (s := a.2.1) (((ca hE5).cell 1).trans rfl) (Br_dec (fun hlt => ?_) fun hge => ?_)
  · have hn2 : n < cl.length := by omega
    have hn3 : n < dl.length := by omega
    obtain ⟨g1, g2, g3, g4, g5⟩ := cm_get hcm hn2 hn3
    generalize hq : cl[n] = q at *
    generalize hd : dl[n] = d at *
    have hqm : q ∈ cl := by rw [← hq]; exact List.getElem_mem _
    have hdm : d ∈ dl := by rw [← hd]; exact List.getElem_mem _
    refine Ld_sl (s := a.2.1) (((ca hE5).cell 1).trans rfl) (IxA_rn' cmV_len ha2.cv (by decide) rfl hn2 fun a1 ha1 => ?_)
    rw [getElem!_pos cl n hn2, hq] at ha1
    refine ⟨(q.op, q.e.1, q.e.2, q.kind, q.vsl, q.psl), hcells_ext hE5 ha1, ?_⟩
    refine Nw_row (vs := [.int .i64 0, .int .i64 0, .int .i64 0, .int .i64 0, .slice none 0 0, .slice none 0 0]) fun b3 H6 hb3 hE6 _ hr3 => ?_
    refine St_row hr3 (by simp) fun G1 hU1 _ hg1 => St_row hg1 (by simp) fun G2 hU2 _ hg2 => St_row hg2 (by simp) fun G3 hU3 _ hg3 => St_row hg3 (by simp) fun G4 hU4 _ hg4 => St_row hg4 (by simp) fun G5 hU5 _ hg5 => St_row hg5 (by simp) fun G6 hU6 _ hg6 => ?_
    have hg6 : Row G6 b3 T_api_Command (cmV q) := hg6
    have hUG : Upd (· = b3) H6 G6 := ((((hU1.trans hU2 fun _ _ e => e).trans hU3 fun _ _ e => e).trans hU4 fun _ _ e => e).trans hU5 fun _ _ e => e).trans hU6 fun _ _ e => e
    have hz5 := hE5.size
    have hEG : Ext H2 G6 := extUpd (hE5.trans hE6 fun _ _ h => h) (by omega) hUG
    have hzG := hEG.size
    refine Ld_sl (s := b.2.1) (((cb hEG).cell 1).trans rfl) (IxA_rn' cmV_len hb2'.cv (by decide) rfl hn3 fun a2 ha2' => ?_)
    rw [getElem!_pos dl n hn3, hd] at ha2'
    refine ⟨(d.op, d.e.1, d.e.2, d.kind, d.vsl, d.psl), hcells_ext hEG ha2', ?_⟩
    refine Nw_row (vs := [.int .i64 0, .int .i64 0, .int .i64 0, .int .i64 0, .slice none 0 0, .slice none 0 0]) fun b4 H7 hb4 hE7 _ hr4 => ?_
    refine St_row hr4 (by simp) fun K1 hV1 _ hk1 => St_row hk1 (by simp) fun K2 hV2 _ hk2 => St_row hk2 (by simp) fun K3 hV3 _ hk3 => St_row hk3 (by simp) fun K4 hV4 _ hk4 => St_row hk4 (by simp) fun K5 hV5 _ hk5 => St_row hk5 (by simp) fun K6 hV6 _ hk6 => ?_
    have hk6 : Row K6 b4 T_api_Command (cmV d) := hk6
    have hVK : Upd (· = b4) H7 K6 := ((((hV1.trans hV2 fun _ _ e => e).trans hV3 fun _ _ e => e).trans hV4 fun _ _ e => e).trans hV5 fun _ _ e => e).trans hV6 fun _ _ e => e
    have hEK : Ext H2 K6 := extUpd (hEG.trans hE7 fun _ _ h => h) (by omega) hVK
    have hk3' : Row K6 b3 T_api_Command (cmV q) := hVK.row (hE7.row hg6 fun h => h) fun e => by have := hg6.lt; omega
    refine Ld_sl (s := q.vsl) ((hk3'.cell 4).trans rfl) (Ld_sl (s := d.vsl) ((hk6.cell 4).trans rfl) ?_)
    have hv := (hb2'.cR d hdm).1.ext hEK
    rw [← g4] at hv
    refine s_numbers ((ha2.cR q hqm).1.ext hEK) hv (hs.h_cv q hqm).1 ?_
    refine Ld_sl (s := q.psl) ((hk3'.cell 5).trans rfl) (Ld_sl (s := d.psl) ((hk6.cell 5).trans rfl) ?_)
    refine s_parts ((ha2.cR q hqm).2.1.ext hEK) ((hb2'.cR d hdm).2.1.ext hEK) (fun p hp => ⟨((ha2.cR q hqm).2.2 p hp).ext hEK, (hs.h_cv q hqm).2.2 p hp⟩) (fun p hp => ((hb2'.cR d hdm).2.2 p hp).ext hEK) g5 (hs.h_cv q hqm).2.1 ?_
    refine Jn.mk (fun j H' => K6 = H' ∧ j = false) (fun kk hkk => ?_) ?_
    · rw [Bool.not_true, Br_false, Br_false]
      refine Ld_int (n := q.op) ((hk3'.cell 0).trans rfl) (Ld_int (n := d.op) ((hk6.cell 0).trans rfl) ?_)
      have x1 : (q.op != d.op) = false := by rw [g1]; simp
      rw [x1, Br_false]
      refine ⟨(q.e.1, q.e.2), ⟨(hk3'.cell 1).trans rfl, (hk3'.cell 2).trans rfl, trivial⟩, ⟨(d.e.1, d.e.2), ⟨(hk6.cell 1).trans rfl, (hk6.cell 2).trans rfl, trivial⟩, ?_⟩⟩
      dsimp only
      have x2 : eqL [(.int .i64), (.int .i64)] (q.e.1, q.e.2) (d.e.1, d.e.2) = true := by rw [g2]; simp [eqL, eqT]
      rw [x2, Bool.not_true, Br_false]
      refine Ld_int (n := q.kind) ((hk3'.cell 3).trans rfl) (Ld_int (n := d.kind) ((hk6.cell 3).trans rfl) (hkk _ _ ⟨rfl, by rw [g3]; simp⟩))
    · rintro j _ ⟨rfl, rfl⟩
      rw [Br_false]
      exact Lt.mk (u := ((n + 1 : Nat) : Int)) (by rw [wrap_i64_id] <;> omega) (hnext _ _ ⟨hEK, n + 1, rfl, hn2⟩ (by omega))
  · refine LoopT.mk (fun i H' => H5 = H' ∧ ∃ n : Nat, i = n ∧ n ≤ o.evs.length) (fun i _ => o.evs.length - i.toNat) ⟨rfl, 0, rfl, Nat.zero_le _⟩ ?_
    rintro next2 _ _ ⟨rfl, n2, rfl, hn2⟩ hnext2
    refine Ld_sl (s := a.2.2.1) (((ca hE5).cell 2).trans rfl) (Br_dec (fun hlt => ?_) fun _ => hk _ (hE02.trans hE5 fun _ _ h => h))
    have hn3 : n2 < o.evs.length := by omega
    refine Ld_sl (s := a.2.2.1) (((ca hE5).cell 2).trans rfl) (IxA_rn' evV_len ha2.ev (by decide) rfl hn3 fun a3 ha3 => ?_)
    rw [getElem!_pos o.evs n2 hn3] at ha3
    refine ⟨(o.evs[n2].sys, o.evs[n2].e.1, o.evs[n2].e.2, o.evs[n2].code, o.evs[n2].val), hcells_ext hE5 ha3, ?_⟩
    refine Ld_sl (s := b.2.2.1) (((cb hE5).cell 2).trans rfl) (IxA_rn' evV_len hb2'.ev (by decide) rfl hn3 fun a4 ha4 => ?_)
    rw [getElem!_pos o.evs n2 hn3] at ha4
    refine ⟨(o.evs[n2].sys, o.evs[n2].e.1, o.evs[n2].e.2, o.evs[n2].code, o.evs[n2].val), hcells_ext hE5 ha4, ?_⟩
    dsimp only
    have x2 : eqL [(.int .i64), (.int .i64), (.int .i64), (.int .i64), (.int .i64)] (o.evs[n2].sys, o.evs[n2].e.1, o.evs[n2].e.2, o.evs[n2].code, o.evs[n2].val) (o.evs[n2].sys, o.evs[n2].e.1, o.evs[n2].e.2, o.evs[n2].code, o.evs[n2].val) = true := by simp [eqL, eqT]
    rw [x2, Bool.not_true, Br_false]
    exact Lt.mk (u := ((n2 + 1 : Nat) : Int)) (by rw [wrap_i64_id] <;> omega) (hnext2 _ _ ⟨rfl, n2 + 1, rfl, hn3⟩ (by omega))
end Go.Proofs.YtfpmgpblhhcpgaaGreat
/-
  Machine: outcomes are small; a run of what was copied, in whatever order its value is laid down.
-/
namespace Go.Proofs.YtfpmgpblhhcpgaaGreat
set_option linter.unusedVariables false
set_option linter.unusedSimpArgs false
open Go.Proofs.YtfpmgpblhhcpgaaGreat.Hc Go.Proofs.YtfpmgpblhhcpgaaGreat.Hc.Vf Go.Proofs.YtfpmgpblhhcpgaaGreat.Hc.Mc Go.Proofs.YtfpmgpblhhcpgaaGreat.Hc.Dice
set_option maxRecDepth 100000
variable {H : Heap}

/-- What is kept by each instruction that is ready is kept by a run that is not cut off. -/
theorem runs_ok {P : MP} {E : En} (hP : POk P) (hE : EOk E) (Q : Ms → Prop) (hs : ∀ m i, MOk P m → Rdy P m i → Q m → Q (does P E m i).2) {m m' : Ms} {N : Nat} {er : Int} (h : Runs P E m N er m') (he : er = 0) (hM : MOk P m) (h0 : Q m) : Q m' := by
  induction h with
  | over _ => exact h0
  | bad _ hne => exact absurd he hne
  | step ho h1 _ ih =>
    rename_i m _ _ _ _
    have hrdy : ready P m = 0 := by
      unfold stepM at h1
      split at h1
      · assumption
      · rename_i hne; exact absurd h1 hne
    have hst : stepM P E m = does P E m m.top.fn.code[m.top.nx.toNat]! := by unfold stepM; rw [if_pos hrdy]
    have hR := ready_iff hrdy
    rw [hst] at h1 ih
    refine ih he ?_ (hs m _ hM hR h0)
    rcases hM.does hP hE hR with ⟨_, hmo⟩ | ⟨h120, _⟩
    · exact hmo
    · rw [h1] at h120; cases h120
def SmM (m : Ms) : Prop := (∀ p ∈ m.kept, p.vals.length ≤ 64) ∧ ∀ c ∈ m.cmds, c.vals.length ≤ 64 ∧ c.parts.length ≤ 12 ∧ ∀ p ∈ c.parts, p.vals.length ≤ 64
theorem sm_does {P : MP} {E : En} {m : Ms} {i : Ins} (hM : MOk P m) (h : SmM m) : SmM (does P E m i).2 := by
  have hl : (args m (takes P.ps i).toNat).length ≤ 64 := by
    unfold args
    rw [List.length_drop]
    have := hM.top.stk
    omega
  unfold does
  dsimp only
  split
  · exact h
  split
  · exact h
  generalize args m (takes P.ps i).toNat = l at *
  have hk : SmM (cut m (takes P.ps i).toNat) := h
  have add : ∀ c : Cm, (c.vals.length ≤ 64 ∧ c.parts.length ≤ 12 ∧ ∀ p ∈ c.parts, p.vals.length ≤ 64) → ∀ d ∈ m.cmds ++ [c], d.vals.length ≤ 64 ∧ d.parts.length ≤ 12 ∧ ∀ p ∈ d.parts, p.vals.length ≤ 64 := fun c hc d hd => by
    rcases List.mem_append.1 hd with hd | hd
    · exact h.2 d hd
    · rw [List.mem_singleton.1 hd]; exact hc
  unfold act
  split
  case h_7 => dsimp only; split <;> exact h
  case h_8 => split <;> exact h
  case h_11 => split <;> exact h
  case h_13 =>
    refine ⟨fun p hp => ?_, h.2⟩
    rcases List.mem_append.1 hp with hp | hp
    · exact h.1 p hp
    · rw [List.mem_singleton.1 hp]; exact hl
  case h_14 =>
    have hp := rise_len hM.keptK
    exact ⟨fun p hp => (by cases hp), add _ ⟨Nat.zero_le _, by have := hp.length_eq; have := hM.kept; dsimp only; omega, fun p hpp => h.1 p (hp.subset hpp)⟩⟩
  case h_15 => exact ⟨h.1, add _ ⟨hl, Nat.zero_le _, fun p hp => (by cases hp)⟩⟩
  case h_16 => exact ⟨h.1, add _ ⟨Nat.zero_le _, Nat.zero_le _, fun p hp => (by cases hp)⟩⟩
  case h_17 => exact ⟨h.1, add _ ⟨Nat.zero_le _, Nat.zero_le _, fun p hp => (by cases hp)⟩⟩
  all_goals exact h
/-- An outcome of a run is small. -/
theorem out_small {P : MP} {E : En} {parts : List Pt} (hP : POk P) (hE : EOk E) (hv : ∀ p ∈ parts, All64 p.vals) (hl : ∀ p ∈ parts, p.vals.length ≤ 2 ^ 44) (hpl : parts.length ≤ 2 ^ 42) {o : Outc} (ho : IsOut P E (initM P E parts) o) {ps : List PtP} {cl : List CmP} (h1 : ps.map PtP.pt = o.vals) (h2 : cl.map CmP.cm = o.cmds) : OutSm o ps cl := by
  have hM := init_okD (P := P) (E := E) hv
  rcases ho with ⟨N, m, hr, rfl⟩ | ⟨N, er, m, hne, hr, rfl⟩
  · obtain ⟨hsh, _⟩ := runs_shape hr fun ev hev => by cases hev
    have hsm : SmM m := runs_ok hP hE SmM (fun m i hm _ hq => sm_does hm hq) hr rfl hM ⟨(fun p hp => by cases hp), fun c hc => by cases hc⟩
    have hMe : MOk P m := by
      rcases runs_end hP hE hr hM with ⟨_, h⟩ | ⟨h, _⟩ | ⟨h, _⟩
      · exact h
      · cases h
      · exact absurd rfl h
    have hsl : m.vals.length ≤ 2 ^ 42 := by
      have := congrArg List.length hsh
      simp only [shp2, List.length_map] at this
      rw [this]; exact hpl
    have hvl : ∀ p ∈ m.vals, p.vals.length ≤ 2 ^ 44 := fun p hp => by
      have : (p.kind, p.vals.length) ∈ shp2 m.vals := List.mem_map.2 ⟨p, hp, rfl⟩
      rw [hsh] at this
      obtain ⟨q, hq, e⟩ := List.mem_map.1 this
      have e2 : q.vals.length = p.vals.length := congrArg Prod.snd e
      rw [← e2]; exact hl q hq
    have hpsub : ∀ p ∈ partsP m.vals (sortU P.writes), p ∈ m.vals := fun p hp => by
      obtain ⟨k, _, hk⟩ := List.mem_filterMap.1 hp
      exact List.mem_of_find?_eq_some hk
    dsimp only at h1 h2
    have hcl : cl.length = m.cmds.length := by have := congrArg List.length h2; simpa using this
    refine ⟨?_, fun q hq => ?_, by have := hMe.cmds; omega, fun q hq => ?_, by have := hMe.evs; show m.evs.length ≤ _; omega⟩
    · have e : ps.length = (partsP m.vals (sortU P.writes)).length := by have := congrArg List.length h1; simpa using this
      have hu := (sortU_ok P.writes).1
      have h3 : (partsP m.vals (sortU P.writes)).length ≤ m.vals.length := by
        have hsub : ((partsP m.vals (sortU P.writes)).map Pt.kind).Sublist (sortU P.writes) := by
          generalize sortU P.writes = ks
          induction ks with
          | nil => exact .slnil
          | cons k ks ih =>
            unfold partsP
            rw [List.filterMap_cons]
            cases hf : m.vals.find? fun q => q.kind == k with
            | none => exact .cons _ ih
            | some q =>
              have : q.kind = k := by have := List.find?_some hf; simpa using this
              simp only [List.map_cons, this]
              exact .cons_cons _ ih
        have hnd : (sortU P.writes).Nodup := List.Pairwise.imp (fun {a b} (h : a < b) => (show a ≠ b by omega)) hu
        have := (hsub.nodup hnd).length_le_of_subset (l₂ := m.vals.map Pt.kind) fun u hu => by
          obtain ⟨q, hq, rfl⟩ := List.mem_map.1 hu
          exact List.mem_map.2 ⟨q, hpsub q hq, rfl⟩
        simpa using this
      omega
    · have : q.pt ∈ partsP m.vals (sortU P.writes) := by rw [← h1]; exact List.mem_map.2 ⟨q, hq, rfl⟩
      have := hvl _ (hpsub _ this)
      have e : q.pt.vals.length = q.vals.length := rfl
      omega
    · have : q.cm ∈ m.cmds := by rw [← h2]; exact List.mem_map.2 ⟨q, hq, rfl⟩
      obtain ⟨g1, g2, g3⟩ := hsm.2 _ this
      have g1 : q.vals.length ≤ 64 := g1
      have g2 : (q.parts.map PtP.pt).length ≤ 12 := g2
      rw [List.length_map] at g2
      refine ⟨by omega, by omega, fun p hp => ?_⟩
      have g3 : p.vals.length ≤ 64 := g3 p.pt (List.mem_map.2 ⟨p, hp, rfl⟩)
      omega
  · dsimp only at h1 h2
    have e1 : ps = [] := by cases ps with | nil => rfl | cons _ _ => cases h1
    have e2 : cl = [] := by cases cl with | nil => rfl | cons _ _ => cases h2
    subst e1 e2
    exact ⟨Nat.zero_le _, (fun q h => by cases h), Nat.zero_le _, (fun q h => by cases h), Nat.zero_le _⟩
theorem outIs_small {lim : Int} {B : Heap} {p : Sl × Sl} {ss : List Sy} {fs : List Rou} {n : Int} {E : En} {parts : List Pt} (hP : PrgI B p ss fs) (hE : EOk E) (hv : ∀ p ∈ parts, All64 p.vals) (hl : ∀ p ∈ parts, p.vals.length ≤ 2 ^ 44) (hpl : parts.length ≤ 2 ^ 42) {o : Outc} (ho : OutIs lim ss fs n E parts o) {ps : List PtP} {cl : List CmP} (h1 : ps.map PtP.pt = o.vals) (h2 : cl.map CmP.cm = o.cmds) : OutSm o ps cl := by
  unfold OutIs at ho
  split at ho
  · rename_i hn
    exact out_small (hP.pok hn lim) hE hv hl hpl ho h1 h2
  · subst ho
    dsimp only at h1 h2
    have e1 : ps = [] := by cases ps with | nil => rfl | cons _ _ => cases h1
    have e2 : cl = [] := by cases cl with | nil => rfl | cons _ _ => cases h2
    subst e1 e2
    exact ⟨Nat.zero_le _, (fun q h => by cases h), Nat.zero_le _, (fun q h => by cases h), Nat.zero_le _⟩
theorem firsts_sub' {l : List Pt} {P : Pt → Prop} (h : ∀ p ∈ l, P p) : ∀ p ∈ firsts l, P p := firsts_sub l [] P (fun p hp => by cases hp) h
/-- The program's run, over what a run leans on. -/
theorem s_RunG {p : Sl × Sl} {ss : List Sy} {fs : List Rou} {e : EnV} {ins : List (Int × Int × Int)} {ps0 : List PtP} (hss : RN sysV 8 H p.1 ss) {n : Int} (hi : 0 ≤ n ∧ n < (ss.length : Int) → RunIn H p ss n e ps0 fs ins) {k : OutS → Heap → Prop}
    (hk : ∀ H' r o vs cl, Ext H H' → OutIs (2 ^ 40) ss fs n (enS e ins) (firsts (ps0.map PtP.pt)) o → OutM H.size H' r o vs cl → k r H') :
    CallT Pg f_machine_Run [prgA p, .int .i64 n, envA e] RunT H k := by
  by_cases hn : 0 ≤ n ∧ n < (ss.length : Int)
  · have r := hi hn
    refine s_Run inputOk (fs := fs) (ins := ins) (ps0 := ps0) r.h_ss hn r.h_cx r.h_co r.h_ps r.h_pr r.h_pl r.h_wl ⟨r.h_P.fns, r.h_P.sys⟩ r.h_E (fun H' N er m' h hr hne => hk _ _ _ _ _ h ((if_pos hn).mpr (.inr ⟨N, er, m', hne, hr, rfl⟩)) (OutM.nil _ _ _ _))
      fun H' N m' vs cs es ps' cl q h hr ho hcm hv hnd hps => hk _ _ _ ps' cl h ((if_pos hn).mpr (.inl ⟨N, m', hr, rfl⟩)) ⟨ho, ?_, hcm.symm, rfl, rfl⟩
    rw [hps, partsOf_pt, ← hv]
  · exact s_Run_no (e := e) hss hn fun H' h => hk _ _ ⟨[], [], [], 0, 190⟩ _ _ h (by unfold OutIs; rw [if_neg hn]) (OutM.nil _ _ _ _)
abbrev outV (r : OutS) : List Value := [slV r.1, slV r.2.1, slV r.2.2.1, .int .i64 r.2.2.2.1, .int .i64 r.2.2.2.2]
abbrev stE (b2 : Nat) (e : EnV) : List (Addr × Value) := [(⟨b2, 0, none⟩, .int .i64 e.fr), (⟨b2, 1, none⟩, .int .i64 e.sd), (⟨b2, 2, none⟩, .int .i64 e.en), (⟨b2, 3, none⟩, .slice e.inS.a e.inS.len e.inS.cap), (⟨b2, 4, none⟩, .int .i64 e.ix), (⟨b2, 5, none⟩, .int .i64 e.gn), (⟨b2, 6, none⟩, .slice e.rp.a e.rp.len e.rp.cap)]
abbrev stP (b1 : Nat) (p : Sl × Sl) : List (Addr × Value) := [(⟨b1, 0, none⟩, .slice p.1.a p.1.len p.1.cap), (⟨b1, 1, none⟩, .slice p.2.a p.2.len p.2.cap)]
theorem st_prog {b1 : Nat} {p : Sl × Sl} (r : Row H b1 T_api_Program [slV p.1, slV p.2]) : ∀ y ∈ stP b1 p, hcell H y.1 = some y.2 := fun y hy => by
  simp only [List.mem_cons, List.not_mem_nil, or_false] at hy
  rcases hy with rfl | rfl
  · exact (r.cell 0).trans rfl
  · exact (r.cell 1).trans rfl
theorem st_env {b2 : Nat} {e : EnV} (r : Row H b2 T_api_Env (envL e)) : ∀ y ∈ stE b2 e, hcell H y.1 = some y.2 := fun y hy => by
  simp only [List.mem_cons, List.not_mem_nil, or_false] at hy
  rcases hy with rfl | rfl | rfl | rfl | rfl | rfl | rfl
  · exact (r.cell 0).trans rfl
  · exact (r.cell 1).trans rfl
  · exact (r.cell 2).trans rfl
  · exact (r.cell 3).trans rfl
  · exact (r.cell 4).trans rfl
  · exact (r.cell 5).trans rfl
  · exact (r.cell 6).trans rfl
theorem st_both {b1 b2 : Nat} {p : Sl × Sl} {e : EnV} (r1 : Row H b1 T_api_Program [slV p.1, slV p.2]) (r2 : Row H b2 T_api_Env (envL e)) : ∀ y ∈ stE b2 e ++ stP b1 p, hcell H y.1 = some y.2 := fun y hy => by
  rcases List.mem_append.1 hy with h | h
  · exact st_env r2 y h
  · exact st_prog r1 y h
/-- 'x := run(p, n, copied(e))', in all the orders in which its memory may be laid. -/
theorem run3 {f : FuncId} {H5 : Heap} {p : Sl × Sl} {e : EnV} {ins : List (Int × Int × Int)} {ps : List PtP} {n : Int} {b1 b2 : Nat} (hin : RN inV 3 H5 e.inS ins) (hil : ins.length ≤ 2 ^ 43) (hprt : RN ptV 2 H5 e.rp ps) (hpr : ∀ q ∈ ps, RL (Value.int .i64) H5 q.sl q.vals ∧ q.vals.length ≤ 2 ^ 44) (hpl : ps.length ≤ 2 ^ 42)
    (r1 : Row H5 b1 T_api_Program [slV p.1, slV p.2]) (r2 : Row H5 b2 T_api_Env (envL e)) {Res : Heap → Heap → OutS → Prop} (hupd : ∀ {H7 H8 H9 r b}, Res H7 H8 r → Upd (· = b) H8 H9 → (b < H7.size ∨ H8.size ≤ b) → Res H7 H9 r)
    (hrun : ∀ {H7 : Heap} {lo bi bp : Nat} {qs : List PtP}, Ext H5 H7 → CpR lo H7 bi bp ins qs → qs.map PtP.pt = ps.map PtP.pt → ∀ {k : OutS → Heap → Prop}, (∀ H8 r, Ext H7 H8 → Res H7 H8 r → k r H8) → CallT Pg f [prgA p, .int .i64 n, envA (cpE e bi bp ins.length ps.length)] RunT H7 k)
    {K : Nat → Heap → Prop} (hK : ∀ H7 H14 b3 r, Ext H5 H14 → H5.size ≤ H7.size → Row H14 b3 T_api_Outcome (outV r) → Res H7 H14 r → H5.size ≤ b3 → K b3 H14) :
    (CallT Pg f_hindcastlaw16_copied [envA e] EnvR H5 fun (r4 : Int × Int × Int × Sl × Int × Int × Sl) H7 =>
      Stab (stP b1 p) H7 <|
      ((CallT Pg f [prgA p, .int .i64 n, .agg #[.int .i64 r4.1, .int .i64 r4.2.1, .int .i64 r4.2.2.1, .slice r4.2.2.2.1.a r4.2.2.2.1.len r4.2.2.2.1.cap, .int .i64 r4.2.2.2.2.1, .int .i64 r4.2.2.2.2.2.1, .slice r4.2.2.2.2.2.2.a r4.2.2.2.2.2.2.len r4.2.2.2.2.2.2.cap]] RunT H7 fun (r5 : OutS) H8 =>
        Stab (stE b2 e) H8 <|
        Nw #[.slice none 0 0, .slice none 0 0, .slice none 0 0, .int .i64 0, .int .i64 0] T_api_Outcome H8 fun b3 H9 =>
        Stab (stE b2 e ++ stP b1 p) H9 <|
        St ⟨b3, 0, none⟩ (.slice r5.1.a r5.1.len r5.1.cap) H9 fun H10 =>
        St ⟨b3, 1, none⟩ (.slice r5.2.1.a r5.2.1.len r5.2.1.cap) H10 fun H11 =>
        St ⟨b3, 2, none⟩ (.slice r5.2.2.1.a r5.2.2.1.len r5.2.2.1.cap) H11 fun H12 =>
        St ⟨b3, 3, none⟩ (.int .i64 r5.2.2.2.1) H12 fun H13 =>
        St ⟨b3, 4, none⟩ (.int .i64 r5.2.2.2.2) H13 fun H14 => K b3 H14) ∧
      (Nw #[.slice none 0 0, .slice none 0 0, .slice none 0 0, .int .i64 0, .int .i64 0] T_api_Outcome H7 fun b3 H8 =>
        Stab (stE b2 e ++ stP b1 p) H8 <|
        CallT Pg f [prgA p, .int .i64 n, .agg #[.int .i64 r4.1, .int .i64 r4.2.1, .int .i64 r4.2.2.1, .slice r4.2.2.2.1.a r4.2.2.2.1.len r4.2.2.2.1.cap, .int .i64 r4.2.2.2.2.1, .int .i64 r4.2.2.2.2.2.1, .slice r4.2.2.2.2.2.2.a r4.2.2.2.2.2.2.len r4.2.2.2.2.2.2.cap]] RunT H8 fun (r5 : OutS) H9 =>
        Stab (stE b2 e) H9 <|
        St ⟨b3, 0, none⟩ (.slice r5.1.a r5.1.len r5.1.cap) H9 fun H10 =>
        St ⟨b3, 1, none⟩ (.slice r5.2.1.a r5.2.1.len r5.2.1.cap) H10 fun H11 =>
        St ⟨b3, 2, none⟩ (.slice r5.2.2.1.a r5.2.2.1.len r5.2.2.1.cap) H11 fun H12 =>
        St ⟨b3, 3, none⟩ (.int .i64 r5.2.2.2.1) H12 fun H13 =>
        St ⟨b3, 4, none⟩ (.int .i64 r5.2.2.2.2) H13 fun H14 => K b3 H14) ∧ True)) ∧
    (Nw #[.slice none 0 0, .slice none 0 0, .slice none 0 0, .int .i64 0, .int .i64 0] T_api_Outcome H5 fun b3 H6 =>
      Stab (stE b2 e ++ stP b1 p) H6 <|
      CallT Pg f_hindcastlaw16_copied [envA e] EnvR H6 fun (r4 : Int × Int × Int × Sl × Int × Int × Sl) H7 =>
      Stab (stP b1 p) H7 <|
      CallT Pg f [prgA p, .int .i64 n, .agg #[.int .i64 r4.1, .int .i64 r4.2.1, .int .i64 r4.2.2.1, .slice r4.2.2.2.1.a r4.2.2.2.1.len r4.2.2.2.1.cap, .int .i64 r4.2.2.2.2.1, .int .i64 r4.2.2.2.2.2.1, .slice r4.2.2.2.2.2.2.a r4.2.2.2.2.2.2.len r4.2.2.2.2.2.2.cap]] RunT H7 fun (r5 : OutS) H8 =>
      Stab (stE b2 e) H8 <|
      St ⟨b3, 0, none⟩ (.slice r5.1.a r5.1.len r5.1.cap) H8 fun H10 =>
      St ⟨b3, 1, none⟩ (.slice r5.2.1.a r5.2.1.len r5.2.1.cap) H10 fun H11 =>
      St ⟨b3, 2, none⟩ (.slice r5.2.2.1.a r5.2.2.1.len r5.2.2.1.cap) H11 fun H12 =>
      St ⟨b3, 3, none⟩ (.int .i64 r5.2.2.2.1) H12 fun H13 =>
      St ⟨b3, 4, none⟩ (.int .i64 r5.2.2.2.2) H13 fun H14 => K b3 H14) ∧ True := by
  have tail : ∀ {H7 H8 : Heap} {b3 : Nat} {r : OutS}, Ext H5 H8 → H5.size ≤ H7.size → Res H7 H8 r → Row H8 b3 T_api_Outcome [.slice none 0 0, .slice none 0 0, .slice none 0 0, .int .i64 0, .int .i64 0] → H5.size ≤ b3 → (b3 < H7.size ∨ (∃ H8', H8'.size ≤ b3 ∧ Res H7 H8' r ∧ Ext H8' H8)) →
      St ⟨b3, 0, none⟩ (.slice r.1.a r.1.len r.1.cap) H8 fun H10 => St ⟨b3, 1, none⟩ (.slice r.2.1.a r.2.1.len r.2.1.cap) H10 fun H11 => St ⟨b3, 2, none⟩ (.slice r.2.2.1.a r.2.2.1.len r.2.2.1.cap) H11 fun H12 => St ⟨b3, 3, none⟩ (.int .i64 r.2.2.2.1) H12 fun H13 => St ⟨b3, 4, none⟩ (.int .i64 r.2.2.2.2) H13 fun H14 => K b3 H14 := fun {H7 H8 b3 r} hx h7 hres h3 hb3 hor => by
    refine St_row h3 (by simp) fun G1 hU1 _ hg1 => St_row hg1 (by simp) fun G2 hU2 _ hg2 => St_row hg2 (by simp) fun G3 hU3 _ hg3 => St_row hg3 (by simp) fun G4 hU4 _ hg4 => St_row hg4 (by simp) fun G5 hU5 _ hg5 => ?_
    have hUU : Upd (· = b3) H8 G5 := (((hU1.trans hU2 fun _ _ e => e).trans hU3 fun _ _ e => e).trans hU4 fun _ _ e => e).trans hU5 fun _ _ e => e
    refine hK H7 G5 b3 r (extUpd hx hb3 hUU) h7 hg5 ?_ hb3
    rcases hor with h | ⟨H8', h1, h2, h3⟩
    · exact hupd hres hUU (.inl h)
    · exact hupd h2 ((h3.mono fun _ _ h => h.elim).trans hUU fun _ _ e => e) (.inr h1)
  refine ⟨?_, ?_, trivial⟩
  · refine s_copied (e := e) hin hprt hpr hil hpl fun H7 bi bp qs hE7 hcp hqs => ?_
    have q1 := hE7.row r1 fun h => h
    have q2 := hE7.row r2 fun h => h
    refine Stab_all (st_prog q1) ⟨?_, ?_, trivial⟩
    · refine hrun hE7 hcp hqs fun H8 r hE8 hres => ?_
      have hE58 := hE7.trans hE8 fun _ _ h => h
      have q1 := hE8.row q1 fun h => h
      have q2 := hE8.row q2 fun h => h
      refine Stab_all (st_env q2) (Nw_row (vs := [.slice none 0 0, .slice none 0 0, .slice none 0 0, .int .i64 0, .int .i64 0]) fun b3 H9 hb3 hE9 _ hr3 => ?_)
      refine Stab_all (st_both (hE9.row q1 fun h => h) (hE9.row q2 fun h => h)) ?_
      exact tail (hE58.trans hE9 fun _ _ h => h) hE7.size (hupd hres (hE9.mono fun _ _ h => h.elim : Upd (· = b3) H8 H9) (.inr (by omega))) hr3 (by have := hE58.size; omega) (.inr ⟨H8, by omega, hres, hE9⟩)
    · refine Nw_row (vs := [.slice none 0 0, .slice none 0 0, .slice none 0 0, .int .i64 0, .int .i64 0]) fun b3 H8 hb3 hE8 _ hr3 => ?_
      have q1 := hE8.row q1 fun h => h
      have q2 := hE8.row q2 fun h => h
      refine Stab_all (st_both q1 q2) ?_
      have hE58 := hE7.trans hE8 fun _ _ h => h
      refine hrun hE58 (hcp.ext hE8) hqs fun H9 r hE9 hres => ?_
      refine Stab_all (st_env (hE9.row q2 fun h => h)) ?_
      exact tail (hE58.trans hE9 fun _ _ h => h) hE58.size hres (hE9.row hr3 fun h => h) (by have := hE7.size; omega) (.inl hr3.lt)
  · refine Nw_row (vs := [.slice none 0 0, .slice none 0 0, .slice none 0 0, .int .i64 0, .int .i64 0]) fun b3 H6 hb3 hE6 _ hr3 => ?_
    have q1 := hE6.row r1 fun h => h
    have q2 := hE6.row r2 fun h => h
    refine Stab_all (st_both q1 q2) ?_
    refine s_copied (e := e) (hin.ext hE6) (hprt.ext hE6) (fun q hq => ⟨(hpr q hq).1.ext hE6, (hpr q hq).2⟩) hil hpl fun H7 bi bp qs hE7 hcp hqs => ?_
    have q1 := hE7.row q1 fun h => h
    have q2 := hE7.row q2 fun h => h
    refine Stab_all (st_prog q1) ?_
    have hE57 := hE6.trans hE7 fun _ _ h => h
    refine hrun hE57 hcp hqs fun H8 r hE8 hres => ?_
    refine Stab_all (st_env (hE8.row q2 fun h => h)) ?_
    exact tail (hE57.trans hE8 fun _ _ h => h) hE57.size hres ((hE7.trans hE8 fun _ _ h => h).row hr3 fun h => h) (by omega) (.inl (by have := hr3.lt; have := hE7.size; omega))
end Go.Proofs.YtfpmgpblhhcpgaaGreat
