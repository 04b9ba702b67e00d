/-
  Heaps: what a block holds, what a step may have turned, and rules for the printed conditions' words.
-/
import Derived.Test.YtlkmmplgfjicjaaGreatVVer
import Derived.Test.YtlkmmplgfjicjaaGreatHcFun
import Derived.KernelRfl
import Derived.Test.YtlkmmplgfjicjaaGreatProg
namespace Go.Proofs.YtlkmmplgfjicjaaGreat
set_option linter.unusedVariables false
set_option linter.unusedSimpArgs false
open Go.Proofs.YtlkmmplgfjicjaaGreat.Hc
abbrev T_hindcastref15_routine : TypeId := 94
abbrev f_hindcastlaw15_VerifySays : FuncId := 3
abbrev f_hindcastlaw15_says : FuncId := 6
abbrev f_hindcastlaw15_named : FuncId := 15
abbrev f_hindcastlaw15_sameKinds : FuncId := 17
abbrev f_hindcastref15_Verify : FuncId := 18
abbrev f_hindcastref06_MayBe : FuncId := 30
abbrev f_hindcastref13_May : FuncId := 31
abbrev f_hindcastref15_routines : FuncId := 32
abbrev f_hindcastref15_access : FuncId := 33
abbrev f_hindcastref15_loops : FuncId := 34
abbrev f_hindcastref15_round : FuncId := 36
abbrev f_hindcastref06_words : FuncId := 54
abbrev f_hindcastref13_set : FuncId := 55
abbrev f_hindcastref13_routine : FuncId := 56
abbrev f_hindcastref15_fields : FuncId := 57
abbrev f_hindcastref15_in : FuncId := 58
abbrev f_hindcastref06_word : FuncId := 81
abbrev f_hindcastref13_instrs : FuncId := 82
abbrev f_hindcastref13_HasA : FuncId := 99
/-- hindcast/hindcastlaw15.VerifySays -/
def v_hindcastlaw15_VerifySays (t0_ : Sl × Sl) (t1_ : Sl) (t2_ : Int) (t3_ : Int) (t4_ : Int × Int) (H : Heap) (k : Bool → Heap → Prop) : Prop :=
    Nw #[.slice t0_.1.a t0_.1.len t0_.1.cap, .slice t0_.2.a t0_.2.len t0_.2.cap] T_api_Program H fun b1 H1 =>
    Nw #[.int .i64 t4_.1, .int .i64 t4_.2] T_api_Instr H1 fun b2 H2 =>
    CallT Pg f_hindcastlaw15_shown [] (.one (.c .bool)) H2 fun (r1 : Bool) H3 =>
    LdC [.sl, .sl] (adr b1) H3 fun (c1 : Sl × Sl) =>
    CallT Pg f_hindcastlaw15_lent [.agg #[.slice c1.1.a c1.1.len c1.1.cap, .slice c1.2.a c1.2.len c1.2.cap]] (.one (.agg [.sl, .sl])) H3 fun (r2 : Sl × Sl) H4 =>
    Nw #[.slice none 0 0, .slice none 0 0] T_api_Program H4 fun b3 H5 =>
    St ((adr b3).add 0) (.slice r2.1.a r2.1.len r2.1.cap) H5 fun H6 =>
    St ((adr b3).add 1) (.slice r2.2.a r2.2.len r2.2.cap) H6 fun H7 =>
    LdC [.sl, .sl] (adr b3) H7 fun (c2 : Sl × Sl) =>
    LdC [.sl, .sl] (adr b1) H7 fun (c3 : Sl × Sl) =>
    CallT Pg f_hindcastlaw15_says [.agg #[.slice c2.1.a c2.1.len c2.1.cap, .slice c2.2.a c2.2.len c2.2.cap], .agg #[.slice c3.1.a c3.1.len c3.1.cap, .slice c3.2.a c3.2.len c3.2.cap], .slice t1_.a t1_.len t1_.cap] (.one (.c .bool)) H7 fun (r3 : Bool) H8 =>
    Jn (σ := Bool) /- t31 -/ (fun kk1 =>
      Br (!r1) (
        kk1 true H8) (
        kk1 (!r3) H8)) fun j1 H9 =>
    Br j1 (
      k false H9) (
      Ld .sl (adr b1) H9 fun (x1 : Sl) =>
      Ld .sl ((adr b1).add 1) H9 fun (x2 : Sl) =>
      Lt (IntKind.wrap .i64 ((x1.len : Int) + (x2.len : Int))) fun t1 =>
      Br (t1 == 0) (
        k true H9) (
        CallT Pg f_hindcastlaw15_pick [.int .i64 t2_, .int .i64 t1] (.one (.c (.int .i64))) H9 fun (r4 : Int) H10 =>
        LdC [.sl, .sl] (adr b1) H10 fun (c4 : Sl × Sl) =>
        CallT Pg f_hindcastlaw15_lent [.agg #[.slice c4.1.a c4.1.len c4.1.cap, .slice c4.2.a c4.2.len c4.2.cap]] (.one (.agg [.sl, .sl])) H10 fun (r5 : Sl × Sl) H11 =>
        Nw #[.slice none 0 0, .slice none 0 0] T_api_Program H11 fun b4 H12 =>
        St ((adr b4).add 0) (.slice r5.1.a r5.1.len r5.1.cap) H12 fun H13 =>
        St ((adr b4).add 1) (.slice r5.2.a r5.2.len r5.2.cap) H13 fun H14 =>
        Ld .sl (adr b1) H14 fun (x3 : Sl) =>
        Jn (σ := Unit) /-  -/ (fun kk2 =>
          Br (decide (r4 < (x3.len : Int))) (
            Ld .sl (adr b1) H14 fun (x4 : Sl) =>
            IxA 8 x4 r4 fun a1 =>
            Ld .sl ((a1.add 4).add 3) H14 fun (x5 : Sl) =>
            Br ((x5.len : Int) == 0) (
              k true H14) (
              Ld .sl (adr b1) H14 fun (x6 : Sl) =>
              IxA 8 x6 r4 fun a2 =>
              Ld .sl ((a2.add 4).add 3) H14 fun (x7 : Sl) =>
              CallT Pg f_hindcastlaw15_pick [.int .i64 t3_, .int .i64 (x7.len : Int)] (.one (.c (.int .i64))) H14 fun (r6 : Int) H16 =>
              Ld .sl (adr b3) H16 fun (x8 : Sl) =>
              IxA 8 x8 r4 fun a3 =>
              Ld .sl ((a3.add 4).add 3) H16 fun (x9 : Sl) =>
              LdC [(.int .i64), (.int .i64)] (adr b2) H16 fun (c5 : Int × Int) =>
              IxA 2 x9 r6 fun a4 =>
              St (a4.add 0) (.int .i64 c5.1) H16 fun H17 =>
              St (a4.add 1) (.int .i64 c5.2) H17 fun H18 =>
              Ld .sl (adr b4) H18 fun (x10 : Sl) =>
              IxA 8 x10 r4 fun a5 =>
              Ld .sl ((a5.add 4).add 3) H18 fun (x11 : Sl) =>
              LdC [(.int .i64), (.int .i64)] (adr b2) H18 fun (c6 : Int × Int) =>
              IxA 2 x11 r6 fun a6 =>
              St (a6.add 0) (.int .i64 c6.1) H18 fun H19 =>
              St (a6.add 1) (.int .i64 c6.2) H19 fun H20 =>
              kk2 () H20)) (
            Ld .sl (adr b1) H14 fun (x12 : Sl) =>
            Lt (IntKind.wrap .i64 (r4 - (x12.len : Int))) fun t2 =>
            Ld .sl ((adr b1).add 1) H14 fun (x13 : Sl) =>
            IxA 4 x13 t2 fun a7 =>
            Ld .sl (a7.add 3) H14 fun (x14 : Sl) =>
            Br ((x14.len : Int) == 0) (
              k true H14) (
              Ld .sl ((adr b1).add 1) H14 fun (x15 : Sl) =>
              IxA 4 x15 t2 fun a8 =>
              Ld .sl (a8.add 3) H14 fun (x16 : Sl) =>
              CallT Pg f_hindcastlaw15_pick [.int .i64 t3_, .int .i64 (x16.len : Int)] (.one (.c (.int .i64))) H14 fun (r7 : Int) H21 =>
              Ld .sl ((adr b3).add 1) H21 fun (x17 : Sl) =>
              IxA 4 x17 t2 fun a9 =>
              Ld .sl (a9.add 3) H21 fun (x18 : Sl) =>
              LdC [(.int .i64), (.int .i64)] (adr b2) H21 fun (c7 : Int × Int) =>
              IxA 2 x18 r7 fun a10 =>
              St (a10.add 0) (.int .i64 c7.1) H21 fun H22 =>
              St (a10.add 1) (.int .i64 c7.2) H22 fun H23 =>
              Ld .sl ((adr b4).add 1) H23 fun (x19 : Sl) =>
              IxA 4 x19 t2 fun a11 =>
              Ld .sl (a11.add 3) H23 fun (x20 : Sl) =>
              LdC [(.int .i64), (.int .i64)] (adr b2) H23 fun (c8 : Int × Int) =>
              IxA 2 x20 r7 fun a12 =>
              St (a12.add 0) (.int .i64 c8.1) H23 fun H24 =>
              St (a12.add 1) (.int .i64 c8.2) H24 fun H25 =>
              kk2 () H25))) fun j2 H15 =>
        LdC [.sl, .sl] (adr b3) H15 fun (c9 : Sl × Sl) =>
        LdC [.sl, .sl] (adr b4) H15 fun (c10 : Sl × Sl) =>
        CallT Pg f_hindcastlaw15_says [.agg #[.slice c9.1.a c9.1.len c9.1.cap, .slice c9.2.a c9.2.len c9.2.cap], .agg #[.slice c10.1.a c10.1.len c10.1.cap, .slice c10.2.a c10.2.len c10.2.cap], .slice t1_.a t1_.len t1_.cap] (.one (.c .bool)) H15 fun (r8 : Bool) H26 =>
        k r8 H26))
def h_hindcastlaw15_VerifySays : Hint := (.two .no (.two .no (.two .no (.two .no (.two (.two (.join [(31, (.c .bool))] .no) .no) (.two .no (.two .no (.two .no (.two .no (.two (.two .no (.join [] .no)) .no))))))))))
theorem e_hindcastlaw15_VerifySays (t0_ : Sl × Sl) (t1_ : Sl) (t2_ : Int) (t3_ : Int) (t4_ : Int × Int) (H : Heap) (k : Bool → Heap → Prop) : EFun Pg Tryz.f3 h_hindcastlaw15_VerifySays [.agg #[.slice t0_.1.a t0_.1.len t0_.1.cap, .slice t0_.2.a t0_.2.len t0_.2.cap], .slice t1_.a t1_.len t1_.cap, .int .i64 t2_, .int .i64 t3_, .agg #[.int .i64 t4_.1, .int .i64 t4_.2]] (.one (.c .bool)) H k = v_hindcastlaw15_VerifySays t0_ t1_ t2_ t3_ t4_ H k := by kernel_rfl
theorem c_hindcastlaw15_VerifySays (t0_ : Sl × Sl) (t1_ : Sl) (t2_ : Int) (t3_ : Int) (t4_ : Int × Int) {H : Heap} {k : Bool → Heap → Prop} (h : v_hindcastlaw15_VerifySays t0_ t1_ t2_ t3_ t4_ H k) : CallT Pg f_hindcastlaw15_VerifySays [.agg #[.slice t0_.1.a t0_.1.len t0_.1.cap, .slice t0_.2.a t0_.2.len t0_.2.cap], .slice t1_.a t1_.len t1_.cap, .int .i64 t2_, .int .i64 t3_, .agg #[.int .i64 t4_.1, .int .i64 t4_.2]] (.one (.c .bool)) H k :=
  call_of_E Pg_mixed Tryz.func3 (by kernel_rfl) (by kernel_rfl) (by kernel_rfl) (by kernel_rfl) ((e_hindcastlaw15_VerifySays t0_ t1_ t2_ t3_ t4_ H k).symm ▸ h)
/-- hindcast/hindcastlaw15.says -/
def v_hindcastlaw15_says (t0_ : Sl × Sl) (t1_ : Sl × Sl) (t2_ : Sl) (H : Heap) (k : Bool → Heap → Prop) : Prop :=
    Nw #[.slice t0_.1.a t0_.1.len t0_.1.cap, .slice t0_.2.a t0_.2.len t0_.2.cap] T_api_Program H fun b1 H1 =>
    Nw #[.slice t1_.1.a t1_.1.len t1_.1.cap, .slice t1_.2.a t1_.2.len t1_.2.cap] T_api_Program H1 fun b2 H2 =>
    CallT Pg f_hindcastlaw15_named [.slice t2_.a t2_.len t2_.cap] (.one (.c .sl)) H2 fun (r1 : Sl) H3 =>
    LdC [.sl, .sl] (adr b1) H3 fun (c1 : Sl × Sl) =>
    CallT Pg f_verify_Verify [.agg #[.slice c1.1.a c1.1.len c1.1.cap, .slice c1.2.a c1.2.len c1.2.cap], .slice r1.a r1.len r1.cap] (.one (.c .raw)) H3 fun (r2 : Value) H4 =>
    LdC [.sl, .sl] (adr b1) H4 fun (c2 : Sl × Sl) =>
    CallT Pg f_verify_Verify [.agg #[.slice c2.1.a c2.1.len c2.1.cap, .slice c2.2.a c2.2.len c2.2.cap], .slice r1.a r1.len r1.cap] (.one (.c .raw)) H4 fun (r3 : Value) H5 =>
    LdC [.sl, .sl] (adr b1) H5 fun (c3 : Sl × Sl) =>
    LdC [.sl, .sl] (adr b2) H5 fun (c4 : Sl × Sl) =>
    CallT Pg f_hindcastlaw15_still [.agg #[.slice c3.1.a c3.1.len c3.1.cap, .slice c3.2.a c3.2.len c3.2.cap], .agg #[.slice c4.1.a c4.1.len c4.1.cap, .slice c4.2.a c4.2.len c4.2.cap]] (.one (.c .bool)) H5 fun (r4 : Bool) H6 =>
    CallT Pg f_hindcastlaw15_sameKinds [.slice r1.a r1.len r1.cap, .slice t2_.a t2_.len t2_.cap] (.one (.c .bool)) H6 fun (r5 : Bool) H7 =>
    Jn (σ := Bool) /- t10 -/ (fun kk1 =>
      Br r4 (
        kk1 r5 H7) (
        kk1 false H7)) fun j1 H8 =>
    CallT Pg f_hindcastlaw15_fault [r2] (.tup [(.c (.int .i64)), (.c (.int .i64)), (.c .bool)]) H8 fun (r6 : Int × Int × Bool) H9 =>
    LdC [.sl, .sl] (adr b2) H9 fun (c5 : Sl × Sl) =>
    CallT Pg f_hindcastref15_Verify [.agg #[.slice c5.1.a c5.1.len c5.1.cap, .slice c5.2.a c5.2.len c5.2.cap], .slice t2_.a t2_.len t2_.cap] (.tup [(.c (.int .i64)), (.c (.int .i64))]) H9 fun (r7 : Int × Int) H10 =>
    Jn (σ := Bool) /- t66 -/ (fun kk2 =>
      Br (!j1) (
        kk2 true H10) (
        Br (!r6.2.2) (
          kk2 true H10) (
          Br (r6.1 != r7.1) (
            kk2 true H10) (
            kk2 (r6.2.1 != r7.2) H10)))) fun j2 H11 =>
    Br j2 (
      k false H11) (
      TAs (.c .ptr) T_P_api_Fault none r2 fun (x1 : Option Addr) e1 =>
      Jn (σ := Bool) /- t76 -/ (fun kk3 =>
        Br e1 (
          kk3 (!x1.isNone) H11) (
          kk3 false H11)) fun j3 H12 =>
      Jn (σ := Unit) /-  -/ (fun kk4 =>
        Br j3 (
          NilCk x1 fun a1 =>
          St a1 (.int .i64 (-7)) H12 fun H14 =>
          NilCk x1 fun a2 =>
          St (a2.add 1) (.int .i64 7) H14 fun H15 =>
          kk4 () H15) (
          kk4 () H12)) fun j4 H13 =>
      CallT Pg f_hindcastlaw15_fault [r3] (.tup [(.c (.int .i64)), (.c (.int .i64)), (.c .bool)]) H13 fun (r8 : Int × Int × Bool) H16 =>
      Jn (σ := Bool) /- t105 -/ (fun kk5 =>
        Br (!r8.2.2) (
          kk5 true H16) (
          Br (r8.1 != r7.1) (
            kk5 true H16) (
            Br (r8.2.1 != r7.2) (
              kk5 true H16) (
              kk5 ((r1.len : Int) == 0) H16)))) fun j5 H17 =>
      Br j5 (
        Jn (σ := Bool) /- t6 -/ (fun kk6 =>
          Br r8.2.2 (
            Br (r8.1 == r7.1) (
              kk6 (r8.2.1 == r7.2) H17) (
              kk6 false H17)) (
            kk6 false H17)) fun j6 H18 =>
        k j6 H18) (
        LdC [.sl, .sl] (adr b1) H17 fun (c6 : Sl × Sl) =>
        CallT Pg f_verify_Verify [.agg #[.slice c6.1.a c6.1.len c6.1.cap, .slice c6.2.a c6.2.len c6.2.cap], .slice r1.a r1.len r1.cap] (.one (.c .raw)) H17 fun (r9 : Value) H19 =>
        Quo .i64 (r1.len : Int) 2 fun t1 =>
        IxA 2 r1 0 fun a3 =>
        Ld .str a3 H19 fun (x2 : ByteArray) =>
        Nw #[.string (⟨#[97]⟩ : ByteArray), .string (⟨#[98]⟩ : ByteArray), .string (⟨#[99]⟩ : ByteArray)] T_string H19 fun b3 H20 =>
        IxA 2 r1 t1 fun a4 =>
        St (a4.add 0) (.string x2) H20 fun H21 =>
        St (a4.add 1) (.slice (some (adr b3)) 3 3) H21 fun H22 =>
        App T_api_Kind 2 40 #[.string ByteArray.empty, .slice none 0 0] ⟨none, 0, 0⟩ r1 H22 fun l1 H23 =>
        LdC [.sl, .sl] (adr b1) H23 fun (c7 : Sl × Sl) =>
        CallT Pg f_verify_Verify [.agg #[.slice c7.1.a c7.1.len c7.1.cap, .slice c7.2.a c7.2.len c7.2.cap], .slice r1.a r1.len r1.cap] (.one (.c .raw)) H23 fun (r10 : Value) H24 =>
        CallT Pg f_hindcastlaw15_fault [r10] (.tup [(.c (.int .i64)), (.c (.int .i64)), (.c .bool)]) H24 fun (r11 : Int × Int × Bool) H25 =>
        LdC [.sl, .sl] (adr b2) H25 fun (c8 : Sl × Sl) =>
        CallT Pg f_hindcastref15_Verify [.agg #[.slice c8.1.a c8.1.len c8.1.cap, .slice c8.2.a c8.2.len c8.2.cap], .slice l1.a l1.len l1.cap] (.tup [(.c (.int .i64)), (.c (.int .i64))]) H25 fun (r12 : Int × Int) H26 =>
        Jn (σ := Bool) /- t6 -/ (fun kk7 =>
          Br r11.2.2 (
            Br (r11.1 == r12.1) (
              kk7 (r11.2.1 == r12.2) H26) (
              kk7 false H26)) (
            kk7 false H26)) fun j7 H27 =>
        k j7 H27))
def h_hindcastlaw15_says : Hint := (.two .no (.two .no (.two .no (.two .no (.two .no (.two .no (.two (.join [(10, (.c .bool))] .no) (.two .no (.two .no (.two (.two (.join [(66, (.c .bool))] .no) .no) (.two .no (.two (.two (.join [(76, (.c .bool))] .no) (.join [] .no)) (.two .no (.two (.two (.join [(105, (.c .bool))] .no) (.two (.two (.join [(6, (.c .bool))] .no) .no) .no)) (.two .no (.two .no (.two .no (.two .no (.two .no (.two .no (.two .no (.two (.join [(6, (.c .bool))] .no) .no))))))))))))))))))))))
theorem e_hindcastlaw15_says (t0_ : Sl × Sl) (t1_ : Sl × Sl) (t2_ : Sl) (H : Heap) (k : Bool → Heap → Prop) : EFun Pg Tryz.f6 h_hindcastlaw15_says [.agg #[.slice t0_.1.a t0_.1.len t0_.1.cap, .slice t0_.2.a t0_.2.len t0_.2.cap], .agg #[.slice t1_.1.a t1_.1.len t1_.1.cap, .slice t1_.2.a t1_.2.len t1_.2.cap], .slice t2_.a t2_.len t2_.cap] (.one (.c .bool)) H k = v_hindcastlaw15_says t0_ t1_ t2_ H k := by kernel_rfl
theorem c_hindcastlaw15_says (t0_ : Sl × Sl) (t1_ : Sl × Sl) (t2_ : Sl) {H : Heap} {k : Bool → Heap → Prop} (h : v_hindcastlaw15_says t0_ t1_ t2_ H k) : CallT Pg f_hindcastlaw15_says [.agg #[.slice t0_.1.a t0_.1.len t0_.1.cap, .slice t0_.2.a t0_.2.len t0_.2.cap], .agg #[.slice t1_.1.a t1_.1.len t1_.1.cap, .slice t1_.2.a t1_.2.len t1_.2.cap], .slice t2_.a t2_.len t2_.cap] (.one (.c .bool)) H k :=
  call_of_E Pg_mixed Tryz.func6 (by kernel_rfl) (by kernel_rfl) (by kernel_rfl) (by kernel_rfl) ((e_hindcastlaw15_says t0_ t1_ t2_ H k).symm ▸ h)
/-- hindcast/hindcastlaw15.named -/
def v_hindcastlaw15_named (l_ : Sl) (H : Heap) (k : Sl → Heap → Prop) : Prop :=
    LoopT (σ := Sl × Int) /- out, i -/ (fun next1 s1 H1 =>
      Br (decide (s1.2 < (l_.len : Int))) (
        IxA 2 l_ s1.2 fun a1 =>
        Ld .sl (a1.add 1) H1 fun (x1 : Sl) =>
        App T_string 1 16 #[.string ByteArray.empty] ⟨none, 0, 0⟩ x1 H1 fun l1 H2 =>
        Nw #[.string (⟨#[98, 101, 104, 105, 110, 100]⟩ : ByteArray), .string (⟨#[98, 101, 104, 105, 110, 100]⟩ : ByteArray)] T_string H2 fun b1 H3 =>
        App T_string 1 16 #[.string ByteArray.empty] l1 ⟨some (adr b1), 2, 2⟩ H3 fun l2 H4 =>
        IxA 2 l_ s1.2 fun a2 =>
        Ld .str a2 H4 fun (x2 : ByteArray) =>
        IxA 2 l_ s1.2 fun a3 =>
        Ld .sl (a3.add 1) H4 fun (x3 : Sl) =>
        SlA 1 l2 0 (x3.len : Int) (l2.cap : Nat) fun l3 =>
        Nw #[.string x2, .slice l3.a l3.len l3.cap] T_api_Kind H4 fun b2 H5 =>
        Stab [(a3.add 1, .slice x3.a x3.len x3.cap), (a2, .string x2)] H5 <|
        App T_api_Kind 2 40 #[.string ByteArray.empty, .slice none 0 0] s1.1 ⟨some (adr b2), 1, 1⟩ H5 fun l4 H6 =>
        Stab [(a3.add 1, .slice x3.a x3.len x3.cap), (a2, .string x2)] H6 <|
        Lt (IntKind.wrap .i64 (s1.2 + 1)) fun t1 =>
        next1 (l4, t1) H6) (
        Nw #[.string (⟨#[98, 101, 104, 105, 110, 100]⟩ : ByteArray), .slice none 0 0] T_api_Kind H1 fun b3 H7 =>
        App T_api_Kind 2 40 #[.string ByteArray.empty, .slice none 0 0] s1.1 ⟨some (adr b3), 1, 1⟩ H7 fun l5 H8 =>
        SlA 2 l5 0 (l_.len : Int) (l5.cap : Nat) fun l6 =>
        k l6 H8)) (⟨none, 0, 0⟩, 0) H
def h_hindcastlaw15_named : Hint := (.two .no (.two .no (.two (.two .no (.one (.loop [(3, (.c .sl)), (4, (.c (.int .i64)))] .no))) .no)))
theorem e_hindcastlaw15_named (l_ : Sl) (H : Heap) (k : Sl → Heap → Prop) : EFun Pg Tryz.f15 h_hindcastlaw15_named [.slice l_.a l_.len l_.cap] (.one (.c .sl)) H k = v_hindcastlaw15_named l_ H k := by kernel_rfl
theorem c_hindcastlaw15_named (l_ : Sl) {H : Heap} {k : Sl → Heap → Prop} (h : v_hindcastlaw15_named l_ H k) : CallT Pg f_hindcastlaw15_named [.slice l_.a l_.len l_.cap] (.one (.c .sl)) H k :=
  call_of_E Pg_mixed Tryz.func15 (by kernel_rfl) (by kernel_rfl) (by kernel_rfl) (by kernel_rfl) ((e_hindcastlaw15_named l_ H k).symm ▸ h)
/-- hindcast/hindcastlaw15.sameKinds -/
def v_hindcastlaw15_sameKinds (t0_ : Sl) (t1_ : Sl) (H : Heap) (k : Bool → Heap → Prop) : Prop :=
    Lt (IntKind.wrap .i64 ((t1_.len : Int) + 1)) fun t1 =>
    SlA 2 t0_ 0 t1 (t0_.cap : Nat) fun l1 =>
    Jn (σ := Bool) /- t30 -/ (fun kk1 =>
      IxA 2 l1 (t1_.len : Int) fun a1 =>
      Ld .str a1 H fun (x1 : ByteArray) =>
      Br (!(x1.toList == (⟨#[98, 101, 104, 105, 110, 100]⟩ : ByteArray).toList)) (
        kk1 true H) (
        IxA 2 l1 (t1_.len : Int) fun a2 =>
        Ld .sl (a2.add 1) H fun (x2 : Sl) =>
        kk1 (!x2.a.isNone) H)) fun j1 H1 =>
    Br j1 (
      k false H1) (
      LoopT (σ := Int) /- t6 -/ (fun next1 s1 H2 =>
        Br (decide (s1 < (t1_.len : Int))) (
          IxA 2 t1_ s1 fun a3 =>
          Ld .sl (a3.add 1) H2 fun (x3 : Sl) =>
          Jn (σ := Bool) /- t74 -/ (fun kk2 =>
            IxA 2 t0_ s1 fun a4 =>
            Ld .str a4 H2 fun (x4 : ByteArray) =>
            IxA 2 t1_ s1 fun a5 =>
            Ld .str a5 H2 fun (x5 : ByteArray) =>
            Br (!(x4.toList == x5.toList)) (
              kk2 true H2) (
              IxA 2 t0_ s1 fun a6 =>
              Ld .sl (a6.add 1) H2 fun (x6 : Sl) =>
              Br ((x6.len : Int) != (x3.len : Int)) (
                kk2 true H2) (
                IxA 2 t0_ s1 fun a7 =>
                Ld .sl (a7.add 1) H2 fun (x7 : Sl) =>
                Lt (IntKind.wrap .i64 ((x3.len : Int) + 2)) fun t2 =>
                kk2 (decide ((x7.cap : Int) < t2)) H2))) fun j2 H3 =>
          Br j2 (
            k false H3) (
            IxA 2 t0_ s1 fun a8 =>
            Ld .sl (a8.add 1) H3 fun (x8 : Sl) =>
            Lt (IntKind.wrap .i64 ((x3.len : Int) + 2)) fun t3 =>
            SlA 1 x8 0 t3 (x8.cap : Nat) fun l2 =>
            LoopT (σ := Int) /- t9 -/ (fun next2 s2 H4 =>
              Br (decide (s2 < (l2.len : Int))) (
                Jn (σ := Bool) /- t118 -/ (fun kk3 =>
                  Br (decide (s2 < (x3.len : Int))) (
                    IxA 1 l2 s2 fun a9 =>
                    Ld .str a9 H4 fun (x9 : ByteArray) =>
                    IxA 2 t1_ s1 fun a10 =>
                    Ld .sl (a10.add 1) H4 fun (x10 : Sl) =>
                    IxA 1 x10 s2 fun a11 =>
                    Ld .str a11 H4 fun (x11 : ByteArray) =>
                    Br (!(x9.toList == x11.toList)) (
                      kk3 true H4) (
                      Br (decide (s2 ≥ (x3.len : Int))) (
                        IxA 1 l2 s2 fun a12 =>
                        Ld .str a12 H4 fun (x12 : ByteArray) =>
                        kk3 (!(x12.toList == (⟨#[98, 101, 104, 105, 110, 100]⟩ : ByteArray).toList)) H4) (
                        kk3 false H4))) (
                    Br (decide (s2 ≥ (x3.len : Int))) (
                      IxA 1 l2 s2 fun a13 =>
                      Ld .str a13 H4 fun (x13 : ByteArray) =>
                      kk3 (!(x13.toList == (⟨#[98, 101, 104, 105, 110, 100]⟩ : ByteArray).toList)) H4) (
                      kk3 false H4))) fun j3 H5 =>
                Br j3 (
                  k false H5) (
                  Lt (IntKind.wrap .i64 (s2 + 1)) fun t4 =>
                  next2 t4 H5)) (
                Lt (IntKind.wrap .i64 (s1 + 1)) fun t5 =>
                next1 t5 H4)) 0 H3)) (
          k true H2)) 0 H1)
def h_hindcastlaw15_sameKinds : Hint := (.two .no (.two .no (.two (.two (.join [(30, (.c .bool))] .no) .no) (.two (.two .no (.one (.loop [(6, (.c (.int .i64)))] (.two .no (.two (.one (.two .no (.two (.two (.join [(74, (.c .bool))] .no) .no) (.two .no (.two .no (.one (.loop [(9, (.c (.int .i64)))] (.two .no (.two (.one (.two (.join [(118, (.c .bool))] .no) .no)) .no))))))))) .no))))) .no))))
theorem e_hindcastlaw15_sameKinds (t0_ : Sl) (t1_ : Sl) (H : Heap) (k : Bool → Heap → Prop) : EFun Pg Tryz.f17 h_hindcastlaw15_sameKinds [.slice t0_.a t0_.len t0_.cap, .slice t1_.a t1_.len t1_.cap] (.one (.c .bool)) H k = v_hindcastlaw15_sameKinds t0_ t1_ H k := by kernel_rfl
theorem c_hindcastlaw15_sameKinds (t0_ : Sl) (t1_ : Sl) {H : Heap} {k : Bool → Heap → Prop} (h : v_hindcastlaw15_sameKinds t0_ t1_ H k) : CallT Pg f_hindcastlaw15_sameKinds [.slice t0_.a t0_.len t0_.cap, .slice t1_.a t1_.len t1_.cap] (.one (.c .bool)) H k :=
  call_of_E Pg_mixed Tryz.func17 (by kernel_rfl) (by kernel_rfl) (by kernel_rfl) (by kernel_rfl) ((e_hindcastlaw15_sameKinds t0_ t1_ H k).symm ▸ h)
/-- hindcast/hindcastref15.Verify -/
def v_hindcastref15_Verify (t0_ : Sl × Sl) (t1_ : Sl) (H : Heap) (k : Int × Int → Heap → Prop) : Prop :=
    Nw #[.slice t0_.1.a t0_.1.len t0_.1.cap, .slice t0_.2.a t0_.2.len t0_.2.cap] T_api_Program H fun b1 H1 =>
    CallT Pg f_hindcastref06_MayBe [.slice t1_.a t1_.len t1_.cap] (.one (.c .bool)) H1 fun (r1 : Bool) H2 =>
    Br (!r1) (
      k (0, 65) H2) (
      LdC [.sl, .sl] (adr b1) H2 fun (c1 : Sl × Sl) =>
      CallT Pg f_hindcastref13_May [.agg #[.slice c1.1.a c1.1.len c1.1.cap, .slice c1.2.a c1.2.len c1.2.cap]] (.one (.c .bool)) H2 fun (r2 : Bool) H3 =>
      Br (!r2) (
        k (0, 130) H3) (
        LdC [.sl, .sl] (adr b1) H3 fun (c2 : Sl × Sl) =>
        CallT Pg f_hindcastref15_routines [.agg #[.slice c2.1.a c2.1.len c2.1.cap, .slice c2.2.a c2.2.len c2.2.cap]] (.one (.c .sl)) H3 fun (r3 : Sl) H4 =>
        LoopT (σ := Int) /- t8 -/ (fun next1 s1 H5 =>
          Ld .sl (adr b1) H5 fun (x1 : Sl) =>
          Br (decide (s1 < (x1.len : Int))) (
            Ld .sl (adr b1) H5 fun (x2 : Sl) =>
            IxA 8 x2 s1 fun a1 =>
            LdC [.sl, .sl, .sl, .sl, .str, (.int .i64), (.int .i64), .sl] a1 H5 fun (c3 : Sl × Sl × Sl × Sl × ByteArray × Int × Int × Sl) =>
            Nw #[.slice none 0 0, .slice none 0 0, .slice none 0 0, .slice none 0 0, .string ByteArray.empty, .int .i64 0, .int .i64 0, .slice none 0 0] T_api_System H5 fun b2 H6 =>
            St ((adr b2).add 0) (.slice c3.1.a c3.1.len c3.1.cap) H6 fun H7 =>
            St ((adr b2).add 1) (.slice c3.2.1.a c3.2.1.len c3.2.1.cap) H7 fun H8 =>
            St ((adr b2).add 2) (.slice c3.2.2.1.a c3.2.2.1.len c3.2.2.1.cap) H8 fun H9 =>
            St ((adr b2).add 3) (.slice c3.2.2.2.1.a c3.2.2.2.1.len c3.2.2.2.1.cap) H9 fun H10 =>
            St ((adr b2).add 4) (.string c3.2.2.2.2.1) H10 fun H11 =>
            St ((adr b2).add 5) (.int .i64 c3.2.2.2.2.2.1) H11 fun H12 =>
            St ((adr b2).add 6) (.int .i64 c3.2.2.2.2.2.2.1) H12 fun H13 =>
            St ((adr b2).add 7) (.slice c3.2.2.2.2.2.2.2.a c3.2.2.2.2.2.2.2.len c3.2.2.2.2.2.2.2.cap) H13 fun H14 =>
            Ld .sl (adr b2) H14 fun (x3 : Sl) =>
            Ld .sl ((adr b2).add 1) H14 fun (x4 : Sl) =>
            Ld .sl ((adr b2).add 2) H14 fun (x5 : Sl) =>
            Ld .sl ((adr b2).add 3) H14 fun (x6 : Sl) =>
            Nw #[.slice x3.a x3.len x3.cap, .slice x4.a x4.len x4.cap, .slice x5.a x5.len x5.cap, .slice x6.a x6.len x6.cap] T_Sl_int H14 fun b3 H15 =>
            LoopT (σ := Int) /- t11 -/ (fun next2 s2 H16 =>
              Br (decide (s2 < 4)) (
                LoopT (σ := Int) /- t12 -/ (fun next3 s3 H17 =>
                  IxA 1 ⟨some (adr b3), 4, 4⟩ s2 fun a2 =>
                  Ld .sl a2 H17 fun (x7 : Sl) =>
                  Br (decide (s3 < (x7.len : Int))) (
                    IxA 1 ⟨some (adr b3), 4, 4⟩ s2 fun a3 =>
                    Ld .sl a3 H17 fun (x8 : Sl) =>
                    IxA 1 x8 s3 fun a4 =>
                    Ld (.int .i64) a4 H17 fun (x9 : Int) =>
                    Br (decide (x9 > (t1_.len : Int))) (
                      IxA 14 r3 s1 fun a5 =>
                      Ld (.int .i64) (a5.add 13) H17 fun (x10 : Int) =>
                      k (x10, 60) H17) (
                      Lt (IntKind.wrap .i64 (s3 + 1)) fun t1 =>
                      next3 t1 H17)) (
                    Lt (IntKind.wrap .i64 (s2 + 1)) fun t2 =>
                    next2 t2 H17)) 0 H16) (
                Lt (IntKind.wrap .i64 (s1 + 1)) fun t3 =>
                next1 t3 H16)) 0 H15) (
            LoopT (σ := Int) /- t13 -/ (fun next4 s4 H18 =>
              Br (decide (s4 < (r3.len : Int))) (
                LoopT (σ := Int) /- t14 -/ (fun next5 s5 H19 =>
                  IxA 14 r3 s4 fun a6 =>
                  Ld .sl (a6.add 3) H19 fun (x11 : Sl) =>
                  Br (decide (s5 < (x11.len : Int))) (
                    LdC [.sl, .sl] (adr b1) H19 fun (c4 : Sl × Sl) =>
                    IxA 14 r3 s4 fun a7 =>
                    LdC [.str, (.int .i64), (.int .i64), .sl, .sl, .sl, .sl, .sl, .str, (.int .i64), (.int .i64), .sl, .bool, (.int .i64)] a7 H19 fun (c5 : ByteArray × Int × Int × Sl × Sl × Sl × Sl × Sl × ByteArray × Int × Int × Sl × Bool × Int) =>
                    CallT Pg f_hindcastref15_access [.agg #[.slice c4.1.a c4.1.len c4.1.cap, .slice c4.2.a c4.2.len c4.2.cap], .slice t1_.a t1_.len t1_.cap, .agg #[.string c5.1, .int .i64 c5.2.1, .int .i64 c5.2.2.1, .slice c5.2.2.2.1.a c5.2.2.2.1.len c5.2.2.2.1.cap, .slice c5.2.2.2.2.1.a c5.2.2.2.2.1.len c5.2.2.2.2.1.cap, .slice c5.2.2.2.2.2.1.a c5.2.2.2.2.2.1.len c5.2.2.2.2.2.1.cap, .slice c5.2.2.2.2.2.2.1.a c5.2.2.2.2.2.2.1.len c5.2.2.2.2.2.2.1.cap, .slice c5.2.2.2.2.2.2.2.1.a c5.2.2.2.2.2.2.2.1.len c5.2.2.2.2.2.2.2.1.cap, .string c5.2.2.2.2.2.2.2.2.1, .int .i64 c5.2.2.2.2.2.2.2.2.2.1, .int .i64 c5.2.2.2.2.2.2.2.2.2.2.1, .slice c5.2.2.2.2.2.2.2.2.2.2.2.1.a c5.2.2.2.2.2.2.2.2.2.2.2.1.len c5.2.2.2.2.2.2.2.2.2.2.2.1.cap, .bool c5.2.2.2.2.2.2.2.2.2.2.2.2.1, .int .i64 c5.2.2.2.2.2.2.2.2.2.2.2.2.2], .int .i64 s5] (.one (.c (.int .i64))) H19 fun (r4 : Int) H20 =>
                    Br (r4 != 0) (
                      IxA 14 r3 s4 fun a8 =>
                      Ld (.int .i64) (a8.add 13) H20 fun (x12 : Int) =>
                      Lt (IntKind.wrap .i64 (x12 + s5)) fun t4 =>
                      k (t4, r4) H20) (
                      Lt (IntKind.wrap .i64 (s5 + 1)) fun t5 =>
                      next5 t5 H20)) (
                    Lt (IntKind.wrap .i64 (s4 + 1)) fun t6 =>
                    next4 t6 H19)) 0 H18) (
                LoopT (σ := Int) /- t16 -/ (fun next6 s6 H21 =>
                  Ld .sl ((adr b1).add 1) H21 fun (x13 : Sl) =>
                  Br (decide (s6 < (x13.len : Int))) (
                    LdC [.sl, .sl] (adr b1) H21 fun (c6 : Sl × Sl) =>
                    CallT Pg f_hindcastref15_loops [.agg #[.slice c6.1.a c6.1.len c6.1.cap, .slice c6.2.a c6.2.len c6.2.cap], .int .i64 s6] (.one (.c .bool)) H21 fun (r5 : Bool) H22 =>
                    Br r5 (
                      Ld .sl (adr b1) H22 fun (x14 : Sl) =>
                      Lt (IntKind.wrap .i64 ((x14.len : Int) + s6)) fun t7 =>
                      IxA 14 r3 t7 fun a9 =>
                      Ld (.int .i64) (a9.add 13) H22 fun (x15 : Int) =>
                      k (x15, 115) H22) (
                      Lt (IntKind.wrap .i64 (s6 + 1)) fun t8 =>
                      next6 t8 H22)) (
                    LoopT (σ := Sl × Int) /- t18, t19 -/ (fun next7 s7 H23 =>
                      Br (decide (s7.2 < (r3.len : Int))) (
                        LdC [.sl, .sl] (adr b1) H23 fun (c7 : Sl × Sl) =>
                        IxA 14 r3 s7.2 fun a10 =>
                        LdC [.str, (.int .i64), (.int .i64), .sl] a10 H23 fun (c8 : ByteArray × Int × Int × Sl) =>
                        CallT Pg f_hindcastref15_Depths [.agg #[.slice c7.1.a c7.1.len c7.1.cap, .slice c7.2.a c7.2.len c7.2.cap], .agg #[.string c8.1, .int .i64 c8.2.1, .int .i64 c8.2.2.1, .slice c8.2.2.2.a c8.2.2.2.len c8.2.2.2.cap]] (.tup [(.c .sl), (.c (.int .i64)), (.c (.int .i64))]) H23 fun (r6 : Sl × Int × Int) H24 =>
                        Br (r6.2.2 != 0) (
                          IxA 14 r3 s7.2 fun a11 =>
                          Ld (.int .i64) (a11.add 13) H24 fun (x16 : Int) =>
                          Lt (IntKind.wrap .i64 (x16 + r6.2.1)) fun t9 =>
                          k (t9, r6.2.2) H24) (
                          Nw #[.slice r6.1.a r6.1.len r6.1.cap] T_Sl_int H24 fun b4 H25 =>
                          App T_Sl_int 1 24 #[.slice none 0 0] s7.1 ⟨some (adr b4), 1, 1⟩ H25 fun l1 H26 =>
                          Lt (IntKind.wrap .i64 (s7.2 + 1)) fun t10 =>
                          next7 (l1, t10) H26)) (
                        LoopT (σ := Int) /- t23 -/ (fun next8 s8 H27 =>
                          Br (decide (s8 < (r3.len : Int))) (
                            LoopT (σ := Int) /- t24 -/ (fun next9 s9 H28 =>
                              IxA 1 s7.1 s8 fun a12 =>
                              Ld .sl a12 H28 fun (x17 : Sl) =>
                              Br (decide (s9 < (x17.len : Int))) (
                                IxA 14 r3 s8 fun a13 =>
                                Ld .sl (a13.add 3) H28 fun (x18 : Sl) =>
                                IxA 1 s7.1 s8 fun a14 =>
                                Ld .sl a14 H28 fun (x19 : Sl) =>
                                CallT Pg f_hindcastref15_round [.slice x18.a x18.len x18.cap, .slice x19.a x19.len x19.cap, .int .i64 s9] (.one (.c .bool)) H28 fun (r7 : Bool) H29 =>
                                Br r7 (
                                  IxA 14 r3 s8 fun a15 =>
                                  Ld (.int .i64) (a15.add 13) H29 fun (x20 : Int) =>
                                  Lt (IntKind.wrap .i64 (x20 + s9)) fun t11 =>
                                  k (t11, 153) H29) (
                                  Lt (IntKind.wrap .i64 (s9 + 1)) fun t12 =>
                                  next9 t12 H29)) (
                                Lt (IntKind.wrap .i64 (s8 + 1)) fun t13 =>
                                next8 t13 H28)) 0 H27) (
                            k (0, 0) H27)) 0 H23)) (⟨none, 0, 0⟩, 0) H21)) 0 H18)) 0 H5)) 0 H4))
def h_hindcastref15_Verify : Hint := (.two .no (.two .no (.two .no (.two .no (.two .no (.two .no (.two (.two .no (.one (.loop [(8, (.c (.int .i64)))] (.two .no (.two (.one (.two .no (.two .no (.two .no (.one (.loop [(11, (.c (.int .i64)))] (.two .no (.two (.one (.two .no (.one (.loop [(12, (.c (.int .i64)))] .no)))) .no)))))))) .no))))) (.two (.two .no (.one (.loop [(13, (.c (.int .i64)))] (.two .no (.two (.one (.two .no (.one (.loop [(14, (.c (.int .i64)))] .no)))) .no))))) (.two (.two .no (.one (.loop [(16, (.c (.int .i64)))] .no))) (.two .no (.two (.two .no (.one (.loop [(18, (.c .sl)), (19, (.c (.int .i64)))] .no))) (.two (.two .no (.one (.loop [(23, (.c (.int .i64)))] (.two .no (.two (.one (.two .no (.one (.loop [(24, (.c (.int .i64)))] .no)))) .no))))) .no))))))))))))
theorem e_hindcastref15_Verify (t0_ : Sl × Sl) (t1_ : Sl) (H : Heap) (k : Int × Int → Heap → Prop) : EFun Pg Tryz.f18 h_hindcastref15_Verify [.agg #[.slice t0_.1.a t0_.1.len t0_.1.cap, .slice t0_.2.a t0_.2.len t0_.2.cap], .slice t1_.a t1_.len t1_.cap] (.tup [(.c (.int .i64)), (.c (.int .i64))]) H k = v_hindcastref15_Verify t0_ t1_ H k := by kernel_rfl
theorem c_hindcastref15_Verify (t0_ : Sl × Sl) (t1_ : Sl) {H : Heap} {k : Int × Int → Heap → Prop} (h : v_hindcastref15_Verify t0_ t1_ H k) : CallT Pg f_hindcastref15_Verify [.agg #[.slice t0_.1.a t0_.1.len t0_.1.cap, .slice t0_.2.a t0_.2.len t0_.2.cap], .slice t1_.a t1_.len t1_.cap] (.tup [(.c (.int .i64)), (.c (.int .i64))]) H k :=
  call_of_E Pg_mixed Tryz.func18 (by kernel_rfl) (by kernel_rfl) (by kernel_rfl) (by kernel_rfl) ((e_hindcastref15_Verify t0_ t1_ H k).symm ▸ h)
/-- hindcast/hindcastref06.MayBe -/
def v_hindcastref06_MayBe (kinds_ : Sl) (H : Heap) (k : Bool → Heap → Prop) : Prop :=
    LoopT (σ := Sl × Int) /- names, i -/ (fun next1 s1 H1 =>
      Br (decide (s1.2 < (kinds_.len : Int))) (
        IxA 2 kinds_ s1.2 fun a1 =>
        Ld .sl (a1.add 1) H1 fun (x1 : Sl) =>
        CallT Pg f_hindcastref06_words [.slice x1.a x1.len x1.cap] (.one (.c .bool)) H1 fun (r1 : Bool) H2 =>
        Jn (σ := Bool) /-  -/ (fun kk1 =>
          Br (!r1) (
            kk1 true H2) (
            IxA 2 kinds_ s1.2 fun a2 =>
            Ld .sl (a2.add 1) H2 fun (x2 : Sl) =>
            kk1 (decide ((x2.len : Int) > 4)) H2)) fun j1 H3 =>
        Br j1 (
          k false H3) (
          IxA 2 kinds_ s1.2 fun a3 =>
          Ld .str a3 H3 fun (x3 : ByteArray) =>
          Nw #[.string x3] T_string H3 fun b1 H4 =>
          App T_string 1 16 #[.string ByteArray.empty] s1.1 ⟨some (adr b1), 1, 1⟩ H4 fun l1 H5 =>
          Lt (IntKind.wrap .i64 (s1.2 + 1)) fun t1 =>
          next1 (l1, t1) H5)) (
        CallT Pg f_hindcastref06_words [.slice s1.1.a s1.1.len s1.1.cap] (.one (.c .bool)) H1 fun (r2 : Bool) H6 =>
        Jn (σ := Bool) /-  -/ (fun kk2 =>
          Br r2 (
            Br (decide ((kinds_.len : Int) ≥ 1)) (
              kk2 (decide ((kinds_.len : Int) ≤ 12)) H6) (
              kk2 false H6)) (
            kk2 false H6)) fun j2 H7 =>
        k j2 H7)) (⟨none, 0, 0⟩, 0) H
def h_hindcastref06_MayBe : Hint := (.two .no (.two .no (.two (.two .no (.one (.loop [(3, (.c .sl)), (4, (.c (.int .i64)))] (.two .no (.two (.one (.two .no (.two (.two (.join [(29, (.c .bool))] .no) .no) .no))) .no))))) (.two .no (.two (.join [(2, (.c .bool))] .no) .no)))))
theorem e_hindcastref06_MayBe (kinds_ : Sl) (H : Heap) (k : Bool → Heap → Prop) : EFun Pg Tryz.f30 h_hindcastref06_MayBe [.slice kinds_.a kinds_.len kinds_.cap] (.one (.c .bool)) H k = v_hindcastref06_MayBe kinds_ H k := by kernel_rfl
theorem c_hindcastref06_MayBe (kinds_ : Sl) {H : Heap} {k : Bool → Heap → Prop} (h : v_hindcastref06_MayBe kinds_ H k) : CallT Pg f_hindcastref06_MayBe [.slice kinds_.a kinds_.len kinds_.cap] (.one (.c .bool)) H k :=
  call_of_E Pg_mixed Tryz.func30 (by kernel_rfl) (by kernel_rfl) (by kernel_rfl) (by kernel_rfl) ((e_hindcastref06_MayBe kinds_ H k).symm ▸ h)
/-- hindcast/hindcastref13.May -/
def v_hindcastref13_May (t0_ : Sl × Sl) (H : Heap) (k : Bool → Heap → Prop) : Prop :=
    Nw #[.slice t0_.1.a t0_.1.len t0_.1.cap, .slice t0_.2.a t0_.2.len t0_.2.cap] T_api_Program H fun b1 H1 =>
    Jn (σ := Bool) /- t19 -/ (fun kk1 =>
      Ld .sl (adr b1) H1 fun (x1 : Sl) =>
      Br (decide ((x1.len : Int) > 16)) (
        kk1 true H1) (
        Ld .sl ((adr b1).add 1) H1 fun (x2 : Sl) =>
        kk1 (decide ((x2.len : Int) > 16)) H1)) fun j1 H2 =>
    Br j1 (
      k false H2) (
      LoopT (σ := Int × Int) /- t3, t4 -/ (fun next1 s1 H3 =>
        Ld .sl (adr b1) H3 fun (x3 : Sl) =>
        Br (decide (s1.2 < (x3.len : Int))) (
          Ld .sl (adr b1) H3 fun (x4 : Sl) =>
          IxA 8 x4 s1.2 fun a1 =>
          LdC [.sl, .sl, .sl, .sl, .str, (.int .i64), (.int .i64), .sl] a1 H3 fun (c1 : Sl × Sl × Sl × Sl × ByteArray × Int × Int × Sl) =>
          Nw #[.slice none 0 0, .slice none 0 0, .slice none 0 0, .slice none 0 0, .string ByteArray.empty, .int .i64 0, .int .i64 0, .slice none 0 0] T_api_System H3 fun b2 H4 =>
          St ((adr b2).add 0) (.slice c1.1.a c1.1.len c1.1.cap) H4 fun H5 =>
          St ((adr b2).add 1) (.slice c1.2.1.a c1.2.1.len c1.2.1.cap) H5 fun H6 =>
          St ((adr b2).add 2) (.slice c1.2.2.1.a c1.2.2.1.len c1.2.2.1.cap) H6 fun H7 =>
          St ((adr b2).add 3) (.slice c1.2.2.2.1.a c1.2.2.2.1.len c1.2.2.2.1.cap) H7 fun H8 =>
          St ((adr b2).add 4) (.string c1.2.2.2.2.1) H8 fun H9 =>
          St ((adr b2).add 5) (.int .i64 c1.2.2.2.2.2.1) H9 fun H10 =>
          St ((adr b2).add 6) (.int .i64 c1.2.2.2.2.2.2.1) H10 fun H11 =>
          St ((adr b2).add 7) (.slice c1.2.2.2.2.2.2.2.a c1.2.2.2.2.2.2.2.len c1.2.2.2.2.2.2.2.cap) H11 fun H12 =>
          Jn (σ := Bool) /- t6 -/ (fun kk2 =>
            Ld .sl (adr b2) H12 fun (x5 : Sl) =>
            CallT Pg f_hindcastref13_set [.slice x5.a x5.len x5.cap] (.one (.c .bool)) H12 fun (r1 : Bool) H14 =>
            Br r1 (
              Ld .sl ((adr b2).add 1) H14 fun (x6 : Sl) =>
              CallT Pg f_hindcastref13_set [.slice x6.a x6.len x6.cap] (.one (.c .bool)) H14 fun (r2 : Bool) H15 =>
              Br r2 (
                Ld .sl ((adr b2).add 2) H15 fun (x7 : Sl) =>
                CallT Pg f_hindcastref13_set [.slice x7.a x7.len x7.cap] (.one (.c .bool)) H15 fun (r3 : Bool) H16 =>
                Br r3 (
                  Ld .sl ((adr b2).add 3) H16 fun (x8 : Sl) =>
                  CallT Pg f_hindcastref13_set [.slice x8.a x8.len x8.cap] (.one (.c .bool)) H16 fun (r4 : Bool) H17 =>
                  kk2 r4 H17) (
                  kk2 false H16)) (
                kk2 false H15)) (
              kk2 false H14)) fun j2 H13 =>
          LdC [.str, (.int .i64), (.int .i64), .sl] ((adr b2).add 4) H13 fun (c2 : ByteArray × Int × Int × Sl) =>
          CallT Pg f_hindcastref13_routine [.agg #[.string c2.1, .int .i64 c2.2.1, .int .i64 c2.2.2.1, .slice c2.2.2.2.a c2.2.2.2.len c2.2.2.2.cap]] (.one (.c .bool)) H13 fun (r5 : Bool) H18 =>
          Jn (σ := Bool) /- t58 -/ (fun kk3 =>
            Br (!j2) (
              kk3 true H18) (
              kk3 (!r5) H18)) fun j3 H19 =>
          Br j3 (
            k false H19) (
            Ld .sl (((adr b2).add 4).add 3) H19 fun (x9 : Sl) =>
            Lt (IntKind.wrap .i64 (s1.1 + (x9.len : Int))) fun t1 =>
            Lt (IntKind.wrap .i64 (s1.2 + 1)) fun t2 =>
            next1 (t1, t2) H19)) (
          LoopT (σ := Int × Int) /- t3, t8 -/ (fun next2 s2 H20 =>
            Ld .sl ((adr b1).add 1) H20 fun (x10 : Sl) =>
            Br (decide (s2.2 < (x10.len : Int))) (
              Ld .sl ((adr b1).add 1) H20 fun (x11 : Sl) =>
              IxA 4 x11 s2.2 fun a2 =>
              LdC [.str, (.int .i64), (.int .i64), .sl] a2 H20 fun (c3 : ByteArray × Int × Int × Sl) =>
              CallT Pg f_hindcastref13_routine [.agg #[.string c3.1, .int .i64 c3.2.1, .int .i64 c3.2.2.1, .slice c3.2.2.2.a c3.2.2.2.len c3.2.2.2.cap]] (.one (.c .bool)) H20 fun (r6 : Bool) H21 =>
              Br (!r6) (
                k false H21) (
                Ld .sl ((adr b1).add 1) H21 fun (x12 : Sl) =>
                IxA 4 x12 s2.2 fun a3 =>
                Ld .sl (a3.add 3) H21 fun (x13 : Sl) =>
                Lt (IntKind.wrap .i64 (s2.1 + (x13.len : Int))) fun t3 =>
                Lt (IntKind.wrap .i64 (s2.2 + 1)) fun t4 =>
                next2 (t3, t4) H21)) (
              k (decide (s2.1 ≤ 2000)) H20)) (s1.1, 0) H3)) (0, 0) H2)
def h_hindcastref13_May : Hint := (.two .no (.two (.two (.join [(19, (.c .bool))] .no) .no) (.two .no (.two (.two .no (.one (.loop [(3, (.c (.int .i64))), (4, (.c (.int .i64)))] (.two .no (.two (.one (.two .no (.two (.join [(6, (.c .bool))] .no) (.two .no (.two (.two (.join [(58, (.c .bool))] .no) .no) .no))))) .no))))) (.two (.two .no (.one (.loop [(3, (.c (.int .i64))), (8, (.c (.int .i64)))] .no))) .no)))))
theorem e_hindcastref13_May (t0_ : Sl × Sl) (H : Heap) (k : Bool → Heap → Prop) : EFun Pg Tryz.f31 h_hindcastref13_May [.agg #[.slice t0_.1.a t0_.1.len t0_.1.cap, .slice t0_.2.a t0_.2.len t0_.2.cap]] (.one (.c .bool)) H k = v_hindcastref13_May t0_ H k := by kernel_rfl
theorem c_hindcastref13_May (t0_ : Sl × Sl) {H : Heap} {k : Bool → Heap → Prop} (h : v_hindcastref13_May t0_ H k) : CallT Pg f_hindcastref13_May [.agg #[.slice t0_.1.a t0_.1.len t0_.1.cap, .slice t0_.2.a t0_.2.len t0_.2.cap]] (.one (.c .bool)) H k :=
  call_of_E Pg_mixed Tryz.func31 (by kernel_rfl) (by kernel_rfl) (by kernel_rfl) (by kernel_rfl) ((e_hindcastref13_May t0_ H k).symm ▸ h)
/-- hindcast/hindcastref15.routines -/
def v_hindcastref15_routines (t0_ : Sl × Sl) (H : Heap) (k : Sl → Heap → Prop) : Prop :=
    Nw #[.slice t0_.1.a t0_.1.len t0_.1.cap, .slice t0_.2.a t0_.2.len t0_.2.cap] T_api_Program H fun b1 H1 =>
    LoopT (σ := Sl × Int × Int) /- t3, t4, t5 -/ (fun next1 s1 H2 =>
      Ld .sl (adr b1) H2 fun (x1 : Sl) =>
      Br (decide (s1.2.2 < (x1.len : Int))) (
        Ld .sl (adr b1) H2 fun (x2 : Sl) =>
        IxA 8 x2 s1.2.2 fun a1 =>
        LdC [.str, (.int .i64), (.int .i64), .sl] (a1.add 4) H2 fun (c1 : ByteArray × Int × Int × Sl) =>
        Ld .sl (adr b1) H2 fun (x3 : Sl) =>
        IxA 8 x3 s1.2.2 fun a2 =>
        LdC [.sl, .sl, .sl, .sl, .str, (.int .i64), (.int .i64), .sl] a2 H2 fun (c2 : Sl × Sl × Sl × Sl × ByteArray × Int × Int × Sl) =>
        Nw #[.string c1.1, .int .i64 c1.2.1, .int .i64 c1.2.2.1, .slice c1.2.2.2.a c1.2.2.2.len c1.2.2.2.cap, .slice c2.1.a c2.1.len c2.1.cap, .slice c2.2.1.a c2.2.1.len c2.2.1.cap, .slice c2.2.2.1.a c2.2.2.1.len c2.2.2.1.cap, .slice c2.2.2.2.1.a c2.2.2.2.1.len c2.2.2.2.1.cap, .string c2.2.2.2.2.1, .int .i64 c2.2.2.2.2.2.1, .int .i64 c2.2.2.2.2.2.2.1, .slice c2.2.2.2.2.2.2.2.a c2.2.2.2.2.2.2.2.len c2.2.2.2.2.2.2.2.cap, .bool true, .int .i64 s1.2.1] T_hindcastref15_routine H2 fun b2 H3 =>
        Stab [(a2.add 0, .slice c2.1.a c2.1.len c2.1.cap), (a2.add 1, .slice c2.2.1.a c2.2.1.len c2.2.1.cap), (a2.add 2, .slice c2.2.2.1.a c2.2.2.1.len c2.2.2.1.cap), (a2.add 3, .slice c2.2.2.2.1.a c2.2.2.2.1.len c2.2.2.2.1.cap), (a2.add 4, .string c2.2.2.2.2.1), (a2.add 5, .int .i64 c2.2.2.2.2.2.1), (a2.add 6, .int .i64 c2.2.2.2.2.2.2.1), (a2.add 7, .slice c2.2.2.2.2.2.2.2.a c2.2.2.2.2.2.2.2.len c2.2.2.2.2.2.2.2.cap), (adr b1, .slice x3.a x3.len x3.cap), ((a1.add 4).add 0, .string c1.1), ((a1.add 4).add 1, .int .i64 c1.2.1), ((a1.add 4).add 2, .int .i64 c1.2.2.1), ((a1.add 4).add 3, .slice c1.2.2.2.a c1.2.2.2.len c1.2.2.2.cap), (adr b1, .slice x2.a x2.len x2.cap)] H3 <|
        App T_hindcastref15_routine 14 224 #[.string ByteArray.empty, .int .i64 0, .int .i64 0, .slice none 0 0, .slice none 0 0, .slice none 0 0, .slice none 0 0, .slice none 0 0, .string ByteArray.empty, .int .i64 0, .int .i64 0, .slice none 0 0, .bool false, .int .i64 0] s1.1 ⟨some (adr b2), 1, 1⟩ H3 fun l1 H4 =>
        Stab [(a2.add 0, .slice c2.1.a c2.1.len c2.1.cap), (a2.add 1, .slice c2.2.1.a c2.2.1.len c2.2.1.cap), (a2.add 2, .slice c2.2.2.1.a c2.2.2.1.len c2.2.2.1.cap), (a2.add 3, .slice c2.2.2.2.1.a c2.2.2.2.1.len c2.2.2.2.1.cap), (a2.add 4, .string c2.2.2.2.2.1), (a2.add 5, .int .i64 c2.2.2.2.2.2.1), (a2.add 6, .int .i64 c2.2.2.2.2.2.2.1), (a2.add 7, .slice c2.2.2.2.2.2.2.2.a c2.2.2.2.2.2.2.2.len c2.2.2.2.2.2.2.2.cap), (adr b1, .slice x3.a x3.len x3.cap), ((a1.add 4).add 0, .string c1.1), ((a1.add 4).add 1, .int .i64 c1.2.1), ((a1.add 4).add 2, .int .i64 c1.2.2.1), ((a1.add 4).add 3, .slice c1.2.2.2.a c1.2.2.2.len c1.2.2.2.cap), (adr b1, .slice x2.a x2.len x2.cap)] H4 <|
        Ld .sl (adr b1) H4 fun (x4 : Sl) =>
        IxA 8 x4 s1.2.2 fun a3 =>
        Ld .sl ((a3.add 4).add 3) H4 fun (x5 : Sl) =>
        Lt (IntKind.wrap .i64 (s1.2.1 + (x5.len : Int))) fun t1 =>
        Lt (IntKind.wrap .i64 (s1.2.2 + 1)) fun t2 =>
        next1 (l1, t1, t2) H4) (
        LoopT (σ := Sl × Int × Int) /- t3, t4, t6 -/ (fun next2 s2 H5 =>
          Ld .sl ((adr b1).add 1) H5 fun (x6 : Sl) =>
          Br (decide (s2.2.2 < (x6.len : Int))) (
            Ld .sl ((adr b1).add 1) H5 fun (x7 : Sl) =>
            IxA 4 x7 s2.2.2 fun a4 =>
            LdC [.str, (.int .i64), (.int .i64), .sl] a4 H5 fun (c3 : ByteArray × Int × Int × Sl) =>
            Nw #[.string c3.1, .int .i64 c3.2.1, .int .i64 c3.2.2.1, .slice c3.2.2.2.a c3.2.2.2.len c3.2.2.2.cap, .slice none 0 0, .slice none 0 0, .slice none 0 0, .slice none 0 0, .string ByteArray.empty, .int .i64 0, .int .i64 0, .slice none 0 0, .bool false, .int .i64 s2.2.1] T_hindcastref15_routine H5 fun b3 H6 =>
            App T_hindcastref15_routine 14 224 #[.string ByteArray.empty, .int .i64 0, .int .i64 0, .slice none 0 0, .slice none 0 0, .slice none 0 0, .slice none 0 0, .slice none 0 0, .string ByteArray.empty, .int .i64 0, .int .i64 0, .slice none 0 0, .bool false, .int .i64 0] s2.1 ⟨some (adr b3), 1, 1⟩ H6 fun l2 H7 =>
            Ld .sl ((adr b1).add 1) H7 fun (x8 : Sl) =>
            IxA 4 x8 s2.2.2 fun a5 =>
            Ld .sl (a5.add 3) H7 fun (x9 : Sl) =>
            Lt (IntKind.wrap .i64 (s2.2.1 + (x9.len : Int))) fun t3 =>
            Lt (IntKind.wrap .i64 (s2.2.2 + 1)) fun t4 =>
            next2 (l2, t3, t4) H7) (
            k s2.1 H5)) (s1.1, s1.2.1, 0) H2)) (⟨none, 0, 0⟩, 0, 0) H1
def h_hindcastref15_routines : Hint := (.two .no (.two .no (.two .no (.two (.two .no (.one (.loop [(3, (.c .sl)), (4, (.c (.int .i64))), (5, (.c (.int .i64)))] .no))) (.two (.two .no (.one (.loop [(3, (.c .sl)), (4, (.c (.int .i64))), (6, (.c (.int .i64)))] .no))) .no)))))
theorem e_hindcastref15_routines (t0_ : Sl × Sl) (H : Heap) (k : Sl → Heap → Prop) : EFun Pg Tryz.f32 h_hindcastref15_routines [.agg #[.slice t0_.1.a t0_.1.len t0_.1.cap, .slice t0_.2.a t0_.2.len t0_.2.cap]] (.one (.c .sl)) H k = v_hindcastref15_routines t0_ H k := by kernel_rfl
theorem c_hindcastref15_routines (t0_ : Sl × Sl) {H : Heap} {k : Sl → Heap → Prop} (h : v_hindcastref15_routines t0_ H k) : CallT Pg f_hindcastref15_routines [.agg #[.slice t0_.1.a t0_.1.len t0_.1.cap, .slice t0_.2.a t0_.2.len t0_.2.cap]] (.one (.c .sl)) H k :=
  call_of_E Pg_mixed Tryz.func32 (by kernel_rfl) (by kernel_rfl) (by kernel_rfl) (by kernel_rfl) ((e_hindcastref15_routines t0_ H k).symm ▸ h)
/-- hindcast/hindcastref15.access -/
def v_hindcastref15_access (t0_ : Sl × Sl) (t1_ : Sl) (t2_ : ByteArray × Int × Int × Sl × Sl × Sl × Sl × Sl × ByteArray × Int × Int × Sl × Bool × Int) (t3_ : Int) (H : Heap) (k : Int → Heap → Prop) : Prop :=
    Nw #[.slice t0_.1.a t0_.1.len t0_.1.cap, .slice t0_.2.a t0_.2.len t0_.2.cap] T_api_Program H fun b1 H1 =>
    Nw #[.string t2_.1, .int .i64 t2_.2.1, .int .i64 t2_.2.2.1, .slice t2_.2.2.2.1.a t2_.2.2.2.1.len t2_.2.2.2.1.cap, .slice t2_.2.2.2.2.1.a t2_.2.2.2.2.1.len t2_.2.2.2.2.1.cap, .slice t2_.2.2.2.2.2.1.a t2_.2.2.2.2.2.1.len t2_.2.2.2.2.2.1.cap, .slice t2_.2.2.2.2.2.2.1.a t2_.2.2.2.2.2.2.1.len t2_.2.2.2.2.2.2.1.cap, .slice t2_.2.2.2.2.2.2.2.1.a t2_.2.2.2.2.2.2.2.1.len t2_.2.2.2.2.2.2.2.1.cap, .string t2_.2.2.2.2.2.2.2.2.1, .int .i64 t2_.2.2.2.2.2.2.2.2.2.1, .int .i64 t2_.2.2.2.2.2.2.2.2.2.2.1, .slice t2_.2.2.2.2.2.2.2.2.2.2.2.1.a t2_.2.2.2.2.2.2.2.2.2.2.2.1.len t2_.2.2.2.2.2.2.2.2.2.2.2.1.cap, .bool t2_.2.2.2.2.2.2.2.2.2.2.2.2.1, .int .i64 t2_.2.2.2.2.2.2.2.2.2.2.2.2.2] T_hindcastref15_routine H1 fun b2 H2 =>
    Ld .sl ((adr b2).add 3) H2 fun (x1 : Sl) =>
    IxA 2 x1 t3_ fun a1 =>
    LdC [(.int .i64), (.int .i64)] a1 H2 fun (c1 : Int × Int) =>
    Nw #[.int .i64 0, .int .i64 0] T_api_Instr H2 fun b3 H3 =>
    St ((adr b3).add 0) (.int .i64 c1.1) H3 fun H4 =>
    St ((adr b3).add 1) (.int .i64 c1.2) H4 fun H5 =>
    Ld (.int .i64) ((adr b3).add 1) H5 fun (x2 : Int) =>
    Quo .i64 x2 8 fun t1 =>
    Ld (.int .i64) ((adr b3).add 1) H5 fun (x3 : Int) =>
    Rem x3 8 fun t2 =>
    Ld (.int .i64) (adr b3) H5 fun (x4 : Int) =>
    Jn (σ := Bool) /- t13 -/ (fun kk1 =>
      Jn (σ := Bool) /- t34 -/ (fun kk2 =>
        Br (x4 == 2) (
          kk2 true H5) (
          kk2 (x4 == 3) H5)) fun j2 H7 =>
      Jn (σ := Bool) /- t13 -/ (fun kk3 =>
        Br j2 (
          Jn (σ := Bool) /- t13 -/ (fun kk4 =>
            Ld (.int .i64) ((adr b3).add 1) H7 fun (x5 : Int) =>
            Br (decide (x5 < 0)) (
              kk4 true H7) (
              Ld (.int .i64) ((adr b3).add 1) H7 fun (x6 : Int) =>
              Ld (.int .i64) ((adr b2).add 2) H7 fun (x7 : Int) =>
              kk4 (decide (x6 ≥ x7)) H7)) fun j4 H9 =>
          kk3 j4 H9) (
          Jn (σ := Bool) /- t48 -/ (fun kk5 =>
            Br (x4 == 4) (
              kk5 true H7) (
              kk5 (x4 == 5) H7)) fun j5 H10 =>
          Jn (σ := Bool) /- t13 -/ (fun kk6 =>
            Br j5 (
              CallT Pg f_hindcastref15_fields [.slice t1_.a t1_.len t1_.cap, .int .i64 t1] (.one (.c (.int .i64))) H10 fun (r1 : Int) H12 =>
              Ld .sl (((adr b2).add 4).add 3) H12 fun (x8 : Sl) =>
              CallT Pg f_hindcastref15_in [.slice x8.a x8.len x8.cap, .int .i64 t1] (.one (.c .bool)) H12 fun (r2 : Bool) H13 =>
              Ld .sl (((adr b2).add 4).add 2) H13 fun (x9 : Sl) =>
              CallT Pg f_hindcastref15_in [.slice x9.a x9.len x9.cap, .int .i64 t1] (.one (.c .bool)) H13 fun (r3 : Bool) H14 =>
              Jn (σ := Bool) /- t13 -/ (fun kk7 =>
                Ld .bool ((adr b2).add 12) H14 fun (x10 : Bool) =>
                Br (!x10) (
                  kk7 true H14) (
                  Ld (.int .i64) ((adr b3).add 1) H14 fun (x11 : Int) =>
                  Br (decide (x11 < 0)) (
                    kk7 true H14) (
                    Br (decide (t2 ≥ r1)) (
                      kk7 true H14) (
                      Br r2 (
                        kk7 false H14) (
                        Br r3 (
                          Ld (.int .i64) (adr b3) H14 fun (x12 : Int) =>
                          kk7 (!(x12 == 4)) H14) (
                          kk7 true H14)))))) fun j7 H15 =>
              kk6 j7 H15) (
              Jn (σ := Bool) /- t13 -/ (fun kk8 =>
                Br (x4 == 21) (
                  Jn (σ := Bool) /- t13 -/ (fun kk9 =>
                    Ld (.int .i64) ((adr b3).add 1) H10 fun (x13 : Int) =>
                    Br (decide (x13 < 0)) (
                      kk9 true H10) (
                      Ld (.int .i64) ((adr b3).add 1) H10 fun (x14 : Int) =>
                      Ld .sl ((adr b1).add 1) H10 fun (x15 : Sl) =>
                      kk9 (decide (x14 ≥ (x15.len : Int))) H10)) fun j9 H17 =>
                  kk8 j9 H17) (
                  Jn (σ := Bool) /- t13 -/ (fun kk10 =>
                    Br (x4 == 22) (
                      Ld .bool ((adr b2).add 12) H10 fun (x16 : Bool) =>
                      kk10 x16 H10) (
                      Jn (σ := Bool) /- t106 -/ (fun kk11 =>
                        Br (x4 == 25) (
                          kk11 true H10) (
                          Jn (σ := Bool) /- t106 -/ (fun kk12 =>
                            Br (x4 == 27) (
                              kk12 true H10) (
                              Jn (σ := Bool) /- t106 -/ (fun kk13 =>
                                Br (x4 == 30) (
                                  kk13 true H10) (
                                  kk13 (x4 == 23) H10)) fun j13 H21 =>
                              kk12 j13 H21)) fun j12 H20 =>
                          kk11 j12 H20)) fun j11 H19 =>
                      Jn (σ := Bool) /- t13 -/ (fun kk14 =>
                        Br j11 (
                          Ld .bool ((adr b2).add 12) H19 fun (x17 : Bool) =>
                          kk14 (!x17) H19) (
                          Jn (σ := Bool) /- t114 -/ (fun kk15 =>
                            Br (x4 == 26) (
                              kk15 true H19) (
                              kk15 (x4 == 28) H19)) fun j15 H23 =>
                          Jn (σ := Bool) /- t13 -/ (fun kk16 =>
                            Br j15 (
                              CallT Pg f_hindcastref15_fields [.slice t1_.a t1_.len t1_.cap, .int .i64 t1] (.one (.c (.int .i64))) H23 fun (r4 : Int) H25 =>
                              Jn (σ := Bool) /- t13 -/ (fun kk17 =>
                                Ld .bool ((adr b2).add 12) H25 fun (x18 : Bool) =>
                                Br (!x18) (
                                  kk17 true H25) (
                                  Ld (.int .i64) ((adr b3).add 1) H25 fun (x19 : Int) =>
                                  Br (decide (x19 < 0)) (
                                    kk17 true H25) (
                                    kk17 (r4 != t2) H25))) fun j17 H26 =>
                              kk16 j17 H26) (
                              Jn (σ := Bool) /- t133 -/ (fun kk18 =>
                                Br (x4 == 29) (
                                  kk18 true H23) (
                                  kk18 (x4 == 35) H23)) fun j18 H27 =>
                              Jn (σ := Bool) /- t13 -/ (fun kk19 =>
                                Br j18 (
                                  Jn (σ := Bool) /- t13 -/ (fun kk20 =>
                                    Ld .bool ((adr b2).add 12) H27 fun (x20 : Bool) =>
                                    Br (!x20) (
                                      kk20 true H27) (
                                      Ld (.int .i64) ((adr b3).add 1) H27 fun (x21 : Int) =>
                                      CallT Pg f_hindcastref15_fields [.slice t1_.a t1_.len t1_.cap, .int .i64 x21] (.one (.c (.int .i64))) H27 fun (r5 : Int) H30 =>
                                      kk20 (decide (r5 < 0)) H30)) fun j20 H29 =>
                                  kk19 j20 H29) (
                                  kk19 false H27)) fun j19 H28 =>
                              kk16 j19 H28)) fun j16 H24 =>
                          kk14 j16 H24)) fun j14 H22 =>
                      kk10 j14 H22)) fun j10 H18 =>
                  kk8 j10 H18)) fun j8 H16 =>
              kk6 j8 H16)) fun j6 H11 =>
          kk3 j6 H11)) fun j3 H8 =>
      kk1 j3 H8) fun j1 H6 =>
    Jn (σ := Bool) /- t152 -/ (fun kk21 =>
      Ld (.int .i64) (adr b3) H6 fun (x22 : Int) =>
      Br (x22 == 26) (
        kk21 (!j1) H6) (
        kk21 false H6)) fun j21 H31 =>
    Jn (σ := Bool) /- t13 -/ (fun kk22 =>
      Br j21 (
        LoopT (σ := Int) /- t18 -/ (fun next1 s1 H33 =>
          Jn (σ := Bool) /- t166 -/ (fun kk23 =>
            Br (decide (s1 < t3_)) (
              Lt (IntKind.wrap .i64 (t3_ - s1)) fun t3 =>
              Lt (IntKind.wrap .i64 (t3 - 1)) fun t4 =>
              IxA 2 x1 t4 fun a2 =>
              Ld (.int .i64) a2 H33 fun (x23 : Int) =>
              kk23 (x23 == 26) H33) (
              kk23 false H33)) fun j23 H34 =>
          Br j23 (
            Lt (IntKind.wrap .i64 (s1 + 1)) fun t5 =>
            next1 t5 H34) (
            Jn (σ := Bool) /- t13 -/ (fun kk24 =>
              Lt (IntKind.wrap .i64 (t3_ + 1)) fun t6 =>
              Br (decide (t6 ≥ (x1.len : Int))) (
                kk24 true H34) (
                Lt (IntKind.wrap .i64 (t3_ + 1)) fun t7 =>
                IxA 2 x1 t7 fun a3 =>
                Ld (.int .i64) a3 H34 fun (x24 : Int) =>
                Br (x24 != 26) (
                  Lt (IntKind.wrap .i64 (t3_ + 1)) fun t8 =>
                  IxA 2 x1 t8 fun a4 =>
                  Ld (.int .i64) a4 H34 fun (x25 : Int) =>
                  Br (x25 != 27) (
                    kk24 true H34) (
                    kk24 (decide (s1 ≥ 12)) H34)) (
                  kk24 (decide (s1 ≥ 12)) H34))) fun j24 H35 =>
            kk22 j24 H35)) 0 H31) (
        kk22 j1 H31)) fun j22 H32 =>
    Br j22 (
      k 152 H32) (
      Jn (σ := Bool) /- t226 -/ (fun kk25 =>
        Ld (.int .i64) (adr b3) H32 fun (x26 : Int) =>
        Br (x26 == 19) (
          Ld (.int .i64) ((adr b3).add 1) H32 fun (x27 : Int) =>
          Br (decide (x27 ≥ 1)) (
            Ld (.int .i64) ((adr b3).add 1) H32 fun (x28 : Int) =>
            Br (decide (x28 < (x1.len : Int))) (
              Ld (.int .i64) ((adr b3).add 1) H32 fun (x29 : Int) =>
              Lt (IntKind.wrap .i64 (x29 - 1)) fun t9 =>
              IxA 2 x1 t9 fun a5 =>
              Ld (.int .i64) a5 H32 fun (x30 : Int) =>
              kk25 (x30 == 26) H32) (
              kk25 false H32)) (
            kk25 false H32)) (
          Ld (.int .i64) (adr b3) H32 fun (x31 : Int) =>
          Br (x31 == 20) (
            Ld (.int .i64) ((adr b3).add 1) H32 fun (x32 : Int) =>
            Br (decide (x32 ≥ 1)) (
              Ld (.int .i64) ((adr b3).add 1) H32 fun (x33 : Int) =>
              Br (decide (x33 < (x1.len : Int))) (
                Ld (.int .i64) ((adr b3).add 1) H32 fun (x34 : Int) =>
                Lt (IntKind.wrap .i64 (x34 - 1)) fun t10 =>
                IxA 2 x1 t10 fun a6 =>
                Ld (.int .i64) a6 H32 fun (x35 : Int) =>
                kk25 (x35 == 26) H32) (
                kk25 false H32)) (
              kk25 false H32)) (
            kk25 false H32))) fun j25 H36 =>
      Br j25 (
        k 150 H36) (
        k 0 H36))
def h_hindcastref15_access : Hint := (.two .no (.two .no (.two .no (.two .no (.two .no (.two .no (.two (.two .no (.join [(13, (.c .bool))] (.one (.two (.two .no (.join [(34, (.c .bool))] .no)) (.join [(13, (.c .bool))] (.two (.join [(13, (.c .bool))] .no) (.two (.two .no (.join [(48, (.c .bool))] .no)) (.join [(13, (.c .bool))] (.two (.two .no (.two .no (.two .no (.join [(13, (.c .bool))] .no)))) (.two .no (.join [(13, (.c .bool))] (.two (.join [(13, (.c .bool))] .no) (.two .no (.join [(13, (.c .bool))] (.two .no (.two (.two .no (.join [(106, (.c .bool))] (.two .no (.two .no (.join [(106, (.c .bool))] (.two .no (.two .no (.join [(106, (.c .bool))] .no)))))))) (.join [(13, (.c .bool))] (.two .no (.two (.two .no (.join [(114, (.c .bool))] .no)) (.join [(13, (.c .bool))] (.two (.two .no (.join [(13, (.c .bool))] .no)) (.two (.two .no (.join [(133, (.c .bool))] .no)) (.join [(13, (.c .bool))] (.two (.join [(13, (.c .bool))] .no) .no)))))))))))))))))))))))) (.two (.two (.join [(152, (.c .bool))] .no) (.join [(13, (.c .bool))] (.two (.two .no (.two (.one (.loop [(18, (.c (.int .i64)))] (.two (.two (.join [(166, (.c .bool))] .no) .no) .no))) (.join [(13, (.c .bool))] .no))) .no))) (.two .no (.two (.two (.join [(226, (.c .bool))] .no) .no) .no))))))))))
theorem e_hindcastref15_access (t0_ : Sl × Sl) (t1_ : Sl) (t2_ : ByteArray × Int × Int × Sl × Sl × Sl × Sl × Sl × ByteArray × Int × Int × Sl × Bool × Int) (t3_ : Int) (H : Heap) (k : Int → Heap → Prop) : EFun Pg Tryz.f33 h_hindcastref15_access [.agg #[.slice t0_.1.a t0_.1.len t0_.1.cap, .slice t0_.2.a t0_.2.len t0_.2.cap], .slice t1_.a t1_.len t1_.cap, .agg #[.string t2_.1, .int .i64 t2_.2.1, .int .i64 t2_.2.2.1, .slice t2_.2.2.2.1.a t2_.2.2.2.1.len t2_.2.2.2.1.cap, .slice t2_.2.2.2.2.1.a t2_.2.2.2.2.1.len t2_.2.2.2.2.1.cap, .slice t2_.2.2.2.2.2.1.a t2_.2.2.2.2.2.1.len t2_.2.2.2.2.2.1.cap, .slice t2_.2.2.2.2.2.2.1.a t2_.2.2.2.2.2.2.1.len t2_.2.2.2.2.2.2.1.cap, .slice t2_.2.2.2.2.2.2.2.1.a t2_.2.2.2.2.2.2.2.1.len t2_.2.2.2.2.2.2.2.1.cap, .string t2_.2.2.2.2.2.2.2.2.1, .int .i64 t2_.2.2.2.2.2.2.2.2.2.1, .int .i64 t2_.2.2.2.2.2.2.2.2.2.2.1, .slice t2_.2.2.2.2.2.2.2.2.2.2.2.1.a t2_.2.2.2.2.2.2.2.2.2.2.2.1.len t2_.2.2.2.2.2.2.2.2.2.2.2.1.cap, .bool t2_.2.2.2.2.2.2.2.2.2.2.2.2.1, .int .i64 t2_.2.2.2.2.2.2.2.2.2.2.2.2.2], .int .i64 t3_] (.one (.c (.int .i64))) H k = v_hindcastref15_access t0_ t1_ t2_ t3_ H k := by kernel_rfl
theorem c_hindcastref15_access (t0_ : Sl × Sl) (t1_ : Sl) (t2_ : ByteArray × Int × Int × Sl × Sl × Sl × Sl × Sl × ByteArray × Int × Int × Sl × Bool × Int) (t3_ : Int) {H : Heap} {k : Int → Heap → Prop} (h : v_hindcastref15_access t0_ t1_ t2_ t3_ H k) : CallT Pg f_hindcastref15_access [.agg #[.slice t0_.1.a t0_.1.len t0_.1.cap, .slice t0_.2.a t0_.2.len t0_.2.cap], .slice t1_.a t1_.len t1_.cap, .agg #[.string t2_.1, .int .i64 t2_.2.1, .int .i64 t2_.2.2.1, .slice t2_.2.2.2.1.a t2_.2.2.2.1.len t2_.2.2.2.1.cap, .slice t2_.2.2.2.2.1.a t2_.2.2.2.2.1.len t2_.2.2.2.2.1.cap, .slice t2_.2.2.2.2.2.1.a t2_.2.2.2.2.2.1.len t2_.2.2.2.2.2.1.cap, .slice t2_.2.2.2.2.2.2.1.a t2_.2.2.2.2.2.2.1.len t2_.2.2.2.2.2.2.1.cap, .slice t2_.2.2.2.2.2.2.2.1.a t2_.2.2.2.2.2.2.2.1.len t2_.2.2.2.2.2.2.2.1.cap, .string t2_.2.2.2.2.2.2.2.2.1, .int .i64 t2_.2.2.2.2.2.2.2.2.2.1, .int .i64 t2_.2.2.2.2.2.2.2.2.2.2.1, .slice t2_.2.2.2.2.2.2.2.2.2.2.2.1.a t2_.2.2.2.2.2.2.2.2.2.2.2.1.len t2_.2.2.2.2.2.2.2.2.2.2.2.1.cap, .bool t2_.2.2.2.2.2.2.2.2.2.2.2.2.1, .int .i64 t2_.2.2.2.2.2.2.2.2.2.2.2.2.2], .int .i64 t3_] (.one (.c (.int .i64))) H k :=
  call_of_E Pg_mixed Tryz.func33 (by kernel_rfl) (by kernel_rfl) (by kernel_rfl) (by kernel_rfl) ((e_hindcastref15_access t0_ t1_ t2_ t3_ H k).symm ▸ h)
/-- hindcast/hindcastref15.loops -/
def v_hindcastref15_loops (p_ : Sl × Sl) (from_ : Int) (H : Heap) (k : Bool → Heap → Prop) : Prop :=
    Nw #[.slice p_.1.a p_.1.len p_.1.cap, .slice p_.2.a p_.2.len p_.2.cap] T_api_Program H fun b1 H1 =>
    Ld .sl ((adr b1).add 1) H1 fun (x1 : Sl) =>
    Mks T_bool 1 1 #[.bool false] (x1.len : Int) (x1.len : Int) H1 fun l1 H2 =>
    Nw #[.int .i64 from_] T_int H2 fun b2 H3 =>
    LoopT (σ := Sl) /- todo -/ (fun next1 s1 H4 =>
      Br (decide ((s1.len : Int) > 0)) (
        Ld .sl ((adr b1).add 1) H4 fun (x2 : Sl) =>
        IxA 1 s1 0 fun a1 =>
        Ld (.int .i64) a1 H4 fun (x3 : Int) =>
        IxA 4 x2 x3 fun a2 =>
        Ld .sl (a2.add 3) H4 fun (x4 : Sl) =>
        SlA 1 s1 1 (s1.len : Nat) (s1.cap : Nat) fun l2 =>
        LoopT (σ := Sl × Int) /- todo, i -/ (fun next2 s2 H5 =>
          Br (decide (s2.2 < (x4.len : Int))) (
            Jn (σ := Sl) /- todo -/ (fun kk1 =>
              IxA 2 x4 s2.2 fun a3 =>
              Ld (.int .i64) a3 H5 fun (x5 : Int) =>
              Br (x5 != 21) (
                kk1 s2.1 H5) (
                IxA 2 x4 s2.2 fun a4 =>
                Ld (.int .i64) (a4.add 1) H5 fun (x6 : Int) =>
                Br (x6 == from_) (
                  k true H5) (
                  IxA 1 l1 x6 fun a5 =>
                  Ld .bool a5 H5 fun (x7 : Bool) =>
                  Jn (σ := Sl) /- todo -/ (fun kk2 =>
                    Br (!x7) (
                      IxA 1 l1 x6 fun a6 =>
                      St a6 (.bool true) H5 fun H8 =>
                      Nw #[.int .i64 x6] T_int H8 fun b3 H9 =>
                      App T_int 1 8 #[.int .i64 0] s2.1 ⟨some (adr b3), 1, 1⟩ H9 fun l3 H10 =>
                      kk2 l3 H10) (
                      kk2 s2.1 H5)) fun j2 H7 =>
                  kk1 j2 H7))) fun j1 H6 =>
            Lt (IntKind.wrap .i64 (s2.2 + 1)) fun t1 =>
            next2 (j1, t1) H6) (
            next1 s2.1 H5)) (l2, 0) H4) (
        k false H4)) ⟨some (adr b2), 1, 1⟩ H3
def h_hindcastref15_loops : Hint := (.two .no (.two .no (.two .no (.two (.one (.loop [(6, (.c .sl))] (.two .no (.one (.two .no (.two .no (.two .no (.one (.loop [(6, (.c .sl)), (8, (.c (.int .i64)))] (.two .no (.two (.join [(6, (.c .sl))] (.one (.two .no (.two .no (.two .no (.two .no (.join [(6, (.c .sl))] .no))))))) .no))))))))))) .no))))
theorem e_hindcastref15_loops (p_ : Sl × Sl) (from_ : Int) (H : Heap) (k : Bool → Heap → Prop) : EFun Pg Tryz.f34 h_hindcastref15_loops [.agg #[.slice p_.1.a p_.1.len p_.1.cap, .slice p_.2.a p_.2.len p_.2.cap], .int .i64 from_] (.one (.c .bool)) H k = v_hindcastref15_loops p_ from_ H k := by kernel_rfl
theorem c_hindcastref15_loops (p_ : Sl × Sl) (from_ : Int) {H : Heap} {k : Bool → Heap → Prop} (h : v_hindcastref15_loops p_ from_ H k) : CallT Pg f_hindcastref15_loops [.agg #[.slice p_.1.a p_.1.len p_.1.cap, .slice p_.2.a p_.2.len p_.2.cap], .int .i64 from_] (.one (.c .bool)) H k :=
  call_of_E Pg_mixed Tryz.func34 (by kernel_rfl) (by kernel_rfl) (by kernel_rfl) (by kernel_rfl) ((e_hindcastref15_loops p_ from_ H k).symm ▸ h)
/-- hindcast/hindcastref15.round -/
def v_hindcastref15_round (t0_ : Sl) (t1_ : Sl) (t2_ : Int) (H : Heap) (k : Bool → Heap → Prop) : Prop :=
    Mks T_bool 1 1 #[.bool false] (t0_.len : Int) (t0_.len : Int) H fun l1 H1 =>
    Nw #[.int .i64 t2_] T_int H1 fun b1 H2 =>
    LoopT (σ := Sl) /- t8 -/ (fun next1 s1 H3 =>
      Br (decide ((s1.len : Int) > 0)) (
        Jn (σ := Sl) /- t8 -/ (fun kk1 =>
          IxA 1 s1 0 fun a1 =>
          Ld (.int .i64) a1 H3 fun (x1 : Int) =>
          SlA 1 s1 1 (s1.len : Nat) (s1.cap : Nat) fun l2 =>
          Jn (σ := Bool) /- t45 -/ (fun kk2 =>
            IxA 1 t1_ x1 fun a2 =>
            Ld (.int .i64) a2 H3 fun (x2 : Int) =>
            Br (decide (x2 < 0)) (
              kk2 true H3) (
              IxA 2 t0_ x1 fun a3 =>
              Ld (.int .i64) a3 H3 fun (x3 : Int) =>
              Br (x3 == 24) (
                kk2 true H3) (
                IxA 2 t0_ x1 fun a4 =>
                Ld (.int .i64) a4 H3 fun (x4 : Int) =>
                kk2 (x4 == 21) H3))) fun j2 H5 =>
          Br j2 (
            kk1 l2 H5) (
            CallT Pg f_hindcastref15_next [.slice t0_.a t0_.len t0_.cap, .int .i64 x1] (.one (.c .sl)) H5 fun (r1 : Sl) H6 =>
            LoopT (σ := Sl × Int) /- t8, t11 -/ (fun next2 s2 H7 =>
              Br (decide (s2.2 < (r1.len : Int))) (
                Jn (σ := Sl) /- t8 -/ (fun kk3 =>
                  IxA 1 r1 s2.2 fun a5 =>
                  Ld (.int .i64) a5 H7 fun (x5 : Int) =>
                  Br (x5 == t2_) (
                    k true H7) (
                    IxA 1 r1 s2.2 fun a6 =>
                    Ld (.int .i64) a6 H7 fun (x6 : Int) =>
                    IxA 1 l1 x6 fun a7 =>
                    Ld .bool a7 H7 fun (x7 : Bool) =>
                    Jn (σ := Sl) /- t8 -/ (fun kk4 =>
                      Br (!x7) (
                        IxA 1 r1 s2.2 fun a8 =>
                        Ld (.int .i64) a8 H7 fun (x8 : Int) =>
                        IxA 1 l1 x8 fun a9 =>
                        St a9 (.bool true) H7 fun H10 =>
                        IxA 1 r1 s2.2 fun a10 =>
                        Ld (.int .i64) a10 H10 fun (x9 : Int) =>
                        Nw #[.int .i64 x9] T_int H10 fun b2 H11 =>
                        App T_int 1 8 #[.int .i64 0] s2.1 ⟨some (adr b2), 1, 1⟩ H11 fun l3 H12 =>
                        kk4 l3 H12) (
                        kk4 s2.1 H7)) fun j4 H9 =>
                    kk3 j4 H9)) fun j3 H8 =>
                Lt (IntKind.wrap .i64 (s2.2 + 1)) fun t1 =>
                next2 (j3, t1) H8) (
                kk1 s2.1 H7)) (l2, 0) H6)) fun j1 H4 =>
        next1 j1 H4) (
        k false H3)) ⟨some (adr b1), 1, 1⟩ H2
def h_hindcastref15_round : Hint := (.two .no (.two .no (.two .no (.two (.one (.loop [(8, (.c .sl))] (.two .no (.join [(8, (.c .sl))] (.one (.two .no (.two .no (.two (.two (.join [(45, (.c .bool))] .no) .no) (.two .no (.two .no (.one (.loop [(8, (.c .sl)), (11, (.c (.int .i64)))] (.two .no (.two (.join [(8, (.c .sl))] (.one (.two .no (.two .no (.join [(8, (.c .sl))] .no))))) .no)))))))))))))) .no))))
theorem e_hindcastref15_round (t0_ : Sl) (t1_ : Sl) (t2_ : Int) (H : Heap) (k : Bool → Heap → Prop) : EFun Pg Tryz.f36 h_hindcastref15_round [.slice t0_.a t0_.len t0_.cap, .slice t1_.a t1_.len t1_.cap, .int .i64 t2_] (.one (.c .bool)) H k = v_hindcastref15_round t0_ t1_ t2_ H k := by kernel_rfl
theorem c_hindcastref15_round (t0_ : Sl) (t1_ : Sl) (t2_ : Int) {H : Heap} {k : Bool → Heap → Prop} (h : v_hindcastref15_round t0_ t1_ t2_ H k) : CallT Pg f_hindcastref15_round [.slice t0_.a t0_.len t0_.cap, .slice t1_.a t1_.len t1_.cap, .int .i64 t2_] (.one (.c .bool)) H k :=
  call_of_E Pg_mixed Tryz.func36 (by kernel_rfl) (by kernel_rfl) (by kernel_rfl) (by kernel_rfl) ((e_hindcastref15_round t0_ t1_ t2_ H k).symm ▸ h)
/-- hindcast/hindcastref06.words -/
def v_hindcastref06_words (l_ : Sl) (H : Heap) (k : Bool → Heap → Prop) : Prop :=
    LoopT (σ := Int) /- i -/ (fun next1 s1 H1 =>
      Br (decide (s1 < (l_.len : Int))) (
        IxA 1 l_ s1 fun a1 =>
        Ld .str a1 H1 fun (x1 : ByteArray) =>
        CallT Pg f_hindcastref06_word [.string x1] (.one (.c .bool)) H1 fun (r1 : Bool) H2 =>
        Br (!r1) (
          k false H2) (
          LoopT (σ := Int) /- k -/ (fun next2 s2 H3 =>
            Br (decide (s2 < s1)) (
              IxA 1 l_ s2 fun a2 =>
              Ld .str a2 H3 fun (x2 : ByteArray) =>
              IxA 1 l_ s1 fun a3 =>
              Ld .str a3 H3 fun (x3 : ByteArray) =>
              Br (x2.toList == x3.toList) (
                k false H3) (
                Lt (IntKind.wrap .i64 (s2 + 1)) fun t1 =>
                next2 t1 H3)) (
              Lt (IntKind.wrap .i64 (s1 + 1)) fun t2 =>
              next1 t2 H3)) 0 H2)) (
        k true H1)) 0 H
def h_hindcastref06_words : Hint := (.two .no (.two (.two .no (.one (.loop [(3, (.c (.int .i64)))] (.two .no (.two (.one (.two .no (.two .no (.two .no (.one (.loop [(5, (.c (.int .i64)))] .no)))))) .no))))) .no))
theorem e_hindcastref06_words (l_ : Sl) (H : Heap) (k : Bool → Heap → Prop) : EFun Pg Tryz.f54 h_hindcastref06_words [.slice l_.a l_.len l_.cap] (.one (.c .bool)) H k = v_hindcastref06_words l_ H k := by kernel_rfl
theorem c_hindcastref06_words (l_ : Sl) {H : Heap} {k : Bool → Heap → Prop} (h : v_hindcastref06_words l_ H k) : CallT Pg f_hindcastref06_words [.slice l_.a l_.len l_.cap] (.one (.c .bool)) H k :=
  call_of_E Pg_mixed Tryz.func54 (by kernel_rfl) (by kernel_rfl) (by kernel_rfl) (by kernel_rfl) ((e_hindcastref06_words l_ H k).symm ▸ h)
/-- hindcast/hindcastref13.set -/
def v_hindcastref13_set (l_ : Sl) (H : Heap) (k : Bool → Heap → Prop) : Prop :=
    LoopT (σ := Int × Int) /- last, i -/ (fun next1 s1 H1 =>
      Br (decide (s1.2 < (l_.len : Int))) (
        Jn (σ := Bool) /-  -/ (fun kk1 =>
          IxA 1 l_ s1.2 fun a1 =>
          Ld (.int .i64) a1 H1 fun (x1 : Int) =>
          Br (decide (x1 ≤ s1.1)) (
            kk1 true H1) (
            IxA 1 l_ s1.2 fun a2 =>
            Ld (.int .i64) a2 H1 fun (x2 : Int) =>
            kk1 (decide (x2 > 12)) H1)) fun j1 H2 =>
        Br j1 (
          k false H2) (
          IxA 1 l_ s1.2 fun a3 =>
          Ld (.int .i64) a3 H2 fun (x3 : Int) =>
          Lt (IntKind.wrap .i64 (s1.2 + 1)) fun t1 =>
          next1 (x3, t1) H2)) (
        k true H1)) (0, 0) H
def h_hindcastref13_set : Hint := (.two .no (.two .no (.two (.two .no (.one (.loop [(3, (.c (.int .i64))), (4, (.c (.int .i64)))] (.two .no (.two (.one (.two (.two (.join [(23, (.c .bool))] .no) .no) .no)) .no))))) .no)))
theorem e_hindcastref13_set (l_ : Sl) (H : Heap) (k : Bool → Heap → Prop) : EFun Pg Tryz.f55 h_hindcastref13_set [.slice l_.a l_.len l_.cap] (.one (.c .bool)) H k = v_hindcastref13_set l_ H k := by kernel_rfl
theorem c_hindcastref13_set (l_ : Sl) {H : Heap} {k : Bool → Heap → Prop} (h : v_hindcastref13_set l_ H k) : CallT Pg f_hindcastref13_set [.slice l_.a l_.len l_.cap] (.one (.c .bool)) H k :=
  call_of_E Pg_mixed Tryz.func55 (by kernel_rfl) (by kernel_rfl) (by kernel_rfl) (by kernel_rfl) ((e_hindcastref13_set l_ H k).symm ▸ h)
/-- hindcast/hindcastref13.routine -/
def v_hindcastref13_routine (r_ : ByteArray × Int × Int × Sl) (H : Heap) (k : Bool → Heap → Prop) : Prop :=
    Nw #[.string r_.1, .int .i64 r_.2.1, .int .i64 r_.2.2.1, .slice r_.2.2.2.a r_.2.2.2.len r_.2.2.2.cap] T_api_Routine H fun b1 H1 =>
    Ld .sl ((adr b1).add 3) H1 fun (x1 : Sl) =>
    CallT Pg f_hindcastref13_instrs [.slice x1.a x1.len x1.cap] (.one (.c .bool)) H1 fun (r1 : Bool) H2 =>
    Jn (σ := Bool) /-  -/ (fun kk1 =>
      Br r1 (
        Ld .str (adr b1) H2 fun (x2 : ByteArray) =>
        Br (decide ((x2.size : Int) ≥ 1)) (
          Ld .str (adr b1) H2 fun (x3 : ByteArray) =>
          Br (decide ((x3.size : Int) ≤ 16)) (
            Ld (.int .i64) ((adr b1).add 1) H2 fun (x4 : Int) =>
            Br (decide (x4 ≥ 0)) (
              Ld (.int .i64) ((adr b1).add 1) H2 fun (x5 : Int) =>
              Br (decide (x5 ≤ 4)) (
                Ld (.int .i64) ((adr b1).add 2) H2 fun (x6 : Int) =>
                Ld (.int .i64) ((adr b1).add 1) H2 fun (x7 : Int) =>
                Br (decide (x6 ≥ x7)) (
                  Ld (.int .i64) ((adr b1).add 2) H2 fun (x8 : Int) =>
                  kk1 (decide (x8 ≤ 32)) H2) (
                  kk1 false H2)) (
                kk1 false H2)) (
              kk1 false H2)) (
            kk1 false H2)) (
          kk1 false H2)) (
        kk1 false H2)) fun j1 H3 =>
    k j1 H3
def h_hindcastref13_routine : Hint := (.two .no (.two .no (.two (.join [(2, (.c .bool))] .no) .no)))
theorem e_hindcastref13_routine (r_ : ByteArray × Int × Int × Sl) (H : Heap) (k : Bool → Heap → Prop) : EFun Pg Tryz.f56 h_hindcastref13_routine [.agg #[.string r_.1, .int .i64 r_.2.1, .int .i64 r_.2.2.1, .slice r_.2.2.2.a r_.2.2.2.len r_.2.2.2.cap]] (.one (.c .bool)) H k = v_hindcastref13_routine r_ H k := by kernel_rfl
theorem c_hindcastref13_routine (r_ : ByteArray × Int × Int × Sl) {H : Heap} {k : Bool → Heap → Prop} (h : v_hindcastref13_routine r_ H k) : CallT Pg f_hindcastref13_routine [.agg #[.string r_.1, .int .i64 r_.2.1, .int .i64 r_.2.2.1, .slice r_.2.2.2.a r_.2.2.2.len r_.2.2.2.cap]] (.one (.c .bool)) H k :=
  call_of_E Pg_mixed Tryz.func56 (by kernel_rfl) (by kernel_rfl) (by kernel_rfl) (by kernel_rfl) ((e_hindcastref13_routine r_ H k).symm ▸ h)
/-- hindcast/hindcastref15.fields -/
def v_hindcastref15_fields (kinds_ : Sl) (kind_ : Int) (H : Heap) (k : Int → Heap → Prop) : Prop :=
    Jn (σ := Bool) /-  -/ (fun kk1 =>
      Br (decide (kind_ < 1)) (
        kk1 true H) (
        kk1 (decide (kind_ > (kinds_.len : Int))) H)) fun j1 H1 =>
    Br j1 (
      k (-1) H1) (
      Lt (IntKind.wrap .i64 (kind_ - 1)) fun t1 =>
      IxA 2 kinds_ t1 fun a1 =>
      Ld .sl (a1.add 1) H1 fun (x1 : Sl) =>
      k (x1.len : Int) H1)
def h_hindcastref15_fields : Hint := (.two .no (.two (.two (.join [(12, (.c .bool))] .no) .no) .no))
theorem e_hindcastref15_fields (kinds_ : Sl) (kind_ : Int) (H : Heap) (k : Int → Heap → Prop) : EFun Pg Tryz.f57 h_hindcastref15_fields [.slice kinds_.a kinds_.len kinds_.cap, .int .i64 kind_] (.one (.c (.int .i64))) H k = v_hindcastref15_fields kinds_ kind_ H k := by kernel_rfl
theorem c_hindcastref15_fields (kinds_ : Sl) (kind_ : Int) {H : Heap} {k : Int → Heap → Prop} (h : v_hindcastref15_fields kinds_ kind_ H k) : CallT Pg f_hindcastref15_fields [.slice kinds_.a kinds_.len kinds_.cap, .int .i64 kind_] (.one (.c (.int .i64))) H k :=
  call_of_E Pg_mixed Tryz.func57 (by kernel_rfl) (by kernel_rfl) (by kernel_rfl) (by kernel_rfl) ((e_hindcastref15_fields kinds_ kind_ H k).symm ▸ h)
/-- hindcast/hindcastref15.in -/
def v_hindcastref15_in (l_ : Sl) (n_ : Int) (H : Heap) (k : Bool → Heap → Prop) : Prop :=
    LoopT (σ := Int) /- i -/ (fun next1 s1 H1 =>
      Br (decide (s1 < (l_.len : Int))) (
        IxA 1 l_ s1 fun a1 =>
        Ld (.int .i64) a1 H1 fun (x1 : Int) =>
        Br (x1 == n_) (
          k true H1) (
          Lt (IntKind.wrap .i64 (s1 + 1)) fun t1 =>
          next1 t1 H1)) (
        k false H1)) 0 H
def h_hindcastref15_in : Hint := (.two .no (.two (.two .no (.one (.loop [(5, (.c (.int .i64)))] .no))) .no))
theorem e_hindcastref15_in (l_ : Sl) (n_ : Int) (H : Heap) (k : Bool → Heap → Prop) : EFun Pg Tryz.f58 h_hindcastref15_in [.slice l_.a l_.len l_.cap, .int .i64 n_] (.one (.c .bool)) H k = v_hindcastref15_in l_ n_ H k := by kernel_rfl
theorem c_hindcastref15_in (l_ : Sl) (n_ : Int) {H : Heap} {k : Bool → Heap → Prop} (h : v_hindcastref15_in l_ n_ H k) : CallT Pg f_hindcastref15_in [.slice l_.a l_.len l_.cap, .int .i64 n_] (.one (.c .bool)) H k :=
  call_of_E Pg_mixed Tryz.func58 (by kernel_rfl) (by kernel_rfl) (by kernel_rfl) (by kernel_rfl) ((e_hindcastref15_in l_ n_ H k).symm ▸ h)
/-- hindcast/hindcastref06.word -/
def v_hindcastref06_word (s_ : ByteArray) (H : Heap) (k : Bool → Heap → Prop) : Prop :=
    LoopT (σ := Int) /- i -/ (fun next1 s1 H1 =>
      Br (decide (s1 < (s_.size : Int))) (
        StrI s_ s1 fun b1 =>
        Jn (σ := Bool) /- letter -/ (fun kk1 =>
          Br (decide (b1 ≥ 97)) (
            Br (decide (b1 ≤ 122)) (
              kk1 true H1) (
              Br (decide (b1 ≥ 65)) (
                kk1 (decide (b1 ≤ 90)) H1) (
                kk1 false H1))) (
            Br (decide (b1 ≥ 65)) (
              kk1 (decide (b1 ≤ 90)) H1) (
              kk1 false H1))) fun j1 H2 =>
        Jn (σ := Bool) /- more -/ (fun kk2 =>
          Br (decide (b1 ≥ 48)) (
            Br (decide (b1 ≤ 57)) (
              kk2 true H2) (
              kk2 (b1 == 95) H2)) (
            kk2 (b1 == 95) H2)) fun j2 H3 =>
        Jn (σ := Bool) /-  -/ (fun kk3 =>
          Br (!j1) (
            Br (s1 == 0) (
              kk3 true H3) (
              kk3 (!j2) H3)) (
            kk3 false H3)) fun j3 H4 =>
        Br j3 (
          k false H4) (
          Lt (IntKind.wrap .i64 (s1 + 1)) fun t1 =>
          next1 t1 H4)) (
        Jn (σ := Bool) /-  -/ (fun kk4 =>
          Br (decide ((s_.size : Int) ≥ 1)) (
            kk4 (decide ((s_.size : Int) ≤ 16)) H1) (
            kk4 false H1)) fun j4 H5 =>
        k j4 H5)) 0 H
def h_hindcastref06_word : Hint := (.two .no (.two (.two .no (.one (.loop [(3, (.c (.int .i64)))] (.two .no (.two (.one (.two .no (.two (.join [(5, (.c .bool))] .no) (.two (.join [(6, (.c .bool))] .no) (.two (.join [(49, (.c .bool))] .no) .no))))) .no))))) (.two (.join [(2, (.c .bool))] .no) .no)))
theorem e_hindcastref06_word (s_ : ByteArray) (H : Heap) (k : Bool → Heap → Prop) : EFun Pg Tryz.f81 h_hindcastref06_word [.string s_] (.one (.c .bool)) H k = v_hindcastref06_word s_ H k := by kernel_rfl
theorem c_hindcastref06_word (s_ : ByteArray) {H : Heap} {k : Bool → Heap → Prop} (h : v_hindcastref06_word s_ H k) : CallT Pg f_hindcastref06_word [.string s_] (.one (.c .bool)) H k :=
  call_of_E Pg_mixed Tryz.func81 (by kernel_rfl) (by kernel_rfl) (by kernel_rfl) (by kernel_rfl) ((e_hindcastref06_word s_ H k).symm ▸ h)
/-- hindcast/hindcastref13.instrs -/
def v_hindcastref13_instrs (l_ : Sl) (H : Heap) (k : Bool → Heap → Prop) : Prop :=
    LoopT (σ := Int) /- i -/ (fun next1 s1 H1 =>
      Br (decide (s1 < (l_.len : Int))) (
        IxA 2 l_ s1 fun a1 =>
        Ld (.int .i64) a1 H1 fun (x1 : Int) =>
        CallT Pg f_hindcastref13_IsOp [.int .i64 x1] (.one (.c .bool)) H1 fun (r1 : Bool) H2 =>
        IxA 2 l_ s1 fun a2 =>
        Ld (.int .i64) a2 H2 fun (x2 : Int) =>
        CallT Pg f_hindcastref13_HasA [.int .i64 x2] (.one (.c .bool)) H2 fun (r2 : Bool) H3 =>
        Jn (σ := Bool) /-  -/ (fun kk1 =>
          Br (!r1) (
            kk1 true H3) (
            Br (!r2) (
              IxA 2 l_ s1 fun a3 =>
              Ld (.int .i64) (a3.add 1) H3 fun (x3 : Int) =>
              kk1 (x3 != 0) H3) (
              kk1 false H3))) fun j1 H4 =>
        Br j1 (
          k false H4) (
          Lt (IntKind.wrap .i64 (s1 + 1)) fun t1 =>
          next1 t1 H4)) (
        k true H1)) 0 H
def h_hindcastref13_instrs : Hint := (.two .no (.two (.two .no (.one (.loop [(3, (.c (.int .i64)))] (.two .no (.two (.one (.two .no (.two .no (.two (.join [(37, (.c .bool))] .no) .no)))) .no))))) .no))
theorem e_hindcastref13_instrs (l_ : Sl) (H : Heap) (k : Bool → Heap → Prop) : EFun Pg Tryz.f82 h_hindcastref13_instrs [.slice l_.a l_.len l_.cap] (.one (.c .bool)) H k = v_hindcastref13_instrs l_ H k := by kernel_rfl
theorem c_hindcastref13_instrs (l_ : Sl) {H : Heap} {k : Bool → Heap → Prop} (h : v_hindcastref13_instrs l_ H k) : CallT Pg f_hindcastref13_instrs [.slice l_.a l_.len l_.cap] (.one (.c .bool)) H k :=
  call_of_E Pg_mixed Tryz.func82 (by kernel_rfl) (by kernel_rfl) (by kernel_rfl) (by kernel_rfl) ((e_hindcastref13_instrs l_ H k).symm ▸ h)
/-- hindcast/hindcastref13.HasA -/
def v_hindcastref13_HasA (op_ : Int) (H : Heap) (k : Bool → Heap → Prop) : Prop :=
    CallT Pg f_hindcastref13_IsOp [.int .i64 op_] (.one (.c .bool)) H fun (r1 : Bool) H1 =>
    Jn (σ := Bool) /-  -/ (fun kk1 =>
      Br r1 (
        CallT Pg f_hindcastref13_table [] (.one (.c .sl)) H1 fun (r2 : Sl) H3 =>
        IxA 4 r2 op_ fun a1 =>
        Ld .bool (a1.add 1) H3 fun (x1 : Bool) =>
        kk1 x1 H3) (
        kk1 false H1)) fun j1 H2 =>
    k j1 H2
def h_hindcastref13_HasA : Hint := (.two .no (.two .no (.two (.join [(2, (.c .bool))] .no) .no)))
theorem e_hindcastref13_HasA (op_ : Int) (H : Heap) (k : Bool → Heap → Prop) : EFun Pg Tryz.f99 h_hindcastref13_HasA [.int .i64 op_] (.one (.c .bool)) H k = v_hindcastref13_HasA op_ H k := by kernel_rfl
theorem c_hindcastref13_HasA (op_ : Int) {H : Heap} {k : Bool → Heap → Prop} (h : v_hindcastref13_HasA op_ H k) : CallT Pg f_hindcastref13_HasA [.int .i64 op_] (.one (.c .bool)) H k :=
  call_of_E Pg_mixed Tryz.func99 (by kernel_rfl) (by kernel_rfl) (by kernel_rfl) (by kernel_rfl) ((e_hindcastref13_HasA op_ H k).symm ▸ h)
end Go.Proofs.YtlkmmplgfjicjaaGreat
namespace Go.Proofs.YtlkmmplgfjicjaaGreat.Hc
set_option linter.unusedVariables false
set_option linter.unusedSimpArgs false

/-- From H to H' nothing has turned but blocks of M, and blocks that are new. -/
structure Upd (M : Nat → Prop) (H H' : Heap) : Prop where
  size : H.size ≤ H'.size
  get : ∀ b, b < H.size → ¬ M b → H'[b]? = H[b]?
abbrev Ext (H H' : Heap) : Prop := Upd (fun _ => False) H H'

theorem Upd.refl (M : Nat → Prop) (H : Heap) : Upd M H H := ⟨Nat.le_refl _, fun _ _ _ => rfl⟩
theorem Upd.trans {M M2 : Nat → Prop} {H H1 H2 : Heap} (h : Upd M H H1) (h2 : Upd M2 H1 H2) (hM : ∀ b, b < H.size → M2 b → M b) : Upd M H H2 :=
  ⟨Nat.le_trans h.size h2.size, fun b hb hn => (h2.get b (Nat.lt_of_lt_of_le hb h.size) fun hm => hn (hM b hb hm)).trans (h.get b hb hn)⟩
theorem Upd.mono {M M2 : Nat → Prop} {H H1 : Heap} (h : Upd M2 H H1) (hM : ∀ b, b < H.size → M2 b → M b) : Upd M H H1 :=
  ⟨h.size, fun b hb hn => h.get b hb fun hm => hn (hM b hb hm)⟩
theorem Upd.ext {M : Nat → Prop} {H H1 H2 : Heap} (h : Upd M H H1) (h2 : Ext H1 H2) : Upd M H H2 := h.trans h2 fun _ _ h => h.elim
theorem Upd.push (M : Nat → Prop) (H : Heap) (o : Obj) : Upd M H (H.push o) :=
  ⟨by simp, fun b hb _ => by rw [Array.getElem?_push, if_neg (by omega)]⟩
theorem Upd.set (H : Heap) (a : Addr) (v : Value) : Upd (· = a.block) H (hset H a v) :=
  ⟨by simp [hset], fun b _ hn => by simp only [hset, Array.getElem?_modify]; rw [if_neg (fun e => hn e.symm)]⟩
theorem lt_of_get {H : Heap} {b : Nat} {o : Obj} (h : H[b]? = some o) : b < H.size := by
  rcases Nat.lt_or_ge b H.size with h' | h'
  · exact h'
  · rw [Array.getElem?_eq_none h'] at h; cases h
/-- A block that was not turned holds what it held. -/
theorem Upd.keep {M : Nat → Prop} {H H' : Heap} (h : Upd M H H') {b : Nat} {o : Obj} (hb : H[b]? = some o) (hn : ¬ M b) : H'[b]? = some o := (h.get b (lt_of_get hb) hn).trans hb
theorem get_push_new (H : Heap) (o : Obj) : (H.push o)[H.size]? = some o := by simp
theorem get_push_old {H : Heap} {o o' : Obj} {b : Nat} (h : H[b]? = some o') : (H.push o)[b]? = some o' := by
  have := lt_of_get h
  rw [Array.getElem?_push, if_neg (by omega)]; exact h
theorem lt_of_cell {H : Heap} {a : Addr} {v : Value} (h : hcell H a = some v) : a.block < H.size := by
  unfold hcell at h
  rcases Nat.lt_or_ge a.block H.size with h' | h'
  · exact h'
  · rw [Array.getElem?_eq_none h'] at h; cases h
theorem hcell_congr {H H' : Heap} {a : Addr} (h : H'[a.block]? = H[a.block]?) : hcell H' a = hcell H a := by unfold hcell; rw [h]
theorem hfrozen_congr {H H' : Heap} {a : Addr} (h : H'[a.block]? = H[a.block]?) : hfrozen H' a = hfrozen H a := by unfold hfrozen; rw [h]
theorem Upd.cell {M : Nat → Prop} {H H' : Heap} (h : Upd M H H') {a : Addr} {v : Value} (hc : hcell H a = some v) (hn : ¬ M a.block) : hcell H' a = some v :=
  (hcell_congr (h.get _ (lt_of_cell hc) hn)).trans hc

/-- Cells of a block that is known whole. -/
theorem cell_blk {H : Heap} {b o : Nat} {cs : Array Value} {t : TypeId} {fr : Nat × Nat} (h : H[b]? = some (.cells cs t fr)) : hcell H ⟨b, o, none⟩ = cs[o]? := by
  simp [hcell, h]
theorem frozen_blk {H : Heap} {b o : Nat} {cs : Array Value} {t : TypeId} (h : H[b]? = some (.cells cs t (0, 0))) : hfrozen H ⟨b, o, none⟩ = false := by
  simp [hfrozen, h]
theorem set_blk {H : Heap} {b o : Nat} {cs : Array Value} {t : TypeId} {fr : Nat × Nat} (h : H[b]? = some (.cells cs t fr)) (v : Value) :
    (hset H ⟨b, o, none⟩ v)[b]? = some (.cells (cs.setIfInBounds o v) t fr) := by
  simp [hset, Array.getElem?_modify, h]
@[simp] theorem size_hset (H : Heap) (a : Addr) (v : Value) : (hset H a v).size = H.size := by simp [hset]
@[simp] theorem adr_add (b n : Nat) : (adr b).add n = ⟨b, n, none⟩ := by unfold Addr.add; split <;> simp_all
@[simp] theorem mk_add (b o n : Nat) : (Addr.add ⟨b, o, none⟩ n) = ⟨b, o + n, none⟩ := by unfold Addr.add; split <;> simp_all

/-! ### the words -/
@[simp] theorem NilCk_some (a : Addr) (k : Addr → Prop) : NilCk (some a) k ↔ k a := by simp [NilCk]
@[simp] theorem NilCk_none (k : Addr → Prop) : NilCk none k ↔ False := by simp [NilCk]
theorem Ld.mk {c : CTy} {a : Addr} {H : Heap} {k : c.den → Prop} (d : c.den) (h : hcell H a = some (c.emb d)) (hk : k d) : Ld c a H k := ⟨d, h, hk⟩
theorem Ld_int {kd : IntKind} {a : Addr} {H : Heap} {k : Int → Prop} {n : Int} (h : hcell H a = some (.int kd n)) (hk : k n) : Ld (.int kd) a H k := ⟨n, h, hk⟩
theorem Ld_bool {a : Addr} {H : Heap} {k : Bool → Prop} {n : Bool} (h : hcell H a = some (.bool n)) (hk : k n) : Ld .bool a H k := ⟨n, h, hk⟩
theorem Ld_str {a : Addr} {H : Heap} {k : ByteArray → Prop} {n : ByteArray} (h : hcell H a = some (.string n)) (hk : k n) : Ld .str a H k := ⟨n, h, hk⟩
theorem Ld_ptr {a : Addr} {H : Heap} {k : Option Addr → Prop} {n : Option Addr} (h : hcell H a = some (.pointer n)) (hk : k n) : Ld .ptr a H k := ⟨n, h, hk⟩
theorem Ld_sl {a : Addr} {H : Heap} {k : Sl → Prop} {s : Sl} (h : hcell H a = some (.slice s.a s.len s.cap)) (hk : k s) : Ld .sl a H k := ⟨s, h, hk⟩
theorem St.mk {a : Addr} {v : Value} {H : Heap} {k : Heap → Prop} {u : Value} (h : hcell H a = some u) (hf : hfrozen H a = false) (hk : k (hset H a v)) : St a v H k := ⟨by rw [h]; rfl, hf, hk⟩
theorem St_blk {b o : Nat} {v : Value} {H : Heap} {k : Heap → Prop} {cs : Array Value} {t : TypeId} (h : H[b]? = some (.cells cs t (0, 0))) (ho : o < cs.size)
    (hk : ∀ H', Upd (· = b) H H' → H'.size = H.size → H'[b]? = some (.cells (cs.setIfInBounds o v) t (0, 0)) → k H') : St ⟨b, o, none⟩ v H k :=
  ⟨by rw [cell_blk h]; simp [ho], frozen_blk h, hk _ (Upd.set H ⟨b, o, none⟩ v) (by simp) (set_blk h v)⟩
@[simp] theorem Br_true (X Y : Prop) : Br true X Y ↔ X := Iff.rfl
@[simp] theorem Br_false (X Y : Prop) : Br false X Y ↔ Y := Iff.rfl
theorem Br.mk {b : Bool} {X Y : Prop} (h1 : b = true → X) (h2 : b = false → Y) : Br b X Y := by cases b; exact h2 rfl; exact h1 rfl
theorem Br_dec {p : Prop} [Decidable p] {X Y : Prop} (h1 : p → X) (h2 : ¬ p → Y) : Br (decide p) X Y := Br.mk (fun h => h1 (of_decide_eq_true h)) fun h => h2 (of_decide_eq_false h)
theorem Br_yes {p : Prop} [Decidable p] {X Y : Prop} (h : p) (hx : X) : Br (decide p) X Y := by rw [decide_eq_true h]; exact hx
theorem Br_no {p : Prop} [Decidable p] {X Y : Prop} (h : ¬ p) (hy : Y) : Br (decide p) X Y := by rw [decide_eq_false h]; exact hy
@[simp] theorem Lt_def (v : Int) (k : Int → Prop) : Lt v k ↔ k v := Iff.rfl
theorem Lt.mk {v u : Int} {k : Int → Prop} (h : v = u) (hk : k u) : Lt v k := by subst h; exact hk
theorem Nw.mk {cells : Array Value} {t : TypeId} {H : Heap} {k : Nat → Heap → Prop}
    (h : ∀ H', H' = H.push (.cells cells t) → k H.size H') : Nw cells t H k := h _ rfl
/-- New memory: its block, and all else as it was. -/
theorem Nw_blk {cells : Array Value} {t : TypeId} {H : Heap} {k : Nat → Heap → Prop}
    (h : ∀ b H', b = H.size → Ext H H' → H'.size = H.size + 1 → H'[b]? = some (.cells cells t (0, 0)) → k b H') : Nw cells t H k :=
  h _ _ rfl (Upd.push _ _ _) (by simp) (get_push_new _ _)
theorem Jn.mk {σ : Type} {m : (σ → Heap → Prop) → Prop} {k : σ → Heap → Prop} (R : σ → Heap → Prop) (h1 : ∀ kk, (∀ s H, R s H → kk s H) → m kk) (h2 : ∀ s H, R s H → k s H) : Jn m k := h1 k h2
theorem Jn_in {σ : Type} {m : (σ → Heap → Prop) → Prop} {k : σ → Heap → Prop} (h : m k) : Jn m k := h
theorem LoopT.mk {σ : Type} {body : (σ → Heap → Prop) → σ → Heap → Prop} {s : σ} {H : Heap} (I : σ → Heap → Prop) (μ : σ → Heap → Nat) (h : I s H)
    (hb : ∀ next s H, I s H → (∀ s' H', I s' H' → μ s' H' < μ s H → next s' H') → body next s H) : LoopT body s H :=
  ⟨I, μ, h, fun s H hI => hb _ s H hI fun _ _ h1 h2 => ⟨h1, h2⟩⟩
/-- A loop whose measure is the proof's own number. -/
theorem LoopT.ghost {σ : Type} {body : (σ → Heap → Prop) → σ → Heap → Prop} {s : σ} {H : Heap} (I : Nat → σ → Heap → Prop) (n : Nat) (h : I n s H)
    (hb : ∀ next m s H, I m s H → (∀ m' s' H', m' < m → I m' s' H' → next s' H') → body next s H) : LoopT body s H := by
  refine ⟨fun s H => ∃ m, I m s H, fun s H => leastOf (fun m => I m s H), ⟨n, h⟩, fun s H hI => ?_⟩
  have hl := leastOf_spec hI
  exact hb _ _ s H hl.1 fun m' s' H' hlt hI' => ⟨⟨m', hI'⟩, Nat.lt_of_le_of_lt ((leastOf_spec ⟨m', hI'⟩).2 m' hI') hlt⟩
theorem CallT.mono {P : Program} {f : FuncId} {args : List Value} {r : RTy} {H : Heap} {k k' : r.den → Heap → Prop} (h : CallT P f args r H k) (hk : ∀ d H', k d H' → k' d H') : CallT P f args r H k' :=
  ⟨h.1, fun w hw => (h.2 w hw).mono fun _ _ ⟨he, d, h1, h2⟩ => ⟨he, d, h1, hk d _ h2⟩⟩
theorem IxA.mk {size : Nat} {s : Sl} {i : Int} {k : Addr → Prop} {a : Addr} (ha : s.a = some a) (h0 : 0 ≤ i) (h1 : i < (s.len : Int)) (hk : k (a.add (i.toNat * size))) : IxA size s i k := ⟨a, ha, h0, h1, hk⟩
theorem Stab_1 {a : Addr} {v : Value} {H : Heap} {X : Prop} (h : hcell H a = some v) (hx : X) : Stab [(a, v)] H X := ⟨by simpa using h, hx⟩
theorem Stab_2 {a b : Addr} {v u : Value} {H : Heap} {X : Prop} (h : hcell H a = some v) (h2 : hcell H b = some u) (hx : X) : Stab [(a, v), (b, u)] H X := ⟨by simp [h, h2], hx⟩
theorem Stab_all {l : List (Addr × Value)} {H : Heap} {X : Prop} (h : ∀ x ∈ l, hcell H x.1 = some x.2) (hx : X) : Stab l H X := by
  cases l with
  | nil => exact hx
  | cons e l => exact ⟨h, hx⟩
/-- What an int64 may be. -/
def I64 (x : Int) : Prop := -9223372036854775808 ≤ x ∧ x < 9223372036854775808
theorem wrap_u64 (x : Int) : IntKind.wrap .u64 x = x % 18446744073709551616 := by
  unfold IntKind.wrap; simp [IntKind.signed, IntKind.bits]
theorem wrap_i64 (x : Int) : IntKind.wrap .i64 x = (x + 9223372036854775808) % 18446744073709551616 - 9223372036854775808 := by
  unfold IntKind.wrap; simp [IntKind.signed, IntKind.bits]; split <;> omega
theorem wrap_i64_id {x : Int} (h0 : -9223372036854775808 ≤ x) (h1 : x < 9223372036854775808) : IntKind.wrap .i64 x = x := by rw [wrap_i64]; omega
theorem wrap_u64_id {x : Int} (h0 : 0 ≤ x) (h1 : x < 18446744073709551616) : IntKind.wrap .u64 x = x := by rw [wrap_u64]; omega
theorem wrap_u8 (x : Int) : IntKind.wrap .u8 x = x % 256 := by
  unfold IntKind.wrap; simp [IntKind.signed, IntKind.bits]
end Go.Proofs.YtlkmmplgfjicjaaGreat.Hc
