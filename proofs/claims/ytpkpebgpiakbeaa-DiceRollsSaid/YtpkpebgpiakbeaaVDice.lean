import Derived.Test.YtpkpebgpiakbeaaHcFun
import Derived.KernelRfl
import Derived.Test.YtpkpebgpiakbeaaProg
namespace Go.Proofs.Ytpkpebgpiakbeaa
set_option linter.unusedVariables false
set_option linter.unusedSimpArgs false
open Go.Proofs.Ytpkpebgpiakbeaa.Hc
noncomputable abbrev Pg : Program := Try.prog
abbrev T_Sl_int : TypeId := 45
abbrev T_bool : TypeId := 4
abbrev T_dice_Dice : TypeId := 99
abbrev T_hindcastlaw08_Cup : TypeId := 27
abbrev T_hindcastlaw08_Roll : TypeId := 39
abbrev T_hindcastlaw08_book : TypeId := 36
abbrev T_hindcastref08_Dice : TypeId := 101
abbrev T_int : TypeId := 3
abbrev f_hindcastlaw08_DiceMixes : FuncId := 3
abbrev f_hindcastlaw08_DiceRolls : FuncId := 4
abbrev f_hindcastlaw08_DiceBounds : FuncId := 5
abbrev f_hindcastlaw08_shown : FuncId := 12
abbrev f_dice_Mix : FuncId := 13
abbrev f_hindcastref08_Mix : FuncId := 14
abbrev f_dice_New : FuncId := 15
abbrev f_hindcastref08_New : FuncId := 16
abbrev f_hindcastlaw08_pick : FuncId := 17
abbrev f_hindcastlaw08_book_roll : FuncId := 18
abbrev f_hindcastlaw08_book_still : FuncId := 19
abbrev f_hindcastlaw08_book_owned : FuncId := 20
abbrev f_dice_Dice_Below : FuncId := 21
abbrev f_dice_Dice_Between : FuncId := 22
abbrev f_dice_Dice_Next : FuncId := 23
abbrev f_dice_Dice_Shuffle : FuncId := 24
abbrev f_hindcastref08_Dice_Below : FuncId := 54
abbrev f_hindcastref08_Dice_Between : FuncId := 55
abbrev f_hindcastref08_Dice_Shuffle : FuncId := 56
abbrev f_hindcastlaw08_same : FuncId := 57
abbrev f_hindcastref08_Dice_Next : FuncId := 58
abbrev f_dice_Dice_below : FuncId := 59
theorem Pg_mixed : Pg.follows .mixedOrders = true := by kernel_rfl
/-- hindcast/hindcastlaw08.DiceMixes -/
def v_hindcastlaw08_DiceMixes (x_ : Int) (H : Heap) (k : Bool → Heap → Prop) : Prop :=
    CallT Pg f_hindcastlaw08_shown [] (.one (.c .bool)) H fun (r1 : Bool) H1 =>
    Jn (σ := Bool) /-  -/ (fun kk1 =>
      Br r1 (
        CallT Pg f_dice_Mix [.int .u64 x_] (.one (.c (.int .u64))) H1 fun (r2 : Int) H3 =>
        CallT Pg f_hindcastref08_Mix [.int .u64 x_] (.one (.c (.int .u64))) H3 fun (r3 : Int) H4 =>
        kk1 (r2 == r3) H4) (
        kk1 false H1)) fun j1 H2 =>
    k j1 H2
def h_hindcastlaw08_DiceMixes : Hint := (.two .no (.two .no (.two (.join [(2, (.c .bool))] .no) .no)))
theorem e_hindcastlaw08_DiceMixes (x_ : Int) (H : Heap) (k : Bool → Heap → Prop) : EFun Pg Try.f3 h_hindcastlaw08_DiceMixes [.int .u64 x_] (.one (.c .bool)) H k = v_hindcastlaw08_DiceMixes x_ H k := by kernel_rfl
theorem c_hindcastlaw08_DiceMixes (x_ : Int) {H : Heap} {k : Bool → Heap → Prop} (h : v_hindcastlaw08_DiceMixes x_ H k) : CallT Pg f_hindcastlaw08_DiceMixes [.int .u64 x_] (.one (.c .bool)) H k :=
  call_of_E Pg_mixed Try.func3 (by kernel_rfl) (by kernel_rfl) (by kernel_rfl) (by kernel_rfl) ((e_hindcastlaw08_DiceMixes x_ H k).symm ▸ h)
/-- hindcast/hindcastlaw08.DiceRolls -/
def v_hindcastlaw08_DiceRolls (t0_ : Int × Int × Int × Int) (t1_ : Int × Int × Int × Int) (t2_ : Sl) (H : Heap) (k : Bool → Heap → Prop) : Prop :=
    Nw #[.int .i64 t0_.1, .int .i64 t0_.2.1, .int .i64 t0_.2.2.1, .int .i64 t0_.2.2.2] T_hindcastlaw08_Cup H fun b1 H1 =>
    Nw #[.int .i64 t1_.1, .int .i64 t1_.2.1, .int .i64 t1_.2.2.1, .int .i64 t1_.2.2.2] T_hindcastlaw08_Cup H1 fun b2 H2 =>
    CallT Pg f_hindcastlaw08_shown [] (.one (.c .bool)) H2 fun (r1 : Bool) H3 =>
    Ld (.int .i64) (adr b1) H3 fun (x1 : Int) =>
    Ld (.int .i64) ((adr b1).add 1) H3 fun (x2 : Int) =>
    Ld (.int .i64) ((adr b1).add 2) H3 fun (x3 : Int) =>
    Ld (.int .i64) ((adr b1).add 3) H3 fun (x4 : Int) =>
    CallT Pg f_dice_New [.int .i64 x1, .int .i64 x2, .int .i64 x3, .int .i64 x4] (.one (.c .ptr)) H3 fun (r2 : Option Addr) H4 =>
    Ld (.int .i64) (adr b2) H4 fun (x5 : Int) =>
    Ld (.int .i64) ((adr b2).add 1) H4 fun (x6 : Int) =>
    Ld (.int .i64) ((adr b2).add 2) H4 fun (x7 : Int) =>
    Ld (.int .i64) ((adr b2).add 3) H4 fun (x8 : Int) =>
    CallT Pg f_dice_New [.int .i64 x5, .int .i64 x6, .int .i64 x7, .int .i64 x8] (.one (.c .ptr)) H4 fun (r3 : Option Addr) H5 =>
    Jn (σ := Bool) /- t44 -/ (fun kk1 =>
      Br (!r1) (
        kk1 true H5) (
        Br r2.isNone (
          kk1 true H5) (
          kk1 r3.isNone H5))) fun j1 H6 =>
    Br j1 (
      k false H6) (
      Ld (.int .i64) (adr b1) H6 fun (x9 : Int) =>
      Ld (.int .i64) ((adr b1).add 1) H6 fun (x10 : Int) =>
      Ld (.int .i64) ((adr b1).add 2) H6 fun (x11 : Int) =>
      Ld (.int .i64) ((adr b1).add 3) H6 fun (x12 : Int) =>
      CallT Pg f_hindcastref08_New [.int .i64 x9, .int .i64 x10, .int .i64 x11, .int .i64 x12] (.one (.c .ptr)) H6 fun (r4 : Option Addr) H7 =>
      Ld (.int .i64) (adr b2) H7 fun (x13 : Int) =>
      Ld (.int .i64) ((adr b2).add 1) H7 fun (x14 : Int) =>
      Ld (.int .i64) ((adr b2).add 2) H7 fun (x15 : Int) =>
      Ld (.int .i64) ((adr b2).add 3) H7 fun (x16 : Int) =>
      CallT Pg f_hindcastref08_New [.int .i64 x13, .int .i64 x14, .int .i64 x15, .int .i64 x16] (.one (.c .ptr)) H7 fun (r5 : Option Addr) H8 =>
      Nw #[.slice none 0 0, .slice none 0 0] T_hindcastlaw08_book H8 fun b3 H9 =>
      LoopT (σ := Int) /- t13 -/ (fun next1 s1 H10 =>
        Jn (σ := Bool) /- t72 -/ (fun kk2 =>
          Br (decide (s1 < (t2_.len : Int))) (
            kk2 (decide (s1 < 300)) H10) (
            kk2 false H10)) fun j2 H11 =>
        Br j2 (
          IxA 5 t2_ s1 fun a1 =>
          Ld (.int .i64) (a1.add 1) H11 fun (x17 : Int) =>
          CallT Pg f_hindcastlaw08_pick [.int .i64 x17, .int .i64 2] (.one (.c (.int .i64))) H11 fun (r6 : Int) H12 =>
          Jn (σ := Bool) /- t14 -/ (fun kk3 =>
            Br (r6 == 0) (
              IxA 5 t2_ s1 fun a2 =>
              LdC [(.int .i64), (.int .i64), (.int .i64), (.int .i64), (.int .i64)] a2 H12 fun (c1 : Int × Int × Int × Int × Int) =>
              CallT Pg f_hindcastlaw08_book_roll [.pointer (some (adr b3)), .pointer r2, .pointer r4, .agg #[.int .i64 c1.1, .int .i64 c1.2.1, .int .i64 c1.2.2.1, .int .i64 c1.2.2.2.1, .int .i64 c1.2.2.2.2]] (.one (.c .bool)) H12 fun (r7 : Bool) H14 =>
              kk3 r7 H14) (
              IxA 5 t2_ s1 fun a3 =>
              LdC [(.int .i64), (.int .i64), (.int .i64), (.int .i64), (.int .i64)] a3 H12 fun (c2 : Int × Int × Int × Int × Int) =>
              CallT Pg f_hindcastlaw08_book_roll [.pointer (some (adr b3)), .pointer r3, .pointer r5, .agg #[.int .i64 c2.1, .int .i64 c2.2.1, .int .i64 c2.2.2.1, .int .i64 c2.2.2.2.1, .int .i64 c2.2.2.2.2]] (.one (.c .bool)) H12 fun (r8 : Bool) H15 =>
              kk3 r8 H15)) fun j3 H13 =>
          CallT Pg f_hindcastlaw08_book_still [.pointer (some (adr b3))] (.one (.c .bool)) H13 fun (r9 : Bool) H16 =>
          Jn (σ := Bool) /- t105 -/ (fun kk4 =>
            Br (!j3) (
              kk4 true H16) (
              kk4 (!r9) H16)) fun j4 H17 =>
          Br j4 (
            k false H17) (
            Lt (IntKind.wrap .i64 (s1 + 1)) fun t1 =>
            next1 t1 H17)) (
          CallT Pg f_hindcastlaw08_book_owned [.pointer (some (adr b3))] (.one (.c .bool)) H11 fun (r10 : Bool) H18 =>
          k r10 H18)) 0 H9)
def h_hindcastlaw08_DiceRolls : Hint := (.two .no (.two .no (.two .no (.two .no (.two (.two (.join [(44, (.c .bool))] .no) .no) (.two .no (.two .no (.two .no (.two (.two .no (.one (.loop [(13, (.c (.int .i64)))] (.two (.two (.join [(72, (.c .bool))] .no) .no) (.two (.one (.two .no (.two (.two .no (.join [(14, (.c .bool))] .no)) (.two .no (.two (.join [(105, (.c .bool))] .no) .no))))) .no))))) .no)))))))))
theorem e_hindcastlaw08_DiceRolls (t0_ : Int × Int × Int × Int) (t1_ : Int × Int × Int × Int) (t2_ : Sl) (H : Heap) (k : Bool → Heap → Prop) : EFun Pg Try.f4 h_hindcastlaw08_DiceRolls [.agg #[.int .i64 t0_.1, .int .i64 t0_.2.1, .int .i64 t0_.2.2.1, .int .i64 t0_.2.2.2], .agg #[.int .i64 t1_.1, .int .i64 t1_.2.1, .int .i64 t1_.2.2.1, .int .i64 t1_.2.2.2], .slice t2_.a t2_.len t2_.cap] (.one (.c .bool)) H k = v_hindcastlaw08_DiceRolls t0_ t1_ t2_ H k := by kernel_rfl
theorem c_hindcastlaw08_DiceRolls (t0_ : Int × Int × Int × Int) (t1_ : Int × Int × Int × Int) (t2_ : Sl) {H : Heap} {k : Bool → Heap → Prop} (h : v_hindcastlaw08_DiceRolls t0_ t1_ t2_ H k) : CallT Pg f_hindcastlaw08_DiceRolls [.agg #[.int .i64 t0_.1, .int .i64 t0_.2.1, .int .i64 t0_.2.2.1, .int .i64 t0_.2.2.2], .agg #[.int .i64 t1_.1, .int .i64 t1_.2.1, .int .i64 t1_.2.2.1, .int .i64 t1_.2.2.2], .slice t2_.a t2_.len t2_.cap] (.one (.c .bool)) H k :=
  call_of_E Pg_mixed Try.func4 (by kernel_rfl) (by kernel_rfl) (by kernel_rfl) (by kernel_rfl) ((e_hindcastlaw08_DiceRolls t0_ t1_ t2_ H k).symm ▸ h)
/-- hindcast/hindcastlaw08.DiceBounds -/
def v_hindcastlaw08_DiceBounds (t0_ : Int × Int × Int × Int) (t1_ : Int) (t2_ : Int) (t3_ : Int) (t4_ : Int) (H : Heap) (k : Bool → Heap → Prop) : Prop :=
    Nw #[.int .i64 t0_.1, .int .i64 t0_.2.1, .int .i64 t0_.2.2.1, .int .i64 t0_.2.2.2] T_hindcastlaw08_Cup H fun b1 H1 =>
    CallT Pg f_hindcastlaw08_shown [] (.one (.c .bool)) H1 fun (r1 : Bool) H2 =>
    Ld (.int .i64) (adr b1) H2 fun (x1 : Int) =>
    Ld (.int .i64) ((adr b1).add 1) H2 fun (x2 : Int) =>
    Ld (.int .i64) ((adr b1).add 2) H2 fun (x3 : Int) =>
    Ld (.int .i64) ((adr b1).add 3) H2 fun (x4 : Int) =>
    CallT Pg f_dice_New [.int .i64 x1, .int .i64 x2, .int .i64 x3, .int .i64 x4] (.one (.c .ptr)) H2 fun (r2 : Option Addr) H3 =>
    Ld (.int .i64) (adr b1) H3 fun (x5 : Int) =>
    Ld (.int .i64) ((adr b1).add 1) H3 fun (x6 : Int) =>
    Ld (.int .i64) ((adr b1).add 2) H3 fun (x7 : Int) =>
    Ld (.int .i64) ((adr b1).add 3) H3 fun (x8 : Int) =>
    CallT Pg f_dice_New [.int .i64 x5, .int .i64 x6, .int .i64 x7, .int .i64 x8] (.one (.c .ptr)) H3 fun (r3 : Option Addr) H4 =>
    Ld (.int .i64) (adr b1) H4 fun (x9 : Int) =>
    Ld (.int .i64) ((adr b1).add 1) H4 fun (x10 : Int) =>
    Ld (.int .i64) ((adr b1).add 2) H4 fun (x11 : Int) =>
    Ld (.int .i64) ((adr b1).add 3) H4 fun (x12 : Int) =>
    CallT Pg f_dice_New [.int .i64 x9, .int .i64 x10, .int .i64 x11, .int .i64 x12] (.one (.c .ptr)) H4 fun (r4 : Option Addr) H5 =>
    Jn (σ := Bool) /- t70 -/ (fun kk1 =>
      Br (!r1) (
        kk1 true H5) (
        Br r2.isNone (
          kk1 true H5) (
          Br r3.isNone (
            kk1 true H5) (
            kk1 r4.isNone H5)))) fun j1 H6 =>
    Br j1 (
      k false H6) (
      LoopT (σ := Int) /- t15 -/ (fun next1 s1 H7 =>
        Br (decide (s1 < 5)) (
          CallT Pg f_dice_Dice_Below [.pointer r2, .int .i64 t1_] (.one (.c (.int .i64))) H7 fun (r5 : Int) H8 =>
          CallT Pg f_dice_Dice_Between [.pointer r2, .int .i64 t2_, .int .i64 t3_] (.one (.c (.int .i64))) H8 fun (r6 : Int) H9 =>
          CallT Pg f_dice_Dice_Next [.pointer r4] (.one (.c (.int .u64))) H9 fun (r7 : Int) H10 =>
          CallT Pg f_dice_Dice_Shuffle [.pointer r4, .int .i64 3] (.one (.c .sl)) H10 fun (r8 : Sl) H11 =>
          CallT Pg f_dice_Dice_Below [.pointer r3, .int .i64 t1_] (.one (.c (.int .i64))) H11 fun (r9 : Int) H12 =>
          CallT Pg f_dice_Dice_Between [.pointer r3, .int .i64 t2_, .int .i64 t3_] (.one (.c (.int .i64))) H12 fun (r10 : Int) H13 =>
          Jn (σ := Bool) /- t121 -/ (fun kk2 =>
            Br (r5 != r9) (
              kk2 true H13) (
              Br (r6 != r10) (
                kk2 true H13) (
                Br (decide (r5 < 0)) (
                  kk2 true H13) (
                  Br (decide (t1_ ≥ 1)) (
                    Br (decide (r5 ≥ t1_)) (
                      kk2 true H13) (
                      Br (decide (t1_ < 1)) (
                        kk2 (r5 != 0) H13) (
                        kk2 false H13))) (
                    Br (decide (t1_ < 1)) (
                      kk2 (r5 != 0) H13) (
                      kk2 false H13)))))) fun j2 H14 =>
          Br j2 (
            k false H14) (
            Jn (σ := Bool) /- t144 -/ (fun kk3 =>
              Br (decide (r6 < t2_)) (
                kk3 true H14) (
                Br (decide (t3_ ≥ t2_)) (
                  Br (decide (r6 > t3_)) (
                    kk3 true H14) (
                    Br (decide (t3_ < t2_)) (
                      kk3 (r6 != t2_) H14) (
                      kk3 false H14))) (
                  Br (decide (t3_ < t2_)) (
                    kk3 (r6 != t2_) H14) (
                    kk3 false H14)))) fun j3 H15 =>
            Br j3 (
              k false H15) (
              Lt (IntKind.wrap .i64 (s1 + 1)) fun t1 =>
              next1 t1 H15))) (
          LoopT (σ := Int) /- t20 -/ (fun next2 s2 H16 =>
            Br (decide (s2 < 40)) (
              Ld (.int .i64) (adr b1) H16 fun (x13 : Int) =>
              Ld (.int .i64) ((adr b1).add 1) H16 fun (x14 : Int) =>
              Ld (.int .i64) ((adr b1).add 2) H16 fun (x15 : Int) =>
              CallT Pg f_dice_New [.int .i64 x13, .int .i64 x14, .int .i64 x15, .int .i64 s2] (.one (.c .ptr)) H16 fun (r11 : Option Addr) H17 =>
              Br r11.isNone (
                k false H17) (
                CallT Pg f_dice_Dice_Next [.pointer r11] (.one (.c (.int .u64))) H17 fun (r12 : Int) H18 =>
                Lt (IntKind.wrap .i64 (s2 + 1)) fun t2 =>
                next2 t2 H18)) (
              CallT Pg f_hindcastlaw08_pick [.int .i64 t4_, .int .i64 1001] (.one (.c (.int .i64))) H16 fun (r13 : Int) H19 =>
              CallT Pg f_dice_Dice_Shuffle [.pointer r2, .int .i64 r13] (.one (.c .sl)) H19 fun (r14 : Sl) H20 =>
              CallT Pg f_dice_Dice_Shuffle [.pointer r3, .int .i64 r13] (.one (.c .sl)) H20 fun (r15 : Sl) H21 =>
              Mks T_bool 1 1 #[.bool false] r13 r13 H21 fun l1 H22 =>
              Jn (σ := Bool) /- t180 -/ (fun kk4 =>
                Br ((r14.len : Int) != r13) (
                  kk4 true H22) (
                  kk4 ((r15.len : Int) != r13) H22)) fun j4 H23 =>
              Br j4 (
                k false H23) (
                LoopT (σ := Int) /- t26 -/ (fun next3 s3 H24 =>
                  Br (decide (s3 < r13)) (
                    Jn (σ := Bool) /- t218 -/ (fun kk5 =>
                      IxA 1 r14 s3 fun a1 =>
                      Ld (.int .i64) a1 H24 fun (x16 : Int) =>
                      IxA 1 r15 s3 fun a2 =>
                      Ld (.int .i64) a2 H24 fun (x17 : Int) =>
                      Br (x16 != x17) (
                        kk5 true H24) (
                        IxA 1 r14 s3 fun a3 =>
                        Ld (.int .i64) a3 H24 fun (x18 : Int) =>
                        Br (decide (x18 < 0)) (
                          kk5 true H24) (
                          IxA 1 r14 s3 fun a4 =>
                          Ld (.int .i64) a4 H24 fun (x19 : Int) =>
                          Br (decide (x19 ≥ r13)) (
                            kk5 true H24) (
                            IxA 1 r14 s3 fun a5 =>
                            Ld (.int .i64) a5 H24 fun (x20 : Int) =>
                            IxA 1 l1 x20 fun a6 =>
                            Ld .bool a6 H24 fun (x21 : Bool) =>
                            kk5 x21 H24)))) fun j5 H25 =>
                    Br j5 (
                      k false H25) (
                      IxA 1 r14 s3 fun a7 =>
                      Ld (.int .i64) a7 H25 fun (x22 : Int) =>
                      IxA 1 l1 x22 fun a8 =>
                      St a8 (.bool true) H25 fun H26 =>
                      Lt (IntKind.wrap .i64 (s3 + 1)) fun t3 =>
                      next3 t3 H26)) (
                    CallT Pg f_hindcastlaw08_pick [.int .i64 t4_, .int .i64 5] (.one (.c (.int .i64))) H24 fun (r16 : Int) H27 =>
                    Lt (IntKind.wrap .i64 (1001 + r16)) fun t4 =>
                    CallT Pg f_dice_Dice_Shuffle [.pointer r2, .int .i64 t4] (.one (.c .sl)) H27 fun (r17 : Sl) H28 =>
                    CallT Pg f_hindcastlaw08_pick [.int .i64 t4_, .int .i64 5] (.one (.c (.int .i64))) H28 fun (r18 : Int) H29 =>
                    Lt (IntKind.wrap .i64 ((-1) - r18)) fun t5 =>
                    CallT Pg f_dice_Dice_Shuffle [.pointer r2, .int .i64 t5] (.one (.c .sl)) H29 fun (r19 : Sl) H30 =>
                    Jn (σ := Bool) /- t10 -/ (fun kk6 =>
                      Br ((r17.len : Int) == 0) (
                        Br ((r19.len : Int) == 0) (
                          CallT Pg f_dice_Dice_Next [.pointer r2] (.one (.c (.int .u64))) H30 fun (r20 : Int) H32 =>
                          CallT Pg f_dice_Dice_Next [.pointer r3] (.one (.c (.int .u64))) H32 fun (r21 : Int) H33 =>
                          kk6 (r20 == r21) H33) (
                          kk6 false H30)) (
                        kk6 false H30)) fun j6 H31 =>
                    k j6 H31)) 0 H23))) 0 H7)) 0 H6)
def h_hindcastlaw08_DiceBounds : Hint := (.two .no (.two .no (.two .no (.two .no (.two .no (.two (.two (.join [(70, (.c .bool))] .no) .no) (.two (.two .no (.one (.loop [(15, (.c (.int .i64)))] (.two .no (.two (.one (.two .no (.two .no (.two .no (.two .no (.two .no (.two .no (.two (.two (.join [(121, (.c .bool))] .no) .no) (.two (.join [(144, (.c .bool))] .no) .no))))))))) .no))))) (.two (.two .no (.one (.loop [(20, (.c (.int .i64)))] .no))) (.two .no (.two .no (.two .no (.two .no (.two (.two (.join [(180, (.c .bool))] .no) .no) (.two (.two .no (.one (.loop [(26, (.c (.int .i64)))] (.two .no (.two (.one (.two (.two (.join [(218, (.c .bool))] .no) .no) .no)) .no))))) (.two .no (.two .no (.two (.join [(10, (.c .bool))] .no) .no)))))))))))))))))
theorem e_hindcastlaw08_DiceBounds (t0_ : Int × Int × Int × Int) (t1_ : Int) (t2_ : Int) (t3_ : Int) (t4_ : Int) (H : Heap) (k : Bool → Heap → Prop) : EFun Pg Try.f5 h_hindcastlaw08_DiceBounds [.agg #[.int .i64 t0_.1, .int .i64 t0_.2.1, .int .i64 t0_.2.2.1, .int .i64 t0_.2.2.2], .int .i64 t1_, .int .i64 t2_, .int .i64 t3_, .int .i64 t4_] (.one (.c .bool)) H k = v_hindcastlaw08_DiceBounds t0_ t1_ t2_ t3_ t4_ H k := by kernel_rfl
theorem c_hindcastlaw08_DiceBounds (t0_ : Int × Int × Int × Int) (t1_ : Int) (t2_ : Int) (t3_ : Int) (t4_ : Int) {H : Heap} {k : Bool → Heap → Prop} (h : v_hindcastlaw08_DiceBounds t0_ t1_ t2_ t3_ t4_ H k) : CallT Pg f_hindcastlaw08_DiceBounds [.agg #[.int .i64 t0_.1, .int .i64 t0_.2.1, .int .i64 t0_.2.2.1, .int .i64 t0_.2.2.2], .int .i64 t1_, .int .i64 t2_, .int .i64 t3_, .int .i64 t4_] (.one (.c .bool)) H k :=
  call_of_E Pg_mixed Try.func5 (by kernel_rfl) (by kernel_rfl) (by kernel_rfl) (by kernel_rfl) ((e_hindcastlaw08_DiceBounds t0_ t1_ t2_ t3_ t4_ H k).symm ▸ h)
/-- hindcast/hindcastlaw08.shown -/
def v_hindcastlaw08_shown  (H : Heap) (k : Bool → Heap → Prop) : Prop :=
    CallT Pg f_dice_New [.int .i64 1, .int .i64 2, .int .i64 3, .int .i64 4] (.one (.c .ptr)) H fun (r1 : Option Addr) H1 =>
    Br r1.isNone (
      k false H1) (
      CallT Pg f_dice_Mix [.int .u64 0] (.one (.c (.int .u64))) H1 fun (r2 : Int) H2 =>
      CallT Pg f_dice_Mix [.int .u64 1] (.one (.c (.int .u64))) H2 fun (r3 : Int) H3 =>
      CallT Pg f_dice_Dice_Below [.pointer r1, .int .i64 1000000] (.one (.c (.int .i64))) H3 fun (r4 : Int) H4 =>
      CallT Pg f_dice_Dice_Below [.pointer r1, .int .i64 1000000] (.one (.c (.int .i64))) H4 fun (r5 : Int) H5 =>
      Jn (σ := Bool) /-  -/ (fun kk1 =>
        Br (r2 == 16294208416658607535) (
          Br (r3 == 10451216379200822465) (
            kk1 (r4 != r5) H5) (
            kk1 false H5)) (
          kk1 false H5)) fun j1 H6 =>
      k j1 H6)
def h_hindcastlaw08_shown : Hint := (.two .no (.two .no (.two .no (.two .no (.two .no (.two .no (.two .no (.two (.join [(0, (.c .bool))] .no) .no))))))))
theorem e_hindcastlaw08_shown  (H : Heap) (k : Bool → Heap → Prop) : EFun Pg Try.f12 h_hindcastlaw08_shown [] (.one (.c .bool)) H k = v_hindcastlaw08_shown  H k := by kernel_rfl
theorem c_hindcastlaw08_shown  {H : Heap} {k : Bool → Heap → Prop} (h : v_hindcastlaw08_shown  H k) : CallT Pg f_hindcastlaw08_shown [] (.one (.c .bool)) H k :=
  call_of_E Pg_mixed Try.func12 (by kernel_rfl) (by kernel_rfl) (by kernel_rfl) (by kernel_rfl) ((e_hindcastlaw08_shown  H k).symm ▸ h)
/-- hindcast/dice.Mix -/
def v_dice_Mix (x_ : Int) (H : Heap) (k : Int → Heap → Prop) : Prop :=
    Lt (IntKind.wrap .u64 (x_ + 11400714819323198485)) fun t1 =>
    ShR .u64 t1 30 fun t2 =>
    Lt (bits .xor .u64 t1 t2) fun t3 =>
    Lt (IntKind.wrap .u64 (t3 * 13787848793156543929)) fun t4 =>
    ShR .u64 t4 27 fun t5 =>
    Lt (bits .xor .u64 t4 t5) fun t6 =>
    Lt (IntKind.wrap .u64 (t6 * 10723151780598845931)) fun t7 =>
    ShR .u64 t7 31 fun t8 =>
    Lt (bits .xor .u64 t7 t8) fun t9 =>
    k t9 H
def h_dice_Mix : Hint := .no
theorem e_dice_Mix (x_ : Int) (H : Heap) (k : Int → Heap → Prop) : EFun Pg Try.f13 h_dice_Mix [.int .u64 x_] (.one (.c (.int .u64))) H k = v_dice_Mix x_ H k := by kernel_rfl
theorem c_dice_Mix (x_ : Int) {H : Heap} {k : Int → Heap → Prop} (h : v_dice_Mix x_ H k) : CallT Pg f_dice_Mix [.int .u64 x_] (.one (.c (.int .u64))) H k :=
  call_of_E Pg_mixed Try.func13 (by kernel_rfl) (by kernel_rfl) (by kernel_rfl) (by kernel_rfl) ((e_dice_Mix x_ H k).symm ▸ h)
/-- hindcast/hindcastref08.Mix -/
def v_hindcastref08_Mix (x_ : Int) (H : Heap) (k : Int → Heap → Prop) : Prop :=
    Lt (IntKind.wrap .u64 (x_ + 11400714819323198485)) fun t1 =>
    ShR .u64 t1 30 fun t2 =>
    Lt (bits .xor .u64 t1 t2) fun t3 =>
    Lt (IntKind.wrap .u64 (t3 * 13787848793156543929)) fun t4 =>
    ShR .u64 t4 27 fun t5 =>
    Lt (bits .xor .u64 t4 t5) fun t6 =>
    Lt (IntKind.wrap .u64 (t6 * 10723151780598845931)) fun t7 =>
    ShR .u64 t7 31 fun t8 =>
    Lt (bits .xor .u64 t7 t8) fun t9 =>
    k t9 H
def h_hindcastref08_Mix : Hint := .no
theorem e_hindcastref08_Mix (x_ : Int) (H : Heap) (k : Int → Heap → Prop) : EFun Pg Try.f14 h_hindcastref08_Mix [.int .u64 x_] (.one (.c (.int .u64))) H k = v_hindcastref08_Mix x_ H k := by kernel_rfl
theorem c_hindcastref08_Mix (x_ : Int) {H : Heap} {k : Int → Heap → Prop} (h : v_hindcastref08_Mix x_ H k) : CallT Pg f_hindcastref08_Mix [.int .u64 x_] (.one (.c (.int .u64))) H k :=
  call_of_E Pg_mixed Try.func14 (by kernel_rfl) (by kernel_rfl) (by kernel_rfl) (by kernel_rfl) ((e_hindcastref08_Mix x_ H k).symm ▸ h)
/-- hindcast/dice.New -/
def v_dice_New (seed_ : Int) (frame_ : Int) (system_ : Int) (index_ : Int) (H : Heap) (k : Option Addr → Heap → Prop) : Prop :=
    CallT Pg f_dice_Mix [.int .u64 (IntKind.wrap .u64 seed_)] (.one (.c (.int .u64))) H fun (r1 : Int) H1 =>
    LoopT (σ := Int × Int) /- state,  -/ (fun next1 s1 H2 =>
      Br (decide (s1.2 < 3)) (
        ArI (.int .i64) 3 #[.int .i64 frame_, .int .i64 system_, .int .i64 index_] s1.2 fun (b1 : Int) =>
        Lt (bits .xor .u64 s1.1 (IntKind.wrap .u64 b1)) fun t1 =>
        CallT Pg f_dice_Mix [.int .u64 t1] (.one (.c (.int .u64))) H2 fun (r2 : Int) H3 =>
        Lt (IntKind.wrap .i64 (s1.2 + 1)) fun t2 =>
        next1 (r2, t2) H3) (
        Nw #[.int .u64 s1.1] T_dice_Dice H2 fun b2 H4 =>
        k (some (adr b2)) H4)) (r1, 0) H1
def h_dice_New : Hint := (.two .no (.two .no (.two (.two .no (.one (.loop [(9, (.c (.int .u64))), (19, (.c (.int .i64)))] .no))) .no)))
theorem e_dice_New (seed_ : Int) (frame_ : Int) (system_ : Int) (index_ : Int) (H : Heap) (k : Option Addr → Heap → Prop) : EFun Pg Try.f15 h_dice_New [.int .i64 seed_, .int .i64 frame_, .int .i64 system_, .int .i64 index_] (.one (.c .ptr)) H k = v_dice_New seed_ frame_ system_ index_ H k := by kernel_rfl
theorem c_dice_New (seed_ : Int) (frame_ : Int) (system_ : Int) (index_ : Int) {H : Heap} {k : Option Addr → Heap → Prop} (h : v_dice_New seed_ frame_ system_ index_ H k) : CallT Pg f_dice_New [.int .i64 seed_, .int .i64 frame_, .int .i64 system_, .int .i64 index_] (.one (.c .ptr)) H k :=
  call_of_E Pg_mixed Try.func15 (by kernel_rfl) (by kernel_rfl) (by kernel_rfl) (by kernel_rfl) ((e_dice_New seed_ frame_ system_ index_ H k).symm ▸ h)
/-- hindcast/hindcastref08.New -/
def v_hindcastref08_New (seed_ : Int) (frame_ : Int) (system_ : Int) (index_ : Int) (H : Heap) (k : Option Addr → Heap → Prop) : Prop :=
    CallT Pg f_hindcastref08_Mix [.int .u64 (IntKind.wrap .u64 seed_)] (.one (.c (.int .u64))) H fun (r1 : Int) H1 =>
    Lt (bits .xor .u64 r1 (IntKind.wrap .u64 frame_)) fun t1 =>
    CallT Pg f_hindcastref08_Mix [.int .u64 t1] (.one (.c (.int .u64))) H1 fun (r2 : Int) H2 =>
    Lt (bits .xor .u64 r2 (IntKind.wrap .u64 system_)) fun t2 =>
    CallT Pg f_hindcastref08_Mix [.int .u64 t2] (.one (.c (.int .u64))) H2 fun (r3 : Int) H3 =>
    Lt (bits .xor .u64 r3 (IntKind.wrap .u64 index_)) fun t3 =>
    CallT Pg f_hindcastref08_Mix [.int .u64 t3] (.one (.c (.int .u64))) H3 fun (r4 : Int) H4 =>
    Nw #[.int .u64 r4] T_hindcastref08_Dice H4 fun b1 H5 =>
    k (some (adr b1)) H5
def h_hindcastref08_New : Hint := .no
theorem e_hindcastref08_New (seed_ : Int) (frame_ : Int) (system_ : Int) (index_ : Int) (H : Heap) (k : Option Addr → Heap → Prop) : EFun Pg Try.f16 h_hindcastref08_New [.int .i64 seed_, .int .i64 frame_, .int .i64 system_, .int .i64 index_] (.one (.c .ptr)) H k = v_hindcastref08_New seed_ frame_ system_ index_ H k := by kernel_rfl
theorem c_hindcastref08_New (seed_ : Int) (frame_ : Int) (system_ : Int) (index_ : Int) {H : Heap} {k : Option Addr → Heap → Prop} (h : v_hindcastref08_New seed_ frame_ system_ index_ H k) : CallT Pg f_hindcastref08_New [.int .i64 seed_, .int .i64 frame_, .int .i64 system_, .int .i64 index_] (.one (.c .ptr)) H k :=
  call_of_E Pg_mixed Try.func16 (by kernel_rfl) (by kernel_rfl) (by kernel_rfl) (by kernel_rfl) ((e_hindcastref08_New seed_ frame_ system_ index_ H k).symm ▸ h)
/-- hindcast/hindcastlaw08.pick -/
def v_hindcastlaw08_pick (c_ : Int) (n_ : Int) (H : Heap) (k : Int → Heap → Prop) : Prop :=
    Jn (σ := Int) /- c -/ (fun kk1 =>
      Br (decide (c_ < 0)) (
        Lt (IntKind.wrap .i64 (c_ + 1)) fun t1 =>
        kk1 (IntKind.wrap .i64 (0 - t1)) H) (
        kk1 c_ H)) fun j1 H1 =>
    Rem j1 n_ fun t2 =>
    k t2 H1
def h_hindcastlaw08_pick : Hint := (.two .no (.two (.two .no (.join [(0, (.c (.int .i64)))] .no)) .no))
theorem e_hindcastlaw08_pick (c_ : Int) (n_ : Int) (H : Heap) (k : Int → Heap → Prop) : EFun Pg Try.f17 h_hindcastlaw08_pick [.int .i64 c_, .int .i64 n_] (.one (.c (.int .i64))) H k = v_hindcastlaw08_pick c_ n_ H k := by kernel_rfl
theorem c_hindcastlaw08_pick (c_ : Int) (n_ : Int) {H : Heap} {k : Int → Heap → Prop} (h : v_hindcastlaw08_pick c_ n_ H k) : CallT Pg f_hindcastlaw08_pick [.int .i64 c_, .int .i64 n_] (.one (.c (.int .i64))) H k :=
  call_of_E Pg_mixed Try.func17 (by kernel_rfl) (by kernel_rfl) (by kernel_rfl) (by kernel_rfl) ((e_hindcastlaw08_pick c_ n_ H k).symm ▸ h)
/-- (*hindcast/hindcastlaw08.book).roll -/
def v_hindcastlaw08_book_roll (t0_ : Option Addr) (t1_ : Option Addr) (t2_ : Option Addr) (t3_ : Int × Int × Int × Int × Int) (H : Heap) (k : Bool → Heap → Prop) : Prop :=
    Nw #[.int .i64 t3_.1, .int .i64 t3_.2.1, .int .i64 t3_.2.2.1, .int .i64 t3_.2.2.2.1, .int .i64 t3_.2.2.2.2] T_hindcastlaw08_Roll H fun b1 H1 =>
    Ld (.int .i64) (adr b1) H1 fun (x1 : Int) =>
    CallT Pg f_hindcastlaw08_pick [.int .i64 x1, .int .i64 4] (.one (.c (.int .i64))) H1 fun (r1 : Int) H2 =>
    Br (r1 == 1) (
      Ld (.int .i64) ((adr b1).add 3) H2 fun (x2 : Int) =>
      Ld (.int .i64) ((adr b1).add 3) H2 fun (x3 : Int) =>
      CallT Pg f_dice_Dice_Below [.pointer t1_, .int .i64 x2] (.one (.c (.int .i64))) H2 fun (r2 : Int) H3 =>
      Stab [((adr b1).add 3, .int .i64 x3)] H3 <|
      CallT Pg f_hindcastref08_Dice_Below [.pointer t2_, .int .i64 x3] (.one (.c (.int .i64))) H3 fun (r3 : Int) H4 =>
      Stab [((adr b1).add 3, .int .i64 x2)] H4 <|
      k (r2 == r3) H4) (
      Br (r1 == 2) (
        Ld (.int .i64) ((adr b1).add 3) H2 fun (x4 : Int) =>
        Ld (.int .i64) ((adr b1).add 4) H2 fun (x5 : Int) =>
        Ld (.int .i64) ((adr b1).add 3) H2 fun (x6 : Int) =>
        Ld (.int .i64) ((adr b1).add 4) H2 fun (x7 : Int) =>
        CallT Pg f_dice_Dice_Between [.pointer t1_, .int .i64 x4, .int .i64 x5] (.one (.c (.int .i64))) H2 fun (r4 : Int) H5 =>
        Stab [((adr b1).add 4, .int .i64 x7), ((adr b1).add 3, .int .i64 x6)] H5 <|
        CallT Pg f_hindcastref08_Dice_Between [.pointer t2_, .int .i64 x6, .int .i64 x7] (.one (.c (.int .i64))) H5 fun (r5 : Int) H6 =>
        Stab [((adr b1).add 4, .int .i64 x5), ((adr b1).add 3, .int .i64 x4)] H6 <|
        k (r4 == r5) H6) (
        Br (r1 == 3) (
          Ld (.int .i64) ((adr b1).add 2) H2 fun (x8 : Int) =>
          CallT Pg f_dice_Dice_Shuffle [.pointer t1_, .int .i64 x8] (.one (.c .sl)) H2 fun (r6 : Sl) H7 =>
          Ld (.int .i64) ((adr b1).add 2) H7 fun (x9 : Int) =>
          CallT Pg f_hindcastref08_Dice_Shuffle [.pointer t2_, .int .i64 x9] (.one (.c .sl)) H7 fun (r7 : Sl) H8 =>
          NilCk t0_ fun a1 =>
          Ld .sl a1 H8 fun (x10 : Sl) =>
          Jn (σ := Unit) /-  -/ (fun kk1 =>
            Br (decide ((x10.len : Int) < 40)) (
              NilCk t0_ fun a2 =>
              Ld .sl a2 H8 fun (x11 : Sl) =>
              Nw #[.slice r6.a r6.len r6.cap] T_Sl_int H8 fun b2 H10 =>
              App T_Sl_int 1 24 #[.slice none 0 0] x11 ⟨some (adr b2), 1, 1⟩ H10 fun l1 H11 =>
              NilCk t0_ fun a3 =>
              St a3 (.slice l1.a l1.len l1.cap) H11 fun H12 =>
              NilCk t0_ fun a4 =>
              Ld .sl (a4.add 1) H12 fun (x12 : Sl) =>
              Nw #[.slice r7.a r7.len r7.cap] T_Sl_int H12 fun b3 H13 =>
              App T_Sl_int 1 24 #[.slice none 0 0] x12 ⟨some (adr b3), 1, 1⟩ H13 fun l2 H14 =>
              NilCk t0_ fun a5 =>
              St (a5.add 1) (.slice l2.a l2.len l2.cap) H14 fun H15 =>
              kk1 () H15) (
              kk1 () H8)) fun j1 H9 =>
          CallT Pg f_hindcastlaw08_same [.slice r6.a r6.len r6.cap, .slice r7.a r7.len r7.cap] (.one (.c .bool)) H9 fun (r8 : Bool) H16 =>
          k r8 H16) (
          CallT Pg f_dice_Dice_Next [.pointer t1_] (.one (.c (.int .u64))) H2 fun (r9 : Int) H17 =>
          CallT Pg f_hindcastref08_Dice_Next [.pointer t2_] (.one (.c (.int .u64))) H17 fun (r10 : Int) H18 =>
          k (r9 == r10) H18)))
def h_hindcastlaw08_book_roll : Hint := (.two .no (.two (.two .no (.one (.two .no (.two .no (.two .no (.two .no (.two .no (.two (.two .no (.two .no (.two (.two .no (.join [] .no)) .no))) .no)))))))) .no))
theorem e_hindcastlaw08_book_roll (t0_ : Option Addr) (t1_ : Option Addr) (t2_ : Option Addr) (t3_ : Int × Int × Int × Int × Int) (H : Heap) (k : Bool → Heap → Prop) : EFun Pg Try.f18 h_hindcastlaw08_book_roll [.pointer t0_, .pointer t1_, .pointer t2_, .agg #[.int .i64 t3_.1, .int .i64 t3_.2.1, .int .i64 t3_.2.2.1, .int .i64 t3_.2.2.2.1, .int .i64 t3_.2.2.2.2]] (.one (.c .bool)) H k = v_hindcastlaw08_book_roll t0_ t1_ t2_ t3_ H k := by kernel_rfl
theorem c_hindcastlaw08_book_roll (t0_ : Option Addr) (t1_ : Option Addr) (t2_ : Option Addr) (t3_ : Int × Int × Int × Int × Int) {H : Heap} {k : Bool → Heap → Prop} (h : v_hindcastlaw08_book_roll t0_ t1_ t2_ t3_ H k) : CallT Pg f_hindcastlaw08_book_roll [.pointer t0_, .pointer t1_, .pointer t2_, .agg #[.int .i64 t3_.1, .int .i64 t3_.2.1, .int .i64 t3_.2.2.1, .int .i64 t3_.2.2.2.1, .int .i64 t3_.2.2.2.2]] (.one (.c .bool)) H k :=
  call_of_E Pg_mixed Try.func18 (by kernel_rfl) (by kernel_rfl) (by kernel_rfl) (by kernel_rfl) ((e_hindcastlaw08_book_roll t0_ t1_ t2_ t3_ H k).symm ▸ h)
/-- (*hindcast/hindcastlaw08.book).still -/
def v_hindcastlaw08_book_still (k_ : Option Addr) (H : Heap) (k : Bool → Heap → Prop) : Prop :=
    LoopT (σ := Int) /- i -/ (fun next1 s1 H1 =>
      NilCk k_ fun a1 =>
      Ld .sl a1 H1 fun (x1 : Sl) =>
      Br (decide (s1 < (x1.len : Int))) (
        NilCk k_ fun a2 =>
        Ld .sl a2 H1 fun (x2 : Sl) =>
        IxA 1 x2 s1 fun a3 =>
        Ld .sl a3 H1 fun (x3 : Sl) =>
        NilCk k_ fun a4 =>
        Ld .sl (a4.add 1) H1 fun (x4 : Sl) =>
        IxA 1 x4 s1 fun a5 =>
        Ld .sl a5 H1 fun (x5 : Sl) =>
        CallT Pg f_hindcastlaw08_same [.slice x3.a x3.len x3.cap, .slice x5.a x5.len x5.cap] (.one (.c .bool)) H1 fun (r1 : Bool) H2 =>
        Stab [(a4.add 1, .slice x4.a x4.len x4.cap), (a2, .slice x2.a x2.len x2.cap)] H2 <|
        Br (!r1) (
          k false H2) (
          Lt (IntKind.wrap .i64 (s1 + 1)) fun t1 =>
          next1 t1 H2)) (
        k true H1)) 0 H
def h_hindcastlaw08_book_still : Hint := (.two .no (.two (.two .no (.one (.loop [(3, (.c (.int .i64)))] .no))) .no))
theorem e_hindcastlaw08_book_still (k_ : Option Addr) (H : Heap) (k : Bool → Heap → Prop) : EFun Pg Try.f19 h_hindcastlaw08_book_still [.pointer k_] (.one (.c .bool)) H k = v_hindcastlaw08_book_still k_ H k := by kernel_rfl
theorem c_hindcastlaw08_book_still (k_ : Option Addr) {H : Heap} {k : Bool → Heap → Prop} (h : v_hindcastlaw08_book_still k_ H k) : CallT Pg f_hindcastlaw08_book_still [.pointer k_] (.one (.c .bool)) H k :=
  call_of_E Pg_mixed Try.func19 (by kernel_rfl) (by kernel_rfl) (by kernel_rfl) (by kernel_rfl) ((e_hindcastlaw08_book_still k_ H k).symm ▸ h)
/-- (*hindcast/hindcastlaw08.book).owned -/
def v_hindcastlaw08_book_owned (t0_ : Option Addr) (H : Heap) (k : Bool → Heap → Prop) : Prop :=
    LoopT (σ := Int) /- t3 -/ (fun next1 s1 H1 =>
      NilCk t0_ fun a1 =>
      Ld .sl a1 H1 fun (x1 : Sl) =>
      Br (decide (s1 < (x1.len : Int))) (
        LoopT (σ := Int) /- t4 -/ (fun next2 s2 H2 =>
          NilCk t0_ fun a2 =>
          Ld .sl a2 H2 fun (x2 : Sl) =>
          IxA 1 x2 s1 fun a3 =>
          Ld .sl a3 H2 fun (x3 : Sl) =>
          Br (decide (s2 < (x3.len : Int))) (
            NilCk t0_ fun a4 =>
            Ld .sl a4 H2 fun (x4 : Sl) =>
            IxA 1 x4 s1 fun a5 =>
            Ld .sl a5 H2 fun (x5 : Sl) =>
            Lt (IntKind.wrap .i64 ((-1) - s1)) fun t1 =>
            IxA 1 x5 s2 fun a6 =>
            St a6 (.int .i64 t1) H2 fun H3 =>
            Lt (IntKind.wrap .i64 (s2 + 1)) fun t2 =>
            next2 t2 H3) (
            Lt (IntKind.wrap .i64 (s1 + 1)) fun t3 =>
            next1 t3 H2)) 0 H1) (
        LoopT (σ := Sl × Int) /- t5, t6 -/ (fun next3 s3 H4 =>
          NilCk t0_ fun a7 =>
          Ld .sl a7 H4 fun (x6 : Sl) =>
          Br (decide (s3.2 < (x6.len : Int))) (
            NilCk t0_ fun a8 =>
            Ld .sl a8 H4 fun (x7 : Sl) =>
            IxA 1 x7 s3.2 fun a9 =>
            Ld .sl a9 H4 fun (x8 : Sl) =>
            LoopT (σ := Sl × Int) /- t7, t8 -/ (fun next4 s4 H5 =>
              Br (decide (s4.2 < 64)) (
                Lt (IntKind.wrap .i64 ((-1) - s3.2)) fun t4 =>
                Nw #[.int .i64 t4] T_int H5 fun b1 H6 =>
                App T_int 1 8 #[.int .i64 0] s4.1 ⟨some (adr b1), 1, 1⟩ H6 fun l1 H7 =>
                Lt (IntKind.wrap .i64 (s4.2 + 1)) fun t5 =>
                next4 (l1, t5) H7) (
                Nw #[.slice s4.1.a s4.1.len s4.1.cap] T_Sl_int H5 fun b2 H8 =>
                App T_Sl_int 1 24 #[.slice none 0 0] s3.1 ⟨some (adr b2), 1, 1⟩ H8 fun l2 H9 =>
                Lt (IntKind.wrap .i64 (s3.2 + 1)) fun t6 =>
                next3 (l2, t6) H9)) (x8, 0) H4) (
            LoopT (σ := Int) /- t9 -/ (fun next5 s5 H10 =>
              Br (decide (s5 < (s3.1.len : Int))) (
                LoopT (σ := Int) /- t10 -/ (fun next6 s6 H11 =>
                  IxA 1 s3.1 s5 fun a10 =>
                  Ld .sl a10 H11 fun (x9 : Sl) =>
                  Br (decide (s6 < (x9.len : Int))) (
                    Jn (σ := Bool) /- t123 -/ (fun kk1 =>
                      IxA 1 s3.1 s5 fun a11 =>
                      Ld .sl a11 H11 fun (x10 : Sl) =>
                      IxA 1 x10 s6 fun a12 =>
                      Ld (.int .i64) a12 H11 fun (x11 : Int) =>
                      Lt (IntKind.wrap .i64 ((-1) - s5)) fun t7 =>
                      Br (x11 != t7) (
                        kk1 true H11) (
                        NilCk t0_ fun a13 =>
                        Ld .sl a13 H11 fun (x12 : Sl) =>
                        IxA 1 x12 s5 fun a14 =>
                        Ld .sl a14 H11 fun (x13 : Sl) =>
                        Br (decide (s6 < (x13.len : Int))) (
                          NilCk t0_ fun a15 =>
                          Ld .sl a15 H11 fun (x14 : Sl) =>
                          IxA 1 x14 s5 fun a16 =>
                          Ld .sl a16 H11 fun (x15 : Sl) =>
                          IxA 1 x15 s6 fun a17 =>
                          Ld (.int .i64) a17 H11 fun (x16 : Int) =>
                          Lt (IntKind.wrap .i64 ((-1) - s5)) fun t8 =>
                          kk1 (x16 != t8) H11) (
                          kk1 false H11))) fun j1 H12 =>
                    Br j1 (
                      k false H12) (
                      Lt (IntKind.wrap .i64 (s6 + 1)) fun t9 =>
                      next6 t9 H12)) (
                    Lt (IntKind.wrap .i64 (s5 + 1)) fun t10 =>
                    next5 t10 H11)) 0 H10) (
                k true H10)) 0 H4)) (⟨none, 0, 0⟩, 0) H1)) 0 H
def h_hindcastlaw08_book_owned : Hint := (.two .no (.two (.two .no (.one (.loop [(3, (.c (.int .i64)))] (.two .no (.two (.one (.two .no (.one (.loop [(4, (.c (.int .i64)))] .no)))) .no))))) (.two .no (.two (.two .no (.one (.loop [(5, (.c .sl)), (6, (.c (.int .i64)))] (.two .no (.two (.one (.two .no (.two (.two .no (.one (.loop [(7, (.c .sl)), (8, (.c (.int .i64)))] .no))) .no))) .no))))) (.two (.two .no (.one (.loop [(9, (.c (.int .i64)))] (.two .no (.two (.one (.two .no (.one (.loop [(10, (.c (.int .i64)))] (.two .no (.two (.one (.two (.join [(123, (.c .bool))] .no) .no)) .no)))))) .no))))) .no)))))
theorem e_hindcastlaw08_book_owned (t0_ : Option Addr) (H : Heap) (k : Bool → Heap → Prop) : EFun Pg Try.f20 h_hindcastlaw08_book_owned [.pointer t0_] (.one (.c .bool)) H k = v_hindcastlaw08_book_owned t0_ H k := by kernel_rfl
theorem c_hindcastlaw08_book_owned (t0_ : Option Addr) {H : Heap} {k : Bool → Heap → Prop} (h : v_hindcastlaw08_book_owned t0_ H k) : CallT Pg f_hindcastlaw08_book_owned [.pointer t0_] (.one (.c .bool)) H k :=
  call_of_E Pg_mixed Try.func20 (by kernel_rfl) (by kernel_rfl) (by kernel_rfl) (by kernel_rfl) ((e_hindcastlaw08_book_owned t0_ H k).symm ▸ h)
/-- (*hindcast/dice.Dice).Below -/
def v_dice_Dice_Below (d_ : Option Addr) (n_ : Int) (H : Heap) (k : Int → Heap → Prop) : Prop :=
    Br (decide (n_ < 1)) (
      CallT Pg f_dice_Dice_Next [.pointer d_] (.one (.c (.int .u64))) H fun (r1 : Int) H1 =>
      k 0 H1) (
      CallT Pg f_dice_Dice_below [.pointer d_, .int .u64 (IntKind.wrap .u64 n_)] (.one (.c (.int .u64))) H fun (r2 : Int) H2 =>
      k (IntKind.wrap .i64 r2) H2)
def h_dice_Dice_Below : Hint := .no
theorem e_dice_Dice_Below (d_ : Option Addr) (n_ : Int) (H : Heap) (k : Int → Heap → Prop) : EFun Pg Try.f21 h_dice_Dice_Below [.pointer d_, .int .i64 n_] (.one (.c (.int .i64))) H k = v_dice_Dice_Below d_ n_ H k := by kernel_rfl
theorem c_dice_Dice_Below (d_ : Option Addr) (n_ : Int) {H : Heap} {k : Int → Heap → Prop} (h : v_dice_Dice_Below d_ n_ H k) : CallT Pg f_dice_Dice_Below [.pointer d_, .int .i64 n_] (.one (.c (.int .i64))) H k :=
  call_of_E Pg_mixed Try.func21 (by kernel_rfl) (by kernel_rfl) (by kernel_rfl) (by kernel_rfl) ((e_dice_Dice_Below d_ n_ H k).symm ▸ h)
/-- (*hindcast/dice.Dice).Between -/
def v_dice_Dice_Between (d_ : Option Addr) (a_ : Int) (b_ : Int) (H : Heap) (k : Int → Heap → Prop) : Prop :=
    Br (decide (b_ < a_)) (
      k a_ H) (
      Lt (IntKind.wrap .u64 ((IntKind.wrap .u64 b_) - (IntKind.wrap .u64 a_))) fun t1 =>
      Lt (IntKind.wrap .u64 (t1 + 1)) fun t2 =>
      Br (t2 == 0) (
        CallT Pg f_dice_Dice_Next [.pointer d_] (.one (.c (.int .u64))) H fun (r1 : Int) H1 =>
        k (IntKind.wrap .i64 r1) H1) (
        Br (decide (t2 > 9223372036854775807)) (
          CallT Pg f_dice_Dice_Next [.pointer d_] (.one (.c (.int .u64))) H fun (r2 : Int) H2 =>
          Rem r2 t2 fun t3 =>
          Lt (IntKind.wrap .u64 ((IntKind.wrap .u64 a_) + t3)) fun t4 =>
          k (IntKind.wrap .i64 t4) H2) (
          CallT Pg f_dice_Dice_below [.pointer d_, .int .u64 t2] (.one (.c (.int .u64))) H fun (r3 : Int) H3 =>
          Lt (IntKind.wrap .u64 ((IntKind.wrap .u64 a_) + r3)) fun t5 =>
          k (IntKind.wrap .i64 t5) H3)))
def h_dice_Dice_Between : Hint := .no
theorem e_dice_Dice_Between (d_ : Option Addr) (a_ : Int) (b_ : Int) (H : Heap) (k : Int → Heap → Prop) : EFun Pg Try.f22 h_dice_Dice_Between [.pointer d_, .int .i64 a_, .int .i64 b_] (.one (.c (.int .i64))) H k = v_dice_Dice_Between d_ a_ b_ H k := by kernel_rfl
theorem c_dice_Dice_Between (d_ : Option Addr) (a_ : Int) (b_ : Int) {H : Heap} {k : Int → Heap → Prop} (h : v_dice_Dice_Between d_ a_ b_ H k) : CallT Pg f_dice_Dice_Between [.pointer d_, .int .i64 a_, .int .i64 b_] (.one (.c (.int .i64))) H k :=
  call_of_E Pg_mixed Try.func22 (by kernel_rfl) (by kernel_rfl) (by kernel_rfl) (by kernel_rfl) ((e_dice_Dice_Between d_ a_ b_ H k).symm ▸ h)
/-- (*hindcast/dice.Dice).Next -/
def v_dice_Dice_Next (d_ : Option Addr) (H : Heap) (k : Int → Heap → Prop) : Prop :=
    NilCk d_ fun a1 =>
    Ld (.int .u64) a1 H fun (x1 : Int) =>
    NilCk d_ fun a2 =>
    Ld (.int .u64) a2 H fun (x2 : Int) =>
    Lt (IntKind.wrap .u64 (x2 + 11400714819323198485)) fun t1 =>
    NilCk d_ fun a3 =>
    St a3 (.int .u64 t1) H fun H1 =>
    CallT Pg f_dice_Mix [.int .u64 x1] (.one (.c (.int .u64))) H1 fun (r1 : Int) H2 =>
    k r1 H2
def h_dice_Dice_Next : Hint := .no
theorem e_dice_Dice_Next (d_ : Option Addr) (H : Heap) (k : Int → Heap → Prop) : EFun Pg Try.f23 h_dice_Dice_Next [.pointer d_] (.one (.c (.int .u64))) H k = v_dice_Dice_Next d_ H k := by kernel_rfl
theorem c_dice_Dice_Next (d_ : Option Addr) {H : Heap} {k : Int → Heap → Prop} (h : v_dice_Dice_Next d_ H k) : CallT Pg f_dice_Dice_Next [.pointer d_] (.one (.c (.int .u64))) H k :=
  call_of_E Pg_mixed Try.func23 (by kernel_rfl) (by kernel_rfl) (by kernel_rfl) (by kernel_rfl) ((e_dice_Dice_Next d_ H k).symm ▸ h)
/-- (*hindcast/dice.Dice).Shuffle -/
def v_dice_Dice_Shuffle (d_ : Option Addr) (n_ : Int) (H : Heap) (k : Sl → Heap → Prop) : Prop :=
    Jn (σ := Bool) /-  -/ (fun kk1 =>
      Br (decide (n_ < 1)) (
        kk1 true H) (
        kk1 (decide (n_ > 1000)) H)) fun j1 H1 =>
    Br j1 (
      k ⟨none, 0, 0⟩ H1) (
      Mks T_int 1 8 #[.int .i64 0] n_ n_ H1 fun l1 H2 =>
      LoopT (σ := Int) /-  -/ (fun next1 s1 H3 =>
        Br (decide (s1 < (l1.len : Int))) (
          IxA 1 l1 s1 fun a1 =>
          St a1 (.int .i64 s1) H3 fun H4 =>
          Lt (IntKind.wrap .i64 (s1 + 1)) fun t1 =>
          next1 t1 H4) (
          Lt (IntKind.wrap .i64 (n_ - 1)) fun t2 =>
          LoopT (σ := Int) /- i -/ (fun next2 s2 H5 =>
            Br (decide (s2 ≥ 1)) (
              Lt (IntKind.wrap .i64 (s2 + 1)) fun t3 =>
              CallT Pg f_dice_Dice_Below [.pointer d_, .int .i64 t3] (.one (.c (.int .i64))) H5 fun (r1 : Int) H6 =>
              IxA 1 l1 r1 fun a2 =>
              Ld (.int .i64) a2 H6 fun (x1 : Int) =>
              IxA 1 l1 s2 fun a3 =>
              Ld (.int .i64) a3 H6 fun (x2 : Int) =>
              IxA 1 l1 s2 fun a4 =>
              St a4 (.int .i64 x1) H6 fun H7 =>
              IxA 1 l1 r1 fun a5 =>
              St a5 (.int .i64 x2) H7 fun H8 =>
              Lt (IntKind.wrap .i64 (s2 - 1)) fun t4 =>
              next2 t4 H8) (
              k l1 H5)) t2 H3)) 0 H2)
def h_dice_Dice_Shuffle : Hint := (.two .no (.two (.two (.join [(14, (.c .bool))] .no) .no) (.two .no (.two (.two .no (.one (.loop [(19, (.c (.int .i64)))] .no))) (.two (.two .no (.one (.loop [(7, (.c (.int .i64)))] .no))) .no)))))
theorem e_dice_Dice_Shuffle (d_ : Option Addr) (n_ : Int) (H : Heap) (k : Sl → Heap → Prop) : EFun Pg Try.f24 h_dice_Dice_Shuffle [.pointer d_, .int .i64 n_] (.one (.c .sl)) H k = v_dice_Dice_Shuffle d_ n_ H k := by kernel_rfl
theorem c_dice_Dice_Shuffle (d_ : Option Addr) (n_ : Int) {H : Heap} {k : Sl → Heap → Prop} (h : v_dice_Dice_Shuffle d_ n_ H k) : CallT Pg f_dice_Dice_Shuffle [.pointer d_, .int .i64 n_] (.one (.c .sl)) H k :=
  call_of_E Pg_mixed Try.func24 (by kernel_rfl) (by kernel_rfl) (by kernel_rfl) (by kernel_rfl) ((e_dice_Dice_Shuffle d_ n_ H k).symm ▸ h)
/-- (*hindcast/hindcastref08.Dice).Below -/
def v_hindcastref08_Dice_Below (d_ : Option Addr) (n_ : Int) (H : Heap) (k : Int → Heap → Prop) : Prop :=
    Br (decide (n_ < 1)) (
      CallT Pg f_hindcastref08_Dice_Next [.pointer d_] (.one (.c (.int .u64))) H fun (r1 : Int) H1 =>
      k 0 H1) (
      Rem 18446744073709551615 (IntKind.wrap .u64 n_) fun t1 =>
      Lt (IntKind.wrap .u64 (18446744073709551615 - t1)) fun t2 =>
      LoopT (σ := Unit) /-  -/ (fun next1 s1 H2 =>
        CallT Pg f_hindcastref08_Dice_Next [.pointer d_] (.one (.c (.int .u64))) H2 fun (r2 : Int) H3 =>
        Br (decide (r2 < t2)) (
          Rem r2 (IntKind.wrap .u64 n_) fun t3 =>
          k (IntKind.wrap .i64 t3) H3) (
          next1 () H3)) () H)
def h_hindcastref08_Dice_Below : Hint := (.two .no (.two .no (.two .no (.two .no (.one (.loop [] .no))))))
theorem e_hindcastref08_Dice_Below (d_ : Option Addr) (n_ : Int) (H : Heap) (k : Int → Heap → Prop) : EFun Pg Try.f54 h_hindcastref08_Dice_Below [.pointer d_, .int .i64 n_] (.one (.c (.int .i64))) H k = v_hindcastref08_Dice_Below d_ n_ H k := by kernel_rfl
theorem c_hindcastref08_Dice_Below (d_ : Option Addr) (n_ : Int) {H : Heap} {k : Int → Heap → Prop} (h : v_hindcastref08_Dice_Below d_ n_ H k) : CallT Pg f_hindcastref08_Dice_Below [.pointer d_, .int .i64 n_] (.one (.c (.int .i64))) H k :=
  call_of_E Pg_mixed Try.func54 (by kernel_rfl) (by kernel_rfl) (by kernel_rfl) (by kernel_rfl) ((e_hindcastref08_Dice_Below d_ n_ H k).symm ▸ h)
/-- (*hindcast/hindcastref08.Dice).Between -/
def v_hindcastref08_Dice_Between (d_ : Option Addr) (a_ : Int) (b_ : Int) (H : Heap) (k : Int → Heap → Prop) : Prop :=
    Br (decide (b_ < a_)) (
      k a_ H) (
      Lt (IntKind.wrap .i64 (b_ - a_)) fun t1 =>
      Lt (IntKind.wrap .i64 (t1 + 1)) fun t2 =>
      Br (decide (t2 ≥ 1)) (
        CallT Pg f_hindcastref08_Dice_Below [.pointer d_, .int .i64 t2] (.one (.c (.int .i64))) H fun (r1 : Int) H1 =>
        Lt (IntKind.wrap .i64 (a_ + r1)) fun t3 =>
        k t3 H1) (
        CallT Pg f_hindcastref08_Dice_Next [.pointer d_] (.one (.c (.int .u64))) H fun (r2 : Int) H2 =>
        Br (t2 == 0) (
          k (IntKind.wrap .i64 r2) H2) (
          Rem r2 (IntKind.wrap .u64 t2) fun t4 =>
          Lt (IntKind.wrap .i64 (a_ + (IntKind.wrap .i64 t4))) fun t5 =>
          k t5 H2)))
def h_hindcastref08_Dice_Between : Hint := .no
theorem e_hindcastref08_Dice_Between (d_ : Option Addr) (a_ : Int) (b_ : Int) (H : Heap) (k : Int → Heap → Prop) : EFun Pg Try.f55 h_hindcastref08_Dice_Between [.pointer d_, .int .i64 a_, .int .i64 b_] (.one (.c (.int .i64))) H k = v_hindcastref08_Dice_Between d_ a_ b_ H k := by kernel_rfl
theorem c_hindcastref08_Dice_Between (d_ : Option Addr) (a_ : Int) (b_ : Int) {H : Heap} {k : Int → Heap → Prop} (h : v_hindcastref08_Dice_Between d_ a_ b_ H k) : CallT Pg f_hindcastref08_Dice_Between [.pointer d_, .int .i64 a_, .int .i64 b_] (.one (.c (.int .i64))) H k :=
  call_of_E Pg_mixed Try.func55 (by kernel_rfl) (by kernel_rfl) (by kernel_rfl) (by kernel_rfl) ((e_hindcastref08_Dice_Between d_ a_ b_ H k).symm ▸ h)
/-- (*hindcast/hindcastref08.Dice).Shuffle -/
def v_hindcastref08_Dice_Shuffle (d_ : Option Addr) (n_ : Int) (H : Heap) (k : Sl → Heap → Prop) : Prop :=
    Jn (σ := Bool) /-  -/ (fun kk1 =>
      Br (decide (n_ < 1)) (
        kk1 true H) (
        kk1 (decide (n_ > 1000)) H)) fun j1 H1 =>
    Br j1 (
      k ⟨none, 0, 0⟩ H1) (
      Mks T_int 1 8 #[.int .i64 0] n_ n_ H1 fun l1 H2 =>
      LoopT (σ := Int) /- i -/ (fun next1 s1 H3 =>
        Br (decide (s1 < n_)) (
          IxA 1 l1 s1 fun a1 =>
          St a1 (.int .i64 s1) H3 fun H4 =>
          Lt (IntKind.wrap .i64 (s1 + 1)) fun t1 =>
          next1 t1 H4) (
          Lt (IntKind.wrap .i64 (n_ - 1)) fun t2 =>
          LoopT (σ := Int) /- i -/ (fun next2 s2 H5 =>
            Br (decide (s2 ≥ 1)) (
              Lt (IntKind.wrap .i64 (s2 + 1)) fun t3 =>
              CallT Pg f_hindcastref08_Dice_Below [.pointer d_, .int .i64 t3] (.one (.c (.int .i64))) H5 fun (r1 : Int) H6 =>
              IxA 1 l1 s2 fun a2 =>
              Ld (.int .i64) a2 H6 fun (x1 : Int) =>
              IxA 1 l1 r1 fun a3 =>
              Ld (.int .i64) a3 H6 fun (x2 : Int) =>
              IxA 1 l1 s2 fun a4 =>
              St a4 (.int .i64 x2) H6 fun H7 =>
              IxA 1 l1 r1 fun a5 =>
              St a5 (.int .i64 x1) H7 fun H8 =>
              Lt (IntKind.wrap .i64 (s2 - 1)) fun t4 =>
              next2 t4 H8) (
              k l1 H5)) t2 H3)) 0 H2)
def h_hindcastref08_Dice_Shuffle : Hint := (.two .no (.two (.two (.join [(15, (.c .bool))] .no) .no) (.two .no (.two (.two .no (.one (.loop [(6, (.c (.int .i64)))] .no))) (.two (.two .no (.one (.loop [(7, (.c (.int .i64)))] .no))) .no)))))
theorem e_hindcastref08_Dice_Shuffle (d_ : Option Addr) (n_ : Int) (H : Heap) (k : Sl → Heap → Prop) : EFun Pg Try.f56 h_hindcastref08_Dice_Shuffle [.pointer d_, .int .i64 n_] (.one (.c .sl)) H k = v_hindcastref08_Dice_Shuffle d_ n_ H k := by kernel_rfl
theorem c_hindcastref08_Dice_Shuffle (d_ : Option Addr) (n_ : Int) {H : Heap} {k : Sl → Heap → Prop} (h : v_hindcastref08_Dice_Shuffle d_ n_ H k) : CallT Pg f_hindcastref08_Dice_Shuffle [.pointer d_, .int .i64 n_] (.one (.c .sl)) H k :=
  call_of_E Pg_mixed Try.func56 (by kernel_rfl) (by kernel_rfl) (by kernel_rfl) (by kernel_rfl) ((e_hindcastref08_Dice_Shuffle d_ n_ H k).symm ▸ h)
/-- hindcast/hindcastlaw08.same -/
def v_hindcastlaw08_same (a_ : Sl) (b_ : Sl) (H : Heap) (k : Bool → Heap → Prop) : Prop :=
    Br ((a_.len : Int) != (b_.len : Int)) (
      k false H) (
      LoopT (σ := Int) /- i -/ (fun next1 s1 H1 =>
        Br (decide (s1 < (a_.len : Int))) (
          IxA 1 a_ s1 fun a1 =>
          Ld (.int .i64) a1 H1 fun (x1 : Int) =>
          IxA 1 b_ s1 fun a2 =>
          Ld (.int .i64) a2 H1 fun (x2 : Int) =>
          Br (x1 != x2) (
            k false H1) (
            Lt (IntKind.wrap .i64 (s1 + 1)) fun t1 =>
            next1 t1 H1)) (
          k true H1)) 0 H)
def h_hindcastlaw08_same : Hint := (.two .no (.two .no (.two (.two .no (.one (.loop [(5, (.c (.int .i64)))] .no))) .no)))
theorem e_hindcastlaw08_same (a_ : Sl) (b_ : Sl) (H : Heap) (k : Bool → Heap → Prop) : EFun Pg Try.f57 h_hindcastlaw08_same [.slice a_.a a_.len a_.cap, .slice b_.a b_.len b_.cap] (.one (.c .bool)) H k = v_hindcastlaw08_same a_ b_ H k := by kernel_rfl
theorem c_hindcastlaw08_same (a_ : Sl) (b_ : Sl) {H : Heap} {k : Bool → Heap → Prop} (h : v_hindcastlaw08_same a_ b_ H k) : CallT Pg f_hindcastlaw08_same [.slice a_.a a_.len a_.cap, .slice b_.a b_.len b_.cap] (.one (.c .bool)) H k :=
  call_of_E Pg_mixed Try.func57 (by kernel_rfl) (by kernel_rfl) (by kernel_rfl) (by kernel_rfl) ((e_hindcastlaw08_same a_ b_ H k).symm ▸ h)
/-- (*hindcast/hindcastref08.Dice).Next -/
def v_hindcastref08_Dice_Next (d_ : Option Addr) (H : Heap) (k : Int → Heap → Prop) : Prop :=
    NilCk d_ fun a1 =>
    Ld (.int .u64) a1 H fun (x1 : Int) =>
    CallT Pg f_hindcastref08_Mix [.int .u64 x1] (.one (.c (.int .u64))) H fun (r1 : Int) H1 =>
    NilCk d_ fun a2 =>
    Ld (.int .u64) a2 H1 fun (x2 : Int) =>
    Lt (IntKind.wrap .u64 (x2 + 11400714819323198485)) fun t1 =>
    NilCk d_ fun a3 =>
    St a3 (.int .u64 t1) H1 fun H2 =>
    k r1 H2
def h_hindcastref08_Dice_Next : Hint := .no
theorem e_hindcastref08_Dice_Next (d_ : Option Addr) (H : Heap) (k : Int → Heap → Prop) : EFun Pg Try.f58 h_hindcastref08_Dice_Next [.pointer d_] (.one (.c (.int .u64))) H k = v_hindcastref08_Dice_Next d_ H k := by kernel_rfl
theorem c_hindcastref08_Dice_Next (d_ : Option Addr) {H : Heap} {k : Int → Heap → Prop} (h : v_hindcastref08_Dice_Next d_ H k) : CallT Pg f_hindcastref08_Dice_Next [.pointer d_] (.one (.c (.int .u64))) H k :=
  call_of_E Pg_mixed Try.func58 (by kernel_rfl) (by kernel_rfl) (by kernel_rfl) (by kernel_rfl) ((e_hindcastref08_Dice_Next d_ H k).symm ▸ h)
/-- (*hindcast/dice.Dice).below -/
def v_dice_Dice_below (d_ : Option Addr) (n_ : Int) (H : Heap) (k : Int → Heap → Prop) : Prop :=
    Rem 18446744073709551615 n_ fun t1 =>
    Lt (IntKind.wrap .u64 (18446744073709551615 - t1)) fun t2 =>
    LoopT (σ := Unit) /-  -/ (fun next1 s1 H1 =>
      CallT Pg f_dice_Dice_Next [.pointer d_] (.one (.c (.int .u64))) H1 fun (r1 : Int) H2 =>
      Br (decide (r1 < t2)) (
        Rem r1 n_ fun t3 =>
        k t3 H2) (
        next1 () H2)) () H
def h_dice_Dice_below : Hint := (.two .no (.two .no (.one (.loop [] .no))))
theorem e_dice_Dice_below (d_ : Option Addr) (n_ : Int) (H : Heap) (k : Int → Heap → Prop) : EFun Pg Try.f59 h_dice_Dice_below [.pointer d_, .int .u64 n_] (.one (.c (.int .u64))) H k = v_dice_Dice_below d_ n_ H k := by kernel_rfl
theorem c_dice_Dice_below (d_ : Option Addr) (n_ : Int) {H : Heap} {k : Int → Heap → Prop} (h : v_dice_Dice_below d_ n_ H k) : CallT Pg f_dice_Dice_below [.pointer d_, .int .u64 n_] (.one (.c (.int .u64))) H k :=
  call_of_E Pg_mixed Try.func59 (by kernel_rfl) (by kernel_rfl) (by kernel_rfl) (by kernel_rfl) ((e_dice_Dice_below d_ n_ H k).symm ▸ h)
end Go.Proofs.Ytpkpebgpiakbeaa
