import Derived.Test.YtlkmmplgfjicjaaDoorHcFun
import Derived.KernelRfl
import Derived.Test.YtlkmmplgfjicjaaDoorProg
namespace Go.Proofs.YtlkmmplgfjicjaaDoor
set_option linter.unusedVariables false
set_option linter.unusedSimpArgs false
open Go.Proofs.YtlkmmplgfjicjaaDoor.Hc
noncomputable abbrev Pg : Program := Tryd.prog
abbrev T_P_api_Fault : TypeId := 32
abbrev T_Sl_string : TypeId := 22
abbrev T_api_Fault : TypeId := 36
abbrev T_api_Token : TypeId := 44
abbrev T_hindcastlaw09_hold : TypeId := 60
abbrev T_lex_reader : TypeId := 55
abbrev T_string : TypeId := 9
abbrev T_uint8 : TypeId := 5
abbrev f_hindcastlaw09_LexReads : FuncId := 3
abbrev f_hindcastlaw09_LexPlaces : FuncId := 4
abbrev f_hindcastlaw09_LexApart : FuncId := 5
abbrev f_hindcastlaw09_LexNumbers : FuncId := 6
abbrev f_hindcastlaw09_LexWords : FuncId := 7
abbrev f_hindcastlaw09_shown : FuncId := 8
abbrev f_lex_Lex : FuncId := 9
abbrev f_hindcastlaw09_same : FuncId := 10
abbrev f_hindcastlaw09_keep : FuncId := 11
abbrev f_hindcastlaw09_looks : FuncId := 12
abbrev f_lex_Place : FuncId := 13
abbrev f_hindcastref09_Place : FuncId := 14
abbrev f_hindcastref09_Words : FuncId := 15
abbrev f_lex_Words : FuncId := 16
abbrev f_hindcastlaw09_pick : FuncId := 17
abbrev f_lex_fault : FuncId := 18
abbrev f_lex_reader_all : FuncId := 19
abbrev f_hindcastref09_Lex : FuncId := 20
abbrev f_strings_Count : FuncId := 21
abbrev f_strings_LastIndexByte : FuncId := 22
abbrev f_strings_Fields : FuncId := 23
abbrev f_lex_reader_skip : FuncId := 24
abbrev f_lex_letter : FuncId := 25
abbrev f_lex_digit : FuncId := 26
abbrev f_lex_reader_symbol : FuncId := 27
abbrev f_lex_reader_word : FuncId := 28
abbrev f_lex_reader_number : FuncId := 29
abbrev f_lex_reader_add : FuncId := 30
abbrev f_hindcastref09_remark : FuncId := 31
abbrev f_hindcastref09_letter : FuncId := 32
abbrev f_hindcastref09_digit : FuncId := 33
abbrev f_hindcastref09_sign : FuncId := 34
abbrev f_hindcastref09_word : FuncId := 35
abbrev f_hindcastref09_number : FuncId := 36
abbrev f_lex_reader_rest : FuncId := 43
abbrev f_strings_IndexByte : FuncId := 44
abbrev f_strings_HasPrefix : FuncId := 45
abbrev f_strings_Cut : FuncId := 46
abbrev f_lex_reader_sign : FuncId := 47
abbrev f_lex_reader_while : FuncId := 48
abbrev f_lex_reader_word_1 : FuncId := 49
abbrev f_strconv_ParseInt : FuncId := 50
abbrev f_hindcastref09_starts : FuncId := 51
theorem Pg_mixed : Pg.follows .mixedOrders = true := by kernel_rfl
/-- hindcast/hindcastlaw09.LexReads -/
def v_hindcastlaw09_LexReads (t0_ : Sl) (H : Heap) (k : Bool → Heap → Prop) : Prop :=
    CallT Pg f_hindcastlaw09_shown [] (.one (.c .bool)) H fun (r1 : Bool) H1 =>
    LoopT (σ := Sl × Int) /- t4, t5 -/ (fun next1 s1 H2 =>
      Jn (σ := Bool) /- t22 -/ (fun kk1 =>
        Br (decide (s1.2 < (t0_.len : Int))) (
          kk1 (decide (s1.2 < 50)) H2) (
          kk1 false H2)) fun j1 H3 =>
      Br j1 (
        IxA 1 t0_ s1.2 fun a1 =>
        Ld .str a1 H3 fun (x1 : ByteArray) =>
        CallT Pg f_lex_Lex [.string x1] (.tup [(.c .sl), (.c .raw)]) H3 fun (r2 : Sl × Value) H4 =>
        IxA 1 t0_ s1.2 fun a2 =>
        Ld .str a2 H4 fun (x2 : ByteArray) =>
        CallT Pg f_lex_Lex [.string x2] (.tup [(.c .sl), (.c .raw)]) H4 fun (r3 : Sl × Value) H5 =>
        IxA 1 t0_ s1.2 fun a3 =>
        Ld .str a3 H5 fun (x3 : ByteArray) =>
        CallT Pg f_hindcastlaw09_same [.slice r2.1.a r2.1.len r2.1.cap, r2.2, .string x3] (.one (.c .bool)) H5 fun (r4 : Bool) H6 =>
        Br (!r4) (
          k false H6) (
          CallT Pg f_hindcastlaw09_keep [.slice s1.1.a s1.1.len s1.1.cap, .slice r2.1.a r2.1.len r2.1.cap] (.one (.c .sl)) H6 fun (r5 : Sl) H7 =>
          TAs (.c .ptr) T_P_api_Fault none r2.2 fun (x4 : Option Addr) e1 =>
          Jn (σ := Bool) /- t62 -/ (fun kk2 =>
            Br e1 (
              kk2 (!x4.isNone) H7) (
              kk2 false H7)) fun j2 H8 =>
          Jn (σ := Unit) /-  -/ (fun kk3 =>
            Br j2 (
              NilCk x4 fun a4 =>
              St a4 (.int .i64 (-7)) H8 fun H10 =>
              NilCk x4 fun a5 =>
              St (a5.add 1) (.int .i64 7) H10 fun H11 =>
              kk3 () H11) (
              kk3 () H8)) fun j3 H9 =>
          IxA 1 t0_ s1.2 fun a6 =>
          Ld .str a6 H9 fun (x5 : ByteArray) =>
          CallT Pg f_hindcastlaw09_same [.slice r3.1.a r3.1.len r3.1.cap, r3.2, .string x5] (.one (.c .bool)) H9 fun (r6 : Bool) H12 =>
          Br (!r6) (
            k false H12) (
            CallT Pg f_hindcastlaw09_keep [.slice r5.a r5.len r5.cap, .slice r3.1.a r3.1.len r3.1.cap] (.one (.c .sl)) H12 fun (r7 : Sl) H13 =>
            CallT Pg f_hindcastlaw09_looks [.slice r7.a r7.len r7.cap] (.one (.c .bool)) H13 fun (r8 : Bool) H14 =>
            Br (!r8) (
              k false H14) (
              Lt (IntKind.wrap .i64 (s1.2 + 1)) fun t1 =>
              next1 (r7, t1) H14)))) (
        k r1 H3)) (⟨none, 0, 0⟩, 0) H1
def h_hindcastlaw09_LexReads : Hint := (.two .no (.two .no (.two .no (.two (.two .no (.one (.loop [(4, (.c .sl)), (5, (.c (.int .i64)))] (.two (.two (.join [(22, (.c .bool))] .no) .no) (.two (.one (.two .no (.two .no (.two .no (.two .no (.two .no (.two .no (.two (.two (.join [(62, (.c .bool))] .no) (.join [] .no)) .no)))))))) .no))))) .no))))
theorem e_hindcastlaw09_LexReads (t0_ : Sl) (H : Heap) (k : Bool → Heap → Prop) : EFun Pg Tryd.f3 h_hindcastlaw09_LexReads [.slice t0_.a t0_.len t0_.cap] (.one (.c .bool)) H k = v_hindcastlaw09_LexReads t0_ H k := by kernel_rfl
theorem c_hindcastlaw09_LexReads (t0_ : Sl) {H : Heap} {k : Bool → Heap → Prop} (h : v_hindcastlaw09_LexReads t0_ H k) : CallT Pg f_hindcastlaw09_LexReads [.slice t0_.a t0_.len t0_.cap] (.one (.c .bool)) H k :=
  call_of_E Pg_mixed Tryd.func3 (by kernel_rfl) (by kernel_rfl) (by kernel_rfl) (by kernel_rfl) ((e_hindcastlaw09_LexReads t0_ H k).symm ▸ h)
/-- hindcast/hindcastlaw09.LexPlaces -/
def v_hindcastlaw09_LexPlaces (src_ : ByteArray) (at_ : Int) (H : Heap) (k : Bool → Heap → Prop) : Prop :=
    CallT Pg f_hindcastlaw09_shown [] (.one (.c .bool)) H fun (r1 : Bool) H1 =>
    CallT Pg f_lex_Place [.string src_, .int .i64 at_] (.tup [(.c (.int .i64)), (.c (.int .i64))]) H1 fun (r2 : Int × Int) H2 =>
    CallT Pg f_hindcastref09_Place [.string src_, .int .i64 at_] (.tup [(.c (.int .i64)), (.c (.int .i64))]) H2 fun (r3 : Int × Int) H3 =>
    Jn (σ := Bool) /-  -/ (fun kk1 =>
      Br r1 (
        Br (r2.1 == r3.1) (
          kk1 (r2.2 == r3.2) H3) (
          kk1 false H3)) (
        kk1 false H3)) fun j1 H4 =>
    k j1 H4
def h_hindcastlaw09_LexPlaces : Hint := (.two .no (.two .no (.two .no (.two .no (.two (.join [(4, (.c .bool))] .no) .no)))))
theorem e_hindcastlaw09_LexPlaces (src_ : ByteArray) (at_ : Int) (H : Heap) (k : Bool → Heap → Prop) : EFun Pg Tryd.f4 h_hindcastlaw09_LexPlaces [.string src_, .int .i64 at_] (.one (.c .bool)) H k = v_hindcastlaw09_LexPlaces src_ at_ H k := by kernel_rfl
theorem c_hindcastlaw09_LexPlaces (src_ : ByteArray) (at_ : Int) {H : Heap} {k : Bool → Heap → Prop} (h : v_hindcastlaw09_LexPlaces src_ at_ H k) : CallT Pg f_hindcastlaw09_LexPlaces [.string src_, .int .i64 at_] (.one (.c .bool)) H k :=
  call_of_E Pg_mixed Tryd.func4 (by kernel_rfl) (by kernel_rfl) (by kernel_rfl) (by kernel_rfl) ((e_hindcastlaw09_LexPlaces src_ at_ H k).symm ▸ h)
/-- hindcast/hindcastlaw09.LexApart -/
def v_hindcastlaw09_LexApart (t0_ : ByteArray) (t1_ : Sl) (H : Heap) (k : Bool → Heap → Prop) : Prop :=
    CallT Pg f_hindcastlaw09_shown [] (.one (.c .bool)) H fun (r1 : Bool) H1 =>
    CallT Pg f_lex_Lex [.string t0_] (.tup [(.c .sl), (.c .raw)]) H1 fun (r2 : Sl × Value) H2 =>
    Jn (σ := Bool) /- t34 -/ (fun kk1 =>
      Br (!r1) (
        kk1 true H2) (
        IfNil r2.2 fun e1 =>
        kk1 (!(e1 == (decide ((r2.1.len : Int) > 0)))) H2)) fun j1 H3 =>
    Br j1 (
      k false H3) (
      IfNil r2.2 fun e2 =>
      Br (!e2) (
        k true H3) (
        Nw #[.string (⟨#[32]⟩ : ByteArray), .string (⟨#[10]⟩ : ByteArray), .string (⟨#[32, 47, 42, 32, 120, 32, 42, 47]⟩ : ByteArray), .string (⟨#[9, 47, 47, 32, 121, 10]⟩ : ByteArray), .string (⟨#[13, 32]⟩ : ByteArray)] T_string H3 fun b1 H4 =>
        LoopT (σ := ByteArray × Int × Int) /- t9, t10, t11 -/ (fun next1 s1 H5 =>
          Br (decide (s1.2.2 < (r2.1.len : Int))) (
            IxA 3 r2.1 s1.2.2 fun a1 =>
            LdC [(.int .i64), .str, (.int .i64)] a1 H5 fun (c1 : Int × ByteArray × Int) =>
            Nw #[.int .i64 0, .string ByteArray.empty, .int .i64 0] T_api_Token H5 fun b2 H6 =>
            St ((adr b2).add 0) (.int .i64 c1.1) H6 fun H7 =>
            St ((adr b2).add 1) (.string c1.2.1) H7 fun H8 =>
            St ((adr b2).add 2) (.int .i64 c1.2.2) H8 fun H9 =>
            Jn (σ := Bool) /- t97 -/ (fun kk2 =>
              Ld (.int .i64) ((adr b2).add 2) H9 fun (x1 : Int) =>
              Br (decide (x1 < s1.2.1)) (
                kk2 true H9) (
                Ld (.int .i64) ((adr b2).add 2) H9 fun (x2 : Int) =>
                Ld .str ((adr b2).add 1) H9 fun (x3 : ByteArray) =>
                Lt (IntKind.wrap .i64 (x2 + (x3.size : Int))) fun t1 =>
                Br (decide (t1 > (t0_.size : Int))) (
                  kk2 true H9) (
                  Ld (.int .i64) ((adr b2).add 2) H9 fun (x4 : Int) =>
                  Ld (.int .i64) ((adr b2).add 2) H9 fun (x5 : Int) =>
                  Ld .str ((adr b2).add 1) H9 fun (x6 : ByteArray) =>
                  Lt (IntKind.wrap .i64 (x5 + (x6.size : Int))) fun t2 =>
                  StrS t0_ x4 t2 fun y1 =>
                  Ld .str ((adr b2).add 1) H9 fun (x7 : ByteArray) =>
                  Br (!(y1.toList == x7.toList)) (
                    kk2 true H9) (
                    Ld (.int .i64) (adr b2) H9 fun (x8 : Int) =>
                    Lt (IntKind.wrap .i64 ((r2.1.len : Int) - 1)) fun t3 =>
                    Br (!((x8 == 0) == (s1.2.2 == t3))) (
                      kk2 true H9) (
                      Ld .str ((adr b2).add 1) H9 fun (x9 : ByteArray) =>
                      Ld (.int .i64) (adr b2) H9 fun (x10 : Int) =>
                      kk2 (!(((x9.toList == (⟨#[]⟩ : ByteArray).toList)) == (x10 == 0))) H9))))) fun j2 H10 =>
            Br j2 (
              k false H10) (
              Ld (.int .i64) ((adr b2).add 2) H10 fun (x11 : Int) =>
              StrS t0_ s1.2.1 x11 fun y2 =>
              CallT Pg f_lex_Lex [.string y2] (.tup [(.c .sl), (.c .raw)]) H10 fun (r3 : Sl × Value) H11 =>
              Jn (σ := Bool) /- t113 -/ (fun kk3 =>
                IfNil r3.2 fun e3 =>
                Br (!e3) (
                  kk3 true H11) (
                  kk3 ((r3.1.len : Int) != 1) H11)) fun j3 H12 =>
              Br j3 (
                k false H12) (
                Ld (.int .i64) ((adr b2).add 2) H12 fun (x12 : Int) =>
                Ld .str ((adr b2).add 1) H12 fun (x13 : ByteArray) =>
                Lt (IntKind.wrap .i64 (x12 + (x13.size : Int))) fun t4 =>
                Jn (σ := Int) /- t15 -/ (fun kk4 =>
                  Br (decide ((t1_.len : Int) > 0)) (
                    Rem s1.2.2 (t1_.len : Int) fun t5 =>
                    IxA 1 t1_ t5 fun a2 =>
                    Ld (.int .i64) a2 H12 fun (x14 : Int) =>
                    Jn (σ := Int) /- t15 -/ (fun kk5 =>
                      Br (decide (x14 < 0)) (
                        Lt (IntKind.wrap .i64 (x14 + 1)) fun t6 =>
                        kk5 (IntKind.wrap .i64 (0 - t6)) H12) (
                        kk5 x14 H12)) fun j5 H14 =>
                    kk4 j5 H14) (
                    kk4 0 H12)) fun j4 H13 =>
                Rem j4 5 fun t7 =>
                IxA 1 ⟨some (adr b1), 5, 5⟩ t7 fun a3 =>
                Ld .str a3 H13 fun (x15 : ByteArray) =>
                StrCat s1.1 x15 fun y3 =>
                Ld .str ((adr b2).add 1) H13 fun (x16 : ByteArray) =>
                StrCat y3 x16 fun y4 =>
                Lt (IntKind.wrap .i64 (s1.2.2 + 1)) fun t8 =>
                next1 (y4, t4, t8) H13))) (
            Br (decide ((s1.1.size : Int) > 8000)) (
              k true H5) (
              CallT Pg f_lex_Lex [.string s1.1] (.tup [(.c .sl), (.c .raw)]) H5 fun (r4 : Sl × Value) H15 =>
              Jn (σ := Bool) /- t161 -/ (fun kk6 =>
                IfNil r4.2 fun e4 =>
                Br (!e4) (
                  kk6 true H15) (
                  kk6 ((r4.1.len : Int) != (r2.1.len : Int)) H15)) fun j6 H16 =>
              Br j6 (
                k false H16) (
                LoopT (σ := Int) /- t18 -/ (fun next2 s2 H17 =>
                  Br (decide (s2 < (r2.1.len : Int))) (
                    Jn (σ := Bool) /- t191 -/ (fun kk7 =>
                      IxA 3 r4.1 s2 fun a4 =>
                      Ld (.int .i64) a4 H17 fun (x17 : Int) =>
                      IxA 3 r2.1 s2 fun a5 =>
                      Ld (.int .i64) a5 H17 fun (x18 : Int) =>
                      Br (x17 != x18) (
                        kk7 true H17) (
                        IxA 3 r4.1 s2 fun a6 =>
                        Ld .str (a6.add 1) H17 fun (x19 : ByteArray) =>
                        IxA 3 r2.1 s2 fun a7 =>
                        Ld .str (a7.add 1) H17 fun (x20 : ByteArray) =>
                        kk7 (!(x19.toList == x20.toList)) H17)) fun j7 H18 =>
                    Br j7 (
                      k false H18) (
                      Lt (IntKind.wrap .i64 (s2 + 1)) fun t9 =>
                      next2 t9 H18)) (
                    k true H17)) 0 H16)))) (((⟨#[]⟩ : ByteArray), 0, 0)) H4))
def h_hindcastlaw09_LexApart : Hint := (.two .no (.two .no (.two .no (.two (.two (.join [(34, (.c .bool))] .no) .no) (.two .no (.two .no (.two .no (.two .no (.two (.two .no (.one (.loop [(9, (.c .str)), (10, (.c (.int .i64))), (11, (.c (.int .i64)))] (.two .no (.two (.one (.two .no (.two (.two (.join [(97, (.c .bool))] .no) .no) (.two .no (.two (.two (.join [(113, (.c .bool))] .no) .no) (.two .no (.two .no (.two (.two .no (.join [(15, (.c (.int .i64)))] (.two (.two .no (.two .no (.join [(15, (.c (.int .i64)))] .no))) .no))) .no)))))))) .no))))) (.two .no (.two .no (.two (.two (.join [(161, (.c .bool))] .no) .no) (.two (.two .no (.one (.loop [(18, (.c (.int .i64)))] (.two .no (.two (.one (.two (.join [(191, (.c .bool))] .no) .no)) .no))))) .no)))))))))))))
theorem e_hindcastlaw09_LexApart (t0_ : ByteArray) (t1_ : Sl) (H : Heap) (k : Bool → Heap → Prop) : EFun Pg Tryd.f5 h_hindcastlaw09_LexApart [.string t0_, .slice t1_.a t1_.len t1_.cap] (.one (.c .bool)) H k = v_hindcastlaw09_LexApart t0_ t1_ H k := by kernel_rfl
theorem c_hindcastlaw09_LexApart (t0_ : ByteArray) (t1_ : Sl) {H : Heap} {k : Bool → Heap → Prop} (h : v_hindcastlaw09_LexApart t0_ t1_ H k) : CallT Pg f_hindcastlaw09_LexApart [.string t0_, .slice t1_.a t1_.len t1_.cap] (.one (.c .bool)) H k :=
  call_of_E Pg_mixed Tryd.func5 (by kernel_rfl) (by kernel_rfl) (by kernel_rfl) (by kernel_rfl) ((e_hindcastlaw09_LexApart t0_ t1_ H k).symm ▸ h)
/-- hindcast/hindcastlaw09.LexNumbers -/
def v_hindcastlaw09_LexNumbers (t0_ : Int) (H : Heap) (k : Bool → Heap → Prop) : Prop :=
    CallT Pg f_hindcastlaw09_shown [] (.one (.c .bool)) H fun (r1 : Bool) H1 =>
    Jn (σ := Int) /- t0 -/ (fun kk1 =>
      Br (decide (t0_ < 0)) (
        Lt (IntKind.wrap .i64 (t0_ + 1)) fun t1 =>
        kk1 (IntKind.wrap .i64 (0 - t1)) H1) (
        kk1 t0_ H1)) fun j1 H2 =>
    LoopT (σ := ByteArray × Int) /- t4, t5 -/ (fun next1 s1 H3 =>
      Jn (σ := Bool) /- t28 -/ (fun kk2 =>
        Br (decide (s1.2 > 0)) (
          kk2 true H3) (
          kk2 ((s1.1.toList == (⟨#[]⟩ : ByteArray).toList)) H3)) fun j2 H4 =>
      Br j2 (
        Rem s1.2 10 fun t2 =>
        Lt (IntKind.wrap .i64 (48 + t2)) fun t3 =>
        Nw #[.int .u8 (IntKind.wrap .u8 t3)] T_uint8 H4 fun b1 H5 =>
        B2S ⟨some (adr b1), 1, 1⟩ H5 fun y1 =>
        StrCat y1 s1.1 fun y2 =>
        Quo .i64 s1.2 10 fun t4 =>
        next1 (y2, t4) H5) (
        CallT Pg f_lex_Lex [.string s1.1] (.tup [(.c .sl), (.c .raw)]) H4 fun (r2 : Sl × Value) H6 =>
        StrCat (⟨#[48]⟩ : ByteArray) s1.1 fun y3 =>
        CallT Pg f_lex_Lex [.string y3] (.tup [(.c .sl), (.c .raw)]) H6 fun (r3 : Sl × Value) H7 =>
        StrCat s1.1 (⟨#[120]⟩ : ByteArray) fun y4 =>
        CallT Pg f_lex_Lex [.string y4] (.tup [(.c .sl), (.c .raw)]) H7 fun (r4 : Sl × Value) H8 =>
        StrCat (⟨#[49]⟩ : ByteArray) s1.1 fun y5 =>
        StrCat y5 (⟨#[48, 48, 48, 48, 48, 48, 48, 48, 48, 48, 48, 48, 48, 48, 48, 48, 48, 48]⟩ : ByteArray) fun y6 =>
        CallT Pg f_lex_Lex [.string y6] (.tup [(.c .sl), (.c .raw)]) H8 fun (r5 : Sl × Value) H9 =>
        Jn (σ := Bool) /- t84 -/ (fun kk3 =>
          IfNil r2.2 fun e1 =>
          Br (!e1) (
            kk3 true H9) (
            Br ((r2.1.len : Int) != 2) (
              kk3 true H9) (
              IxA 3 r2.1 0 fun a1 =>
              Ld .str (a1.add 1) H9 fun (x1 : ByteArray) =>
              Br (!(x1.toList == s1.1.toList)) (
                kk3 true H9) (
                IxA 3 r2.1 0 fun a2 =>
                Ld (.int .i64) a2 H9 fun (x2 : Int) =>
                kk3 (x2 != 2) H9)))) fun j3 H10 =>
        Br j3 (
          k false H10) (
          StrCat (⟨#[40]⟩ : ByteArray) s1.1 fun y7 =>
          StrCat y7 (⟨#[41]⟩ : ByteArray) fun y8 =>
          CallT Pg f_lex_Lex [.string y8] (.tup [(.c .sl), (.c .raw)]) H10 fun (r6 : Sl × Value) H11 =>
          Jn (σ := Bool) /- t2 -/ (fun kk4 =>
            Br r1 (
              IfNil r3.2 fun e2 =>
              Br (!e2) (
                IfNil r4.2 fun e3 =>
                Br (!e3) (
                  IfNil r5.2 fun e4 =>
                  Br (!e4) (
                    IfNil r6.2 fun e5 =>
                    Br e5 (
                      kk4 ((r6.1.len : Int) == 4) H11) (
                      kk4 false H11)) (
                    kk4 false H11)) (
                  kk4 false H11)) (
                kk4 false H11)) (
              kk4 false H11)) fun j4 H12 =>
          k j4 H12))) (((⟨#[]⟩ : ByteArray), j1)) H2
def h_hindcastlaw09_LexNumbers : Hint := (.two .no (.two .no (.two (.two .no (.join [(0, (.c (.int .i64)))] .no)) (.two .no (.two (.two .no (.one (.loop [(4, (.c .str)), (5, (.c (.int .i64)))] (.two (.two (.join [(28, (.c .bool))] .no) .no) .no)))) (.two .no (.two .no (.two .no (.two .no (.two (.two (.join [(84, (.c .bool))] .no) .no) (.two .no (.two (.join [(2, (.c .bool))] .no) .no))))))))))))
theorem e_hindcastlaw09_LexNumbers (t0_ : Int) (H : Heap) (k : Bool → Heap → Prop) : EFun Pg Tryd.f6 h_hindcastlaw09_LexNumbers [.int .i64 t0_] (.one (.c .bool)) H k = v_hindcastlaw09_LexNumbers t0_ H k := by kernel_rfl
theorem c_hindcastlaw09_LexNumbers (t0_ : Int) {H : Heap} {k : Bool → Heap → Prop} (h : v_hindcastlaw09_LexNumbers t0_ H k) : CallT Pg f_hindcastlaw09_LexNumbers [.int .i64 t0_] (.one (.c .bool)) H k :=
  call_of_E Pg_mixed Tryd.func6 (by kernel_rfl) (by kernel_rfl) (by kernel_rfl) (by kernel_rfl) ((e_hindcastlaw09_LexNumbers t0_ H k).symm ▸ h)
/-- hindcast/hindcastlaw09.LexWords -/
def v_hindcastlaw09_LexWords (t0_ : Int) (H : Heap) (k : Bool → Heap → Prop) : Prop :=
    CallT Pg f_hindcastlaw09_shown [] (.one (.c .bool)) H fun (r1 : Bool) H1 =>
    CallT Pg f_hindcastref09_Words [] (.one (.c .sl)) H1 fun (r2 : Sl) H2 =>
    CallT Pg f_lex_Words [] (.one (.c .sl)) H2 fun (r3 : Sl) H3 =>
    CallT Pg f_lex_Words [] (.one (.c .sl)) H3 fun (r4 : Sl) H4 =>
    CallT Pg f_lex_Words [] (.one (.c .sl)) H4 fun (r5 : Sl) H5 =>
    Nw #[.slice r3.a r3.len r3.cap, .slice r4.a r4.len r4.cap, .slice r5.a r5.len r5.cap] T_Sl_string H5 fun b1 H6 =>
    LoopT (σ := Sl × Int) /- t9, t10 -/ (fun next1 s1 H7 =>
      Br (decide (s1.2 < 3)) (
        LoopT (σ := Int) /- t11 -/ (fun next2 s2 H8 =>
          Br (decide (s2 < 3)) (
            IxA 1 ⟨some (adr b1), 3, 3⟩ s2 fun a1 =>
            Ld .sl a1 H8 fun (x1 : Sl) =>
            Br ((x1.len : Int) != (r2.len : Int)) (
              k false H8) (
              LoopT (σ := Int) /- t12 -/ (fun next3 s3 H9 =>
                Br (decide (s3 < (r2.len : Int))) (
                  IxA 1 ⟨some (adr b1), 3, 3⟩ s2 fun a2 =>
                  Ld .sl a2 H9 fun (x2 : Sl) =>
                  IxA 1 x2 s3 fun a3 =>
                  Ld .str a3 H9 fun (x3 : ByteArray) =>
                  IxA 1 r2 s3 fun a4 =>
                  Ld .str a4 H9 fun (x4 : ByteArray) =>
                  Br (!(x3.toList == x4.toList)) (
                    k false H9) (
                    Lt (IntKind.wrap .i64 (s3 + 1)) fun t1 =>
                    next3 t1 H9)) (
                  Lt (IntKind.wrap .i64 (s2 + 1)) fun t2 =>
                  next2 t2 H9)) 0 H8)) (
            IxA 1 ⟨some (adr b1), 3, 3⟩ s1.2 fun a5 =>
            Ld .sl a5 H8 fun (x5 : Sl) =>
            Nw #[.string (⟨#[111, 110, 101]⟩ : ByteArray), .string (⟨#[116, 119, 111]⟩ : ByteArray), .string (⟨#[116, 104, 114, 101, 101]⟩ : ByteArray)] T_string H8 fun b2 H10 =>
            IxA 1 ⟨some (adr b2), 3, 3⟩ s1.2 fun a6 =>
            Ld .str a6 H10 fun (x6 : ByteArray) =>
            LoopT (σ := Int) /- t15 -/ (fun next4 s4 H11 =>
              Br (decide (s4 < (x5.len : Int))) (
                IxA 1 x5 s4 fun a7 =>
                St a7 (.string x6) H11 fun H12 =>
                Lt (IntKind.wrap .i64 (s4 + 1)) fun t3 =>
                next4 t3 H12) (
                LoopT (σ := Sl × Int) /- t13, t16 -/ (fun next5 s5 H13 =>
                  Br (decide (s5.2 < 70)) (
                    Nw #[.string x6] T_string H13 fun b3 H14 =>
                    App T_string 1 16 #[.string ByteArray.empty] s5.1 ⟨some (adr b3), 1, 1⟩ H14 fun l1 H15 =>
                    Lt (IntKind.wrap .i64 (s5.2 + 1)) fun t4 =>
                    next5 (l1, t4) H15) (
                    Nw #[.slice s5.1.a s5.1.len s5.1.cap] T_Sl_string H13 fun b4 H16 =>
                    App T_Sl_string 1 24 #[.slice none 0 0] s1.1 ⟨some (adr b4), 1, 1⟩ H16 fun l2 H17 =>
                    Lt (IntKind.wrap .i64 (s1.2 + 1)) fun t5 =>
                    next1 (l2, t5) H17)) (x5, 0) H11)) 0 H10)) s1.2 H7) (
        LoopT (σ := Int) /- t17 -/ (fun next6 s6 H18 =>
          Br (decide (s6 < 3)) (
            LoopT (σ := Int) /- t18 -/ (fun next7 s7 H19 =>
              IxA 1 s1.1 s6 fun a8 =>
              Ld .sl a8 H19 fun (x7 : Sl) =>
              Br (decide (s7 < (x7.len : Int))) (
                IxA 1 s1.1 s6 fun a9 =>
                Ld .sl a9 H19 fun (x8 : Sl) =>
                IxA 1 x8 s7 fun a10 =>
                Ld .str a10 H19 fun (x9 : ByteArray) =>
                Nw #[.string (⟨#[111, 110, 101]⟩ : ByteArray), .string (⟨#[116, 119, 111]⟩ : ByteArray), .string (⟨#[116, 104, 114, 101, 101]⟩ : ByteArray)] T_string H19 fun b5 H20 =>
                Stab [(a10, .string x9), (a9, .slice x8.a x8.len x8.cap)] H20 <|
                IxA 1 ⟨some (adr b5), 3, 3⟩ s6 fun a11 =>
                Ld .str a11 H20 fun (x10 : ByteArray) =>
                Br (!(x9.toList == x10.toList)) (
                  k false H20) (
                  Lt (IntKind.wrap .i64 (s7 + 1)) fun t6 =>
                  next7 t6 H20)) (
                Lt (IntKind.wrap .i64 (s6 + 1)) fun t7 =>
                next6 t7 H19)) 0 H18) (
            CallT Pg f_lex_Words [] (.one (.c .sl)) H18 fun (r6 : Sl) H21 =>
            CallT Pg f_hindcastlaw09_pick [.int .i64 t0_, .int .i64 (r2.len : Int)] (.one (.c (.int .i64))) H21 fun (r7 : Int) H22 =>
            Jn (σ := Bool) /- t2 -/ (fun kk1 =>
              Br r1 (
                Br ((r6.len : Int) == (r2.len : Int)) (
                  IxA 1 r6 r7 fun a12 =>
                  Ld .str a12 H22 fun (x11 : ByteArray) =>
                  IxA 1 r2 r7 fun a13 =>
                  Ld .str a13 H22 fun (x12 : ByteArray) =>
                  kk1 (x11.toList == x12.toList) H22) (
                  kk1 false H22)) (
                kk1 false H22)) fun j1 H23 =>
            k j1 H23)) 0 H7)) (⟨none, 0, 0⟩, 0) H6
def h_hindcastlaw09_LexWords : Hint := (.two .no (.two .no (.two .no (.two .no (.two .no (.two .no (.two .no (.two .no (.two (.two .no (.one (.loop [(9, (.c .sl)), (10, (.c (.int .i64)))] (.two .no (.two (.one (.two (.two .no (.one (.loop [(11, (.c (.int .i64)))] (.two .no (.two (.one (.two .no (.two .no (.one (.loop [(12, (.c (.int .i64)))] .no))))) .no))))) (.two .no (.two .no (.two (.two .no (.one (.loop [(15, (.c (.int .i64)))] .no))) (.two (.two .no (.one (.loop [(13, (.c .sl)), (16, (.c (.int .i64)))] .no))) .no)))))) .no))))) (.two (.two .no (.one (.loop [(17, (.c (.int .i64)))] (.two .no (.two (.one (.two .no (.one (.loop [(18, (.c (.int .i64)))] .no)))) .no))))) (.two .no (.two .no (.two (.join [(2, (.c .bool))] .no) .no)))))))))))))
theorem e_hindcastlaw09_LexWords (t0_ : Int) (H : Heap) (k : Bool → Heap → Prop) : EFun Pg Tryd.f7 h_hindcastlaw09_LexWords [.int .i64 t0_] (.one (.c .bool)) H k = v_hindcastlaw09_LexWords t0_ H k := by kernel_rfl
theorem c_hindcastlaw09_LexWords (t0_ : Int) {H : Heap} {k : Bool → Heap → Prop} (h : v_hindcastlaw09_LexWords t0_ H k) : CallT Pg f_hindcastlaw09_LexWords [.int .i64 t0_] (.one (.c .bool)) H k :=
  call_of_E Pg_mixed Tryd.func7 (by kernel_rfl) (by kernel_rfl) (by kernel_rfl) (by kernel_rfl) ((e_hindcastlaw09_LexWords t0_ H k).symm ▸ h)
/-- hindcast/hindcastlaw09.shown -/
def v_hindcastlaw09_shown  (H : Heap) (k : Bool → Heap → Prop) : Prop :=
    CallT Pg f_lex_Lex [.string (⟨#[120, 49, 32, 61, 32, 45, 49, 50, 59, 32, 47, 47, 32, 110, 111]⟩ : ByteArray)] (.tup [(.c .sl), (.c .raw)]) H fun (r1 : Sl × Value) H1 =>
    CallT Pg f_lex_Lex [.string (⟨#[48, 49, 50]⟩ : ByteArray)] (.tup [(.c .sl), (.c .raw)]) H1 fun (r2 : Sl × Value) H2 =>
    CallT Pg f_lex_Place [.string (⟨#[97, 10, 98, 99]⟩ : ByteArray), .int .i64 3] (.tup [(.c (.int .i64)), (.c (.int .i64))]) H2 fun (r3 : Int × Int) H3 =>
    Jn (σ := Bool) /-  -/ (fun kk1 =>
      IfNil r1.2 fun e1 =>
      Br e1 (
        IfNil r2.2 fun e2 =>
        Br (!e2) (
          Br ((r1.1.len : Int) == 6) (
            IxA 3 r1.1 0 fun a1 =>
            LdC [(.int .i64), .str, (.int .i64)] a1 H3 fun (c1 : Int × ByteArray × Int) =>
            Br (eqL [(.int .i64), .str, (.int .i64)] (c1.1, c1.2.1, c1.2.2) ((1, (⟨#[120, 49]⟩ : ByteArray), 0))) (
              IxA 3 r1.1 3 fun a2 =>
              LdC [(.int .i64), .str, (.int .i64)] a2 H3 fun (c2 : Int × ByteArray × Int) =>
              Br (eqL [(.int .i64), .str, (.int .i64)] (c2.1, c2.2.1, c2.2.2) ((2, (⟨#[49, 50]⟩ : ByteArray), 6))) (
                IxA 3 r1.1 5 fun a3 =>
                LdC [(.int .i64), .str, (.int .i64)] a3 H3 fun (c3 : Int × ByteArray × Int) =>
                Br (eqL [(.int .i64), .str, (.int .i64)] (c3.1, c3.2.1, c3.2.2) (0, ByteArray.empty, 15)) (
                  Br (r3.1 == 2) (
                    kk1 (r3.2 == 2) H3) (
                    kk1 false H3)) (
                  kk1 false H3)) (
                kk1 false H3)) (
              kk1 false H3)) (
            kk1 false H3)) (
          kk1 false H3)) (
        kk1 false H3)) fun j1 H4 =>
    k j1 H4
def h_hindcastlaw09_shown : Hint := (.two .no (.two .no (.two .no (.two .no (.two (.join [(0, (.c .bool))] .no) .no)))))
theorem e_hindcastlaw09_shown  (H : Heap) (k : Bool → Heap → Prop) : EFun Pg Tryd.f8 h_hindcastlaw09_shown [] (.one (.c .bool)) H k = v_hindcastlaw09_shown  H k := by kernel_rfl
theorem c_hindcastlaw09_shown  {H : Heap} {k : Bool → Heap → Prop} (h : v_hindcastlaw09_shown  H k) : CallT Pg f_hindcastlaw09_shown [] (.one (.c .bool)) H k :=
  call_of_E Pg_mixed Tryd.func8 (by kernel_rfl) (by kernel_rfl) (by kernel_rfl) (by kernel_rfl) ((e_hindcastlaw09_shown  H k).symm ▸ h)
/-- hindcast/lex.Lex -/
def v_lex_Lex (src_ : ByteArray) (H : Heap) (k : Sl × Value → Heap → Prop) : Prop :=
    Br (decide ((src_.size : Int) > 8000)) (
      CallT Pg f_lex_fault [.int .i64 8000, .int .i64 102] (.one (.c .ptr)) H fun (r1 : Option Addr) H1 =>
      k ((⟨none, 0, 0⟩, (.iface T_P_api_Fault (.pointer r1)))) H1) (
      Nw #[.string src_, .int .i64 0, .slice none 0 0] T_lex_reader H fun b1 H2 =>
      CallT Pg f_lex_reader_all [.pointer (some (adr b1))] (.one (.c .ptr)) H2 fun (r2 : Option Addr) H3 =>
      Br (!r2.isNone) (
        k ((⟨none, 0, 0⟩, (.iface T_P_api_Fault (.pointer r2)))) H3) (
        NilCk (some (adr b1)) fun a1 =>
        Ld .sl (a1.add 2) H3 fun (x1 : Sl) =>
        k ((x1, (.nilIface))) H3))
def h_lex_Lex : Hint := .no
theorem e_lex_Lex (src_ : ByteArray) (H : Heap) (k : Sl × Value → Heap → Prop) : EFun Pg Tryd.f9 h_lex_Lex [.string src_] (.tup [(.c .sl), (.c .raw)]) H k = v_lex_Lex src_ H k := by kernel_rfl
theorem c_lex_Lex (src_ : ByteArray) {H : Heap} {k : Sl × Value → Heap → Prop} (h : v_lex_Lex src_ H k) : CallT Pg f_lex_Lex [.string src_] (.tup [(.c .sl), (.c .raw)]) H k :=
  call_of_E Pg_mixed Tryd.func9 (by kernel_rfl) (by kernel_rfl) (by kernel_rfl) (by kernel_rfl) ((e_lex_Lex src_ H k).symm ▸ h)
/-- hindcast/hindcastlaw09.same -/
def v_hindcastlaw09_same (t0_ : Sl) (t1_ : Value) (t2_ : ByteArray) (H : Heap) (k : Bool → Heap → Prop) : Prop :=
    CallT Pg f_hindcastref09_Lex [.string t2_] (.tup [(.c .sl), (.c (.int .i64)), (.c (.int .i64))]) H fun (r1 : Sl × Int × Int) H1 =>
    Jn (σ := Bool) /- t30 -/ (fun kk1 =>
      Br ((t0_.len : Int) != (r1.1.len : Int)) (
        kk1 true H1) (
        IfNil t1_ fun e1 =>
        kk1 (!(e1 == (r1.2.2 == 0))) H1)) fun j1 H2 =>
    Br j1 (
      k false H2) (
      LoopT (σ := Int) /- t10 -/ (fun next1 s1 H3 =>
        Br (decide (s1 < (t0_.len : Int))) (
          IxA 3 t0_ s1 fun a1 =>
          LdC [(.int .i64), .str, (.int .i64)] a1 H3 fun (c1 : Int × ByteArray × Int) =>
          IxA 3 r1.1 s1 fun a2 =>
          LdC [(.int .i64), .str, (.int .i64)] a2 H3 fun (c2 : Int × ByteArray × Int) =>
          Br (!(eqL [(.int .i64), .str, (.int .i64)] (c1.1, c1.2.1, c1.2.2) (c2.1, c2.2.1, c2.2.2))) (
            k false H3) (
            Lt (IntKind.wrap .i64 (s1 + 1)) fun t1 =>
            next1 t1 H3)) (
          IfNil t1_ fun e2 =>
          Br e2 (
            k true H3) (
            TAs (.c .ptr) T_P_api_Fault none t1_ fun (x1 : Option Addr) e3 =>
            Jn (σ := Bool) /- t6 -/ (fun kk2 =>
              Br e3 (
                Br (!x1.isNone) (
                  NilCk x1 fun a3 =>
                  Ld (.int .i64) a3 H3 fun (x2 : Int) =>
                  Br (x2 == r1.2.1) (
                    NilCk x1 fun a4 =>
                    Ld (.int .i64) (a4.add 1) H3 fun (x3 : Int) =>
                    kk2 (x3 == r1.2.2) H3) (
                    kk2 false H3)) (
                  kk2 false H3)) (
                kk2 false H3)) fun j2 H4 =>
            k j2 H4))) 0 H2)
def h_hindcastlaw09_same : Hint := (.two .no (.two .no (.two (.two (.join [(30, (.c .bool))] .no) .no) (.two (.two .no (.one (.loop [(10, (.c (.int .i64)))] .no))) (.two .no (.two .no (.two (.join [(6, (.c .bool))] .no) .no)))))))
theorem e_hindcastlaw09_same (t0_ : Sl) (t1_ : Value) (t2_ : ByteArray) (H : Heap) (k : Bool → Heap → Prop) : EFun Pg Tryd.f10 h_hindcastlaw09_same [.slice t0_.a t0_.len t0_.cap, t1_, .string t2_] (.one (.c .bool)) H k = v_hindcastlaw09_same t0_ t1_ t2_ H k := by kernel_rfl
theorem c_hindcastlaw09_same (t0_ : Sl) (t1_ : Value) (t2_ : ByteArray) {H : Heap} {k : Bool → Heap → Prop} (h : v_hindcastlaw09_same t0_ t1_ t2_ H k) : CallT Pg f_hindcastlaw09_same [.slice t0_.a t0_.len t0_.cap, t1_, .string t2_] (.one (.c .bool)) H k :=
  call_of_E Pg_mixed Tryd.func10 (by kernel_rfl) (by kernel_rfl) (by kernel_rfl) (by kernel_rfl) ((e_hindcastlaw09_same t0_ t1_ t2_ H k).symm ▸ h)
/-- hindcast/hindcastlaw09.keep -/
def v_hindcastlaw09_keep (kept_ : Sl) (l_ : Sl) (H : Heap) (k : Sl → Heap → Prop) : Prop :=
    Lt (IntKind.wrap .i64 (7000 + (kept_.len : Int))) fun t1 =>
    LoopT (σ := Int) /- i -/ (fun next1 s1 H1 =>
      Br (decide (s1 < (l_.len : Int))) (
        IxA 3 l_ s1 fun a1 =>
        St (a1.add 0) (.int .i64 t1) H1 fun H2 =>
        St (a1.add 1) (.string ByteArray.empty) H2 fun H3 =>
        St (a1.add 2) (.int .i64 0) H3 fun H4 =>
        Lt (IntKind.wrap .i64 (s1 + 1)) fun t2 =>
        next1 t2 H4) (
        Nw #[.slice l_.a l_.len l_.cap, .int .i64 t1] T_hindcastlaw09_hold H1 fun b1 H5 =>
        App T_hindcastlaw09_hold 2 32 #[.slice none 0 0, .int .i64 0] kept_ ⟨some (adr b1), 1, 1⟩ H5 fun l1 H6 =>
        LoopT (σ := Sl × Sl × Int) /- kept, l, n -/ (fun next2 s2 H7 =>
          Br (decide (s2.2.2 < 70)) (
            Jn (σ := Sl × Sl) /- kept, l -/ (fun kk1 =>
              Nw #[.int .i64 t1, .string ByteArray.empty, .int .i64 0] T_api_Token H7 fun b2 H9 =>
              App T_api_Token 3 32 #[.int .i64 0, .string ByteArray.empty, .int .i64 0] s2.2.1 ⟨some (adr b2), 1, 1⟩ H9 fun l2 H10 =>
              Jn (σ := Bool) /-  -/ (fun kk2 =>
                Br (decide (s2.2.2 < 2)) (
                  kk2 true H10) (
                  kk2 (s2.2.2 == 69) H10)) fun j2 H11 =>
              Jn (σ := Sl) /- kept -/ (fun kk3 =>
                Br j2 (
                  Nw #[.slice l2.a l2.len l2.cap, .int .i64 t1] T_hindcastlaw09_hold H11 fun b3 H13 =>
                  App T_hindcastlaw09_hold 2 32 #[.slice none 0 0, .int .i64 0] s2.1 ⟨some (adr b3), 1, 1⟩ H13 fun l3 H14 =>
                  kk3 l3 H14) (
                  kk3 s2.1 H11)) fun j3 H12 =>
              kk1 (j3, l2) H12) fun j1 H8 =>
            Lt (IntKind.wrap .i64 (s2.2.2 + 1)) fun t3 =>
            next2 (j1.1, j1.2, t3) H8) (
            k s2.1 H7)) (l1, l_, 0) H6)) 0 H
def h_hindcastlaw09_keep : Hint := (.two .no (.two .no (.two (.two .no (.one (.loop [(6, (.c (.int .i64)))] .no))) (.two .no (.two (.two .no (.one (.loop [(0, (.c .sl)), (1, (.c .sl)), (7, (.c (.int .i64)))] (.two .no (.two (.join [(0, (.c .sl)), (1, (.c .sl))] (.one (.two .no (.two (.join [(42, (.c .bool))] .no) (.join [(0, (.c .sl))] .no))))) .no))))) .no)))))
theorem e_hindcastlaw09_keep (kept_ : Sl) (l_ : Sl) (H : Heap) (k : Sl → Heap → Prop) : EFun Pg Tryd.f11 h_hindcastlaw09_keep [.slice kept_.a kept_.len kept_.cap, .slice l_.a l_.len l_.cap] (.one (.c .sl)) H k = v_hindcastlaw09_keep kept_ l_ H k := by kernel_rfl
theorem c_hindcastlaw09_keep (kept_ : Sl) (l_ : Sl) {H : Heap} {k : Sl → Heap → Prop} (h : v_hindcastlaw09_keep kept_ l_ H k) : CallT Pg f_hindcastlaw09_keep [.slice kept_.a kept_.len kept_.cap, .slice l_.a l_.len l_.cap] (.one (.c .sl)) H k :=
  call_of_E Pg_mixed Tryd.func11 (by kernel_rfl) (by kernel_rfl) (by kernel_rfl) (by kernel_rfl) ((e_hindcastlaw09_keep kept_ l_ H k).symm ▸ h)
/-- hindcast/hindcastlaw09.looks -/
def v_hindcastlaw09_looks (kept_ : Sl) (H : Heap) (k : Bool → Heap → Prop) : Prop :=
    LoopT (σ := Int) /- i -/ (fun next1 s1 H1 =>
      Br (decide (s1 < (kept_.len : Int))) (
        LoopT (σ := Int) /- k -/ (fun next2 s2 H2 =>
          IxA 2 kept_ s1 fun a1 =>
          Ld .sl a1 H2 fun (x1 : Sl) =>
          Br (decide (s2 < (x1.len : Int))) (
            IxA 2 kept_ s1 fun a2 =>
            Ld .sl a2 H2 fun (x2 : Sl) =>
            IxA 3 x2 s2 fun a3 =>
            LdC [(.int .i64), .str, (.int .i64)] a3 H2 fun (c1 : Int × ByteArray × Int) =>
            IxA 2 kept_ s1 fun a4 =>
            Ld (.int .i64) (a4.add 1) H2 fun (x3 : Int) =>
            Br (!(eqL [(.int .i64), .str, (.int .i64)] (c1.1, c1.2.1, c1.2.2) (x3, ByteArray.empty, 0))) (
              k false H2) (
              Lt (IntKind.wrap .i64 (s2 + 1)) fun t1 =>
              next2 t1 H2)) (
            Lt (IntKind.wrap .i64 (s1 + 1)) fun t2 =>
            next1 t2 H2)) 0 H1) (
        k true H1)) 0 H
def h_hindcastlaw09_looks : Hint := (.two .no (.two (.two .no (.one (.loop [(3, (.c (.int .i64)))] (.two .no (.two (.one (.two .no (.one (.loop [(4, (.c (.int .i64)))] .no)))) .no))))) .no))
theorem e_hindcastlaw09_looks (kept_ : Sl) (H : Heap) (k : Bool → Heap → Prop) : EFun Pg Tryd.f12 h_hindcastlaw09_looks [.slice kept_.a kept_.len kept_.cap] (.one (.c .bool)) H k = v_hindcastlaw09_looks kept_ H k := by kernel_rfl
theorem c_hindcastlaw09_looks (kept_ : Sl) {H : Heap} {k : Bool → Heap → Prop} (h : v_hindcastlaw09_looks kept_ H k) : CallT Pg f_hindcastlaw09_looks [.slice kept_.a kept_.len kept_.cap] (.one (.c .bool)) H k :=
  call_of_E Pg_mixed Tryd.func12 (by kernel_rfl) (by kernel_rfl) (by kernel_rfl) (by kernel_rfl) ((e_hindcastlaw09_looks kept_ H k).symm ▸ h)
/-- hindcast/lex.Place -/
def v_lex_Place (src_ : ByteArray) (at_ : Int) (H : Heap) (k : Int × Int → Heap → Prop) : Prop :=
    StrS src_ 0 (if 0 < if (src_.size : Int) < at_ then (src_.size : Int) else at_ then if (src_.size : Int) < at_ then (src_.size : Int) else at_ else 0) fun y1 =>
    CallT Pg f_strings_Count [.string y1, .string (⟨#[10]⟩ : ByteArray)] (.one (.c (.int .i64))) H fun (r1 : Int) H1 =>
    Lt (IntKind.wrap .i64 (r1 + 1)) fun t1 =>
    CallT Pg f_strings_LastIndexByte [.string y1, .int .u8 10] (.one (.c (.int .i64))) H1 fun (r2 : Int) H2 =>
    Lt (IntKind.wrap .i64 ((y1.size : Int) - r2)) fun t2 =>
    k (t1, t2) H2
def h_lex_Place : Hint := .no
theorem e_lex_Place (src_ : ByteArray) (at_ : Int) (H : Heap) (k : Int × Int → Heap → Prop) : EFun Pg Tryd.f13 h_lex_Place [.string src_, .int .i64 at_] (.tup [(.c (.int .i64)), (.c (.int .i64))]) H k = v_lex_Place src_ at_ H k := by kernel_rfl
theorem c_lex_Place (src_ : ByteArray) (at_ : Int) {H : Heap} {k : Int × Int → Heap → Prop} (h : v_lex_Place src_ at_ H k) : CallT Pg f_lex_Place [.string src_, .int .i64 at_] (.tup [(.c (.int .i64)), (.c (.int .i64))]) H k :=
  call_of_E Pg_mixed Tryd.func13 (by kernel_rfl) (by kernel_rfl) (by kernel_rfl) (by kernel_rfl) ((e_lex_Place src_ at_ H k).symm ▸ h)
/-- hindcast/hindcastref09.Place -/
def v_hindcastref09_Place (src_ : ByteArray) (at_ : Int) (H : Heap) (k : Int × Int → Heap → Prop) : Prop :=
    LoopT (σ := Int × Int × Int) /- line, column, i -/ (fun next1 s1 H1 =>
      Br (decide (s1.2.2 < (if 0 < if (src_.size : Int) < at_ then (src_.size : Int) else at_ then if (src_.size : Int) < at_ then (src_.size : Int) else at_ else 0))) (
        Jn (σ := Int × Int) /- line, column -/ (fun kk1 =>
          Lt (IntKind.wrap .i64 (s1.2.1 + 1)) fun t1 =>
          StrI src_ s1.2.2 fun b1 =>
          Jn (σ := Int × Int) /- line, column -/ (fun kk2 =>
            Br (b1 == 10) (
              Lt (IntKind.wrap .i64 (s1.1 + 1)) fun t2 =>
              kk2 (t2, 1) H1) (
              kk2 (s1.1, t1) H1)) fun j2 H3 =>
          kk1 (j2.1, j2.2) H3) fun j1 H2 =>
        Lt (IntKind.wrap .i64 (s1.2.2 + 1)) fun t3 =>
        next1 (j1.1, j1.2, t3) H2) (
        k (s1.1, s1.2.1) H1)) (1, 1, 0) H
def h_hindcastref09_Place : Hint := (.two .no (.two .no (.two .no (.two .no (.two (.two .no (.one (.loop [(6, (.c (.int .i64))), (7, (.c (.int .i64))), (8, (.c (.int .i64)))] (.two .no (.two (.join [(6, (.c (.int .i64))), (7, (.c (.int .i64)))] (.one (.two .no (.two .no (.join [(6, (.c (.int .i64))), (7, (.c (.int .i64)))] .no))))) .no))))) .no)))))
theorem e_hindcastref09_Place (src_ : ByteArray) (at_ : Int) (H : Heap) (k : Int × Int → Heap → Prop) : EFun Pg Tryd.f14 h_hindcastref09_Place [.string src_, .int .i64 at_] (.tup [(.c (.int .i64)), (.c (.int .i64))]) H k = v_hindcastref09_Place src_ at_ H k := by kernel_rfl
theorem c_hindcastref09_Place (src_ : ByteArray) (at_ : Int) {H : Heap} {k : Int × Int → Heap → Prop} (h : v_hindcastref09_Place src_ at_ H k) : CallT Pg f_hindcastref09_Place [.string src_, .int .i64 at_] (.tup [(.c (.int .i64)), (.c (.int .i64))]) H k :=
  call_of_E Pg_mixed Tryd.func14 (by kernel_rfl) (by kernel_rfl) (by kernel_rfl) (by kernel_rfl) ((e_hindcastref09_Place src_ at_ H k).symm ▸ h)
/-- hindcast/hindcastref09.Words -/
def v_hindcastref09_Words  (H : Heap) (k : Sl → Heap → Prop) : Prop :=
    Nw #[.string (⟨#[97, 98, 115]⟩ : ByteArray), .string (⟨#[97, 100, 100]⟩ : ByteArray), .string (⟨#[100, 105, 101]⟩ : ByteArray), .string (⟨#[101, 108, 115, 101]⟩ : ByteArray), .string (⟨#[101, 109, 105, 116]⟩ : ByteArray), .string (⟨#[102, 117, 110, 99]⟩ : ByteArray), .string (⟨#[104, 97, 115]⟩ : ByteArray), .string (⟨#[105, 102]⟩ : ByteArray), .string (⟨#[105, 110, 112, 117, 116]⟩ : ByteArray), .string (⟨#[108, 101, 116]⟩ : ByteArray), .string (⟨#[109, 97, 120]⟩ : ByteArray), .string (⟨#[109, 101]⟩ : ByteArray), .string (⟨#[109, 105, 110]⟩ : ByteArray), .string (⟨#[114, 97, 110, 100]⟩ : ByteArray), .string (⟨#[114, 101, 97, 100, 115]⟩ : ByteArray), .string (⟨#[114, 101, 109, 111, 118, 101]⟩ : ByteArray), .string (⟨#[114, 101, 112, 101, 97, 116]⟩ : ByteArray), .string (⟨#[114, 101, 116, 117, 114, 110]⟩ : ByteArray), .string (⟨#[115, 112, 97, 119, 110]⟩ : ByteArray), .string (⟨#[115, 116, 111, 112]⟩ : ByteArray), .string (⟨#[115, 121, 115, 116, 101, 109]⟩ : ByteArray), .string (⟨#[116, 105, 99, 107]⟩ : ByteArray), .string (⟨#[119, 104, 105, 108, 101]⟩ : ByteArray), .string (⟨#[119, 105, 116, 104]⟩ : ByteArray), .string (⟨#[119, 105, 116, 104, 111, 117, 116]⟩ : ByteArray), .string (⟨#[119, 114, 105, 116, 101, 115]⟩ : ByteArray)] T_string H fun b1 H1 =>
    k ⟨some (adr b1), 26, 26⟩ H1
def h_hindcastref09_Words : Hint := .no
theorem e_hindcastref09_Words  (H : Heap) (k : Sl → Heap → Prop) : EFun Pg Tryd.f15 h_hindcastref09_Words [] (.one (.c .sl)) H k = v_hindcastref09_Words  H k := by kernel_rfl
theorem c_hindcastref09_Words  {H : Heap} {k : Sl → Heap → Prop} (h : v_hindcastref09_Words  H k) : CallT Pg f_hindcastref09_Words [] (.one (.c .sl)) H k :=
  call_of_E Pg_mixed Tryd.func15 (by kernel_rfl) (by kernel_rfl) (by kernel_rfl) (by kernel_rfl) ((e_hindcastref09_Words  H k).symm ▸ h)
/-- hindcast/lex.Words -/
def v_lex_Words  (H : Heap) (k : Sl → Heap → Prop) : Prop :=
    CallT Pg f_strings_Fields [.string (⟨#[97, 98, 115, 32, 97, 100, 100, 32, 100, 105, 101, 32, 101, 108, 115, 101, 32, 101, 109, 105, 116, 32, 102, 117, 110, 99, 32, 104, 97, 115, 32, 105, 102, 32, 105, 110, 112, 117, 116, 32, 108, 101, 116, 32, 109, 97, 120, 32, 109, 101, 32, 109, 105, 110, 32, 114, 97, 110, 100, 32, 114, 101, 97, 100, 115, 32, 114, 101, 109, 111, 118, 101, 32, 114, 101, 112, 101, 97, 116, 32, 114, 101, 116, 117, 114, 110, 32, 115, 112, 97, 119, 110, 32, 115, 116, 111, 112, 32, 115, 121, 115, 116, 101, 109, 32, 116, 105, 99, 107, 32, 119, 104, 105, 108, 101, 32, 119, 105, 116, 104, 32, 119, 105, 116, 104, 111, 117, 116, 32, 119, 114, 105, 116, 101, 115]⟩ : ByteArray)] (.one (.c .sl)) H fun (r1 : Sl) H1 =>
    k r1 H1
def h_lex_Words : Hint := .no
theorem e_lex_Words  (H : Heap) (k : Sl → Heap → Prop) : EFun Pg Tryd.f16 h_lex_Words [] (.one (.c .sl)) H k = v_lex_Words  H k := by kernel_rfl
theorem c_lex_Words  {H : Heap} {k : Sl → Heap → Prop} (h : v_lex_Words  H k) : CallT Pg f_lex_Words [] (.one (.c .sl)) H k :=
  call_of_E Pg_mixed Tryd.func16 (by kernel_rfl) (by kernel_rfl) (by kernel_rfl) (by kernel_rfl) ((e_lex_Words  H k).symm ▸ h)
/-- hindcast/hindcastlaw09.pick -/
def v_hindcastlaw09_pick (c_ : Int) (n_ : Int) (H : Heap) (k : Int → Heap → Prop) : Prop :=
    Jn (σ := Int) /- c -/ (fun kk1 =>
      Br (decide (c_ < 0)) (
        Lt (IntKind.wrap .i64 (c_ + 1)) fun t1 =>
        kk1 (IntKind.wrap .i64 (0 - t1)) H) (
        kk1 c_ H)) fun j1 H1 =>
    Rem j1 n_ fun t2 =>
    k t2 H1
def h_hindcastlaw09_pick : Hint := (.two .no (.two (.two .no (.join [(0, (.c (.int .i64)))] .no)) .no))
theorem e_hindcastlaw09_pick (c_ : Int) (n_ : Int) (H : Heap) (k : Int → Heap → Prop) : EFun Pg Tryd.f17 h_hindcastlaw09_pick [.int .i64 c_, .int .i64 n_] (.one (.c (.int .i64))) H k = v_hindcastlaw09_pick c_ n_ H k := by kernel_rfl
theorem c_hindcastlaw09_pick (c_ : Int) (n_ : Int) {H : Heap} {k : Int → Heap → Prop} (h : v_hindcastlaw09_pick c_ n_ H k) : CallT Pg f_hindcastlaw09_pick [.int .i64 c_, .int .i64 n_] (.one (.c (.int .i64))) H k :=
  call_of_E Pg_mixed Tryd.func17 (by kernel_rfl) (by kernel_rfl) (by kernel_rfl) (by kernel_rfl) ((e_hindcastlaw09_pick c_ n_ H k).symm ▸ h)
/-- hindcast/lex.fault -/
def v_lex_fault (at_ : Int) (e_ : Int) (H : Heap) (k : Option Addr → Heap → Prop) : Prop :=
    Nw #[.int .i64 at_, .int .i64 e_] T_api_Fault H fun b1 H1 =>
    k (some (adr b1)) H1
def h_lex_fault : Hint := .no
theorem e_lex_fault (at_ : Int) (e_ : Int) (H : Heap) (k : Option Addr → Heap → Prop) : EFun Pg Tryd.f18 h_lex_fault [.int .i64 at_, .int .i64 e_] (.one (.c .ptr)) H k = v_lex_fault at_ e_ H k := by kernel_rfl
theorem c_lex_fault (at_ : Int) (e_ : Int) {H : Heap} {k : Option Addr → Heap → Prop} (h : v_lex_fault at_ e_ H k) : CallT Pg f_lex_fault [.int .i64 at_, .int .i64 e_] (.one (.c .ptr)) H k :=
  call_of_E Pg_mixed Tryd.func18 (by kernel_rfl) (by kernel_rfl) (by kernel_rfl) (by kernel_rfl) ((e_lex_fault at_ e_ H k).symm ▸ h)
/-- (*hindcast/lex.reader).all -/
def v_lex_reader_all (r_ : Option Addr) (H : Heap) (k : Option Addr → Heap → Prop) : Prop :=
    JumpT (σ := Option Addr) /- f -/ (fun jump1 =>
      CallT Pg f_lex_reader_skip [.pointer r_] (.one (.c .ptr)) H fun (r1 : Option Addr) H1 =>
      Br (!r1.isNone) (
        k r1 H1) (
        NilCk r_ fun a1 =>
        Ld (.int .i64) (a1.add 1) H1 fun (x1 : Int) =>
        NilCk r_ fun a2 =>
        Ld .str a2 H1 fun (x2 : ByteArray) =>
        Br (x1 == (x2.size : Int)) (
          jump1 1 r1 H1) (
          NilCk r_ fun a3 =>
          Ld .str a3 H1 fun (x3 : ByteArray) =>
          NilCk r_ fun a4 =>
          Ld (.int .i64) (a4.add 1) H1 fun (x4 : Int) =>
          StrI x3 x4 fun b1 =>
          CallT Pg f_lex_letter [.int .u8 b1] (.one (.c .bool)) H1 fun (r2 : Bool) H2 =>
          Br r2 (
            jump1 2 r1 H2) (
            CallT Pg f_lex_digit [.int .u8 b1] (.one (.c .bool)) H2 fun (r3 : Bool) H3 =>
            Br r3 (
              jump1 3 r1 H3) (
              CallT Pg f_lex_reader_symbol [.pointer r_] (.one (.c .ptr)) H3 fun (r4 : Option Addr) H4 =>
              jump1 4 r4 H4))))) [(0, fun jump2 s1 H5 =>
      CallT Pg f_lex_reader_skip [.pointer r_] (.one (.c .ptr)) H5 fun (r5 : Option Addr) H6 =>
      Br (!r5.isNone) (
        k r5 H6) (
        NilCk r_ fun a5 =>
        Ld (.int .i64) (a5.add 1) H6 fun (x5 : Int) =>
        NilCk r_ fun a6 =>
        Ld .str a6 H6 fun (x6 : ByteArray) =>
        Br (x5 == (x6.size : Int)) (
          jump2 1 r5 H6) (
          NilCk r_ fun a7 =>
          Ld .str a7 H6 fun (x7 : ByteArray) =>
          NilCk r_ fun a8 =>
          Ld (.int .i64) (a8.add 1) H6 fun (x8 : Int) =>
          StrI x7 x8 fun b2 =>
          CallT Pg f_lex_letter [.int .u8 b2] (.one (.c .bool)) H6 fun (r6 : Bool) H7 =>
          Br r6 (
            jump2 2 r5 H7) (
            CallT Pg f_lex_digit [.int .u8 b2] (.one (.c .bool)) H7 fun (r7 : Bool) H8 =>
            Br r7 (
              jump2 3 r5 H8) (
              CallT Pg f_lex_reader_symbol [.pointer r_] (.one (.c .ptr)) H8 fun (r8 : Option Addr) H9 =>
              jump2 4 r8 H9))))),
      (1, fun jump3 s2 H10 =>
      CallT Pg f_lex_reader_add [.pointer r_, .int .i64 0, .int .i64 0] (.tup []) H10 fun (r9 : Unit) H11 =>
      k none H11),
      (2, fun jump4 s3 H12 =>
      CallT Pg f_lex_reader_word [.pointer r_] (.one (.c .ptr)) H12 fun (r10 : Option Addr) H13 =>
      jump4 4 r10 H13),
      (3, fun jump5 s4 H14 =>
      CallT Pg f_lex_reader_number [.pointer r_] (.one (.c .ptr)) H14 fun (r11 : Option Addr) H15 =>
      Br (!r11.isNone) (
        k r11 H15) (
        jump5 0 r11 H15)),
      (4, fun jump6 s5 H16 =>
      Br (!s5.isNone) (
        k s5 H16) (
        jump6 0 s5 H16))]
def h_lex_reader_all : Hint := (.two .no (.jump [(3, (.c .ptr))] [0, 1, 2, 3, 4] .no (.two .no (.two .no (.two .no (.two .no (.two .no .no)))))))
theorem e_lex_reader_all (r_ : Option Addr) (H : Heap) (k : Option Addr → Heap → Prop) : EFun Pg Tryd.f19 h_lex_reader_all [.pointer r_] (.one (.c .ptr)) H k = v_lex_reader_all r_ H k := by kernel_rfl
theorem c_lex_reader_all (r_ : Option Addr) {H : Heap} {k : Option Addr → Heap → Prop} (h : v_lex_reader_all r_ H k) : CallT Pg f_lex_reader_all [.pointer r_] (.one (.c .ptr)) H k :=
  call_of_E Pg_mixed Tryd.func19 (by kernel_rfl) (by kernel_rfl) (by kernel_rfl) (by kernel_rfl) ((e_lex_reader_all r_ H k).symm ▸ h)
/-- hindcast/hindcastref09.Lex -/
def v_hindcastref09_Lex (t0_ : ByteArray) (H : Heap) (k : Sl × Int × Int → Heap → Prop) : Prop :=
    Br (decide ((t0_.size : Int) > 8000)) (
      k (⟨none, 0, 0⟩, 8000, 102) H) (
      LoopT (σ := Sl × Int) /- t5, t6 -/ (fun next1 s1 H1 =>
        Br (decide (s1.2 < (t0_.size : Int))) (
          Jn (σ := Sl × Int) /- t5, t6 -/ (fun kk1 =>
            StrI t0_ s1.2 fun b1 =>
            Jn (σ := Bool) /- t38 -/ (fun kk2 =>
              Br (b1 == 32) (
                kk2 true H1) (
                Br (b1 == 9) (
                  kk2 true H1) (
                  Br (b1 == 10) (
                    kk2 true H1) (
                    kk2 (b1 == 13) H1)))) fun j2 H3 =>
            Br j2 (
              Lt (IntKind.wrap .i64 (s1.2 + 1)) fun t1 =>
              kk1 (s1.1, t1) H3) (
              CallT Pg f_hindcastref09_remark [.string t0_, .int .i64 s1.2] (.one (.c (.int .i64))) H3 fun (r1 : Int) H4 =>
              Br (decide (r1 < 0)) (
                k (⟨none, 0, 0⟩, s1.2, 90) H4) (
                Br (decide (r1 > s1.2)) (
                  kk1 (s1.1, r1) H4) (
                  CallT Pg f_hindcastref09_letter [.int .u8 b1] (.one (.c .bool)) H4 fun (r2 : Bool) H5 =>
                  CallT Pg f_hindcastref09_digit [.int .u8 b1] (.one (.c .bool)) H5 fun (r3 : Bool) H6 =>
                  CallT Pg f_hindcastref09_sign [.string t0_, .int .i64 s1.2] (.one (.c .str)) H6 fun (r4 : ByteArray) H7 =>
                  Jn (σ := Sl × Int) /- t5, t8 -/ (fun kk3 =>
                    Jn (σ := Sl × Int) /- t5, t8 -/ (fun kk4 =>
                      Br r2 (
                        CallT Pg f_hindcastref09_word [.string t0_, .int .i64 s1.2] (.one (.c (.int .i64))) H7 fun (r5 : Int) H10 =>
                        Lt (IntKind.wrap .i64 (r5 - s1.2)) fun t2 =>
                        Br (decide (t2 > 16)) (
                          k (⟨none, 0, 0⟩, s1.2, 90) H10) (
                          StrS t0_ s1.2 r5 fun y1 =>
                          Nw #[.int .i64 1, .string y1, .int .i64 s1.2] T_api_Token H10 fun b2 H11 =>
                          App T_api_Token 3 32 #[.int .i64 0, .string ByteArray.empty, .int .i64 0] s1.1 ⟨some (adr b2), 1, 1⟩ H11 fun l1 H12 =>
                          kk4 (l1, r5) H12)) (
                        Jn (σ := Sl × Int) /- t5, t8 -/ (fun kk5 =>
                          Br r3 (
                            CallT Pg f_hindcastref09_number [.string t0_, .int .i64 s1.2] (.tup [(.c (.int .i64)), (.c .bool)]) H7 fun (r6 : Int × Bool) H14 =>
                            Br (!r6.2) (
                              k (⟨none, 0, 0⟩, s1.2, 90) H14) (
                              Jn (σ := Unit) /-  -/ (fun kk6 =>
                                Br (decide (r6.1 < (t0_.size : Int))) (
                                  StrI t0_ r6.1 fun b3 =>
                                  CallT Pg f_hindcastref09_letter [.int .u8 b3] (.one (.c .bool)) H14 fun (r7 : Bool) H16 =>
                                  Jn (σ := Bool) /- t104 -/ (fun kk7 =>
                                    Br r7 (
                                      kk7 true H16) (
                                      StrI t0_ r6.1 fun b4 =>
                                      kk7 (b4 == 95) H16)) fun j7 H17 =>
                                  Br j7 (
                                    k (⟨none, 0, 0⟩, r6.1, 90) H17) (
                                    kk6 () H17)) (
                                  kk6 () H14)) fun j6 H15 =>
                              StrS t0_ s1.2 r6.1 fun y2 =>
                              Nw #[.int .i64 2, .string y2, .int .i64 s1.2] T_api_Token H15 fun b5 H18 =>
                              App T_api_Token 3 32 #[.int .i64 0, .string ByteArray.empty, .int .i64 0] s1.1 ⟨some (adr b5), 1, 1⟩ H18 fun l2 H19 =>
                              kk5 (l2, r6.1) H19)) (
                            Br (!(r4.toList == (⟨#[]⟩ : ByteArray).toList)) (
                              Lt (IntKind.wrap .i64 (s1.2 + (r4.size : Int))) fun t3 =>
                              Nw #[.int .i64 3, .string r4, .int .i64 s1.2] T_api_Token H7 fun b6 H20 =>
                              App T_api_Token 3 32 #[.int .i64 0, .string ByteArray.empty, .int .i64 0] s1.1 ⟨some (adr b6), 1, 1⟩ H20 fun l3 H21 =>
                              kk5 (l3, t3) H21) (
                              k (⟨none, 0, 0⟩, s1.2, 90) H7))) fun j5 H13 =>
                        kk4 (j5.1, j5.2) H13)) fun j4 H9 =>
                    kk3 (j4.1, j4.2) H9) fun j3 H8 =>
                  kk1 (j3.1, j3.2) H8)))) fun j1 H2 =>
          next1 (j1.1, j1.2) H2) (
          Nw #[.int .i64 0, .string ByteArray.empty, .int .i64 (t0_.size : Int)] T_api_Token H1 fun b7 H22 =>
          App T_api_Token 3 32 #[.int .i64 0, .string ByteArray.empty, .int .i64 0] s1.1 ⟨some (adr b7), 1, 1⟩ H22 fun l4 H23 =>
          k (l4, 0, 0) H23)) (⟨none, 0, 0⟩, 0) H)
def h_hindcastref09_Lex : Hint := (.two .no (.two .no (.two .no (.two .no (.two (.one (.loop [(5, (.c .sl)), (6, (.c (.int .i64)))] (.two .no (.join [(5, (.c .sl)), (6, (.c (.int .i64)))] (.one (.two .no (.two (.two (.join [(38, (.c .bool))] .no) .no) (.two .no (.two .no (.two .no (.two .no (.two .no (.two .no (.two (.join [(5, (.c .sl)), (8, (.c (.int .i64)))] (.one (.two .no (.join [(5, (.c .sl)), (8, (.c (.int .i64)))] (.two .no (.two .no (.join [(5, (.c .sl)), (8, (.c (.int .i64)))] (.two (.two .no (.two .no (.two .no (.two (.two .no (.join [] (.two (.two .no (.two (.join [(104, (.c .bool))] .no) .no)) .no))) .no)))) .no)))))))) .no)))))))))))))) .no)))))
theorem e_hindcastref09_Lex (t0_ : ByteArray) (H : Heap) (k : Sl × Int × Int → Heap → Prop) : EFun Pg Tryd.f20 h_hindcastref09_Lex [.string t0_] (.tup [(.c .sl), (.c (.int .i64)), (.c (.int .i64))]) H k = v_hindcastref09_Lex t0_ H k := by kernel_rfl
theorem c_hindcastref09_Lex (t0_ : ByteArray) {H : Heap} {k : Sl × Int × Int → Heap → Prop} (h : v_hindcastref09_Lex t0_ H k) : CallT Pg f_hindcastref09_Lex [.string t0_] (.tup [(.c .sl), (.c (.int .i64)), (.c (.int .i64))]) H k :=
  call_of_E Pg_mixed Tryd.func20 (by kernel_rfl) (by kernel_rfl) (by kernel_rfl) (by kernel_rfl) ((e_hindcastref09_Lex t0_ H k).symm ▸ h)
/-- (*hindcast/lex.reader).skip -/
def v_lex_reader_skip (t0_ : Option Addr) (H : Heap) (k : Option Addr → Heap → Prop) : Prop :=
    LoopT (σ := Unit) /-  -/ (fun next1 s1 H1 =>
      NilCk t0_ fun a1 =>
      Ld (.int .i64) (a1.add 1) H1 fun (x1 : Int) =>
      NilCk t0_ fun a2 =>
      Ld .str a2 H1 fun (x2 : ByteArray) =>
      Br (decide (x1 < (x2.size : Int))) (
        Jn (σ := Unit) /-  -/ (fun kk1 =>
          CallT Pg f_lex_reader_rest [.pointer t0_] (.one (.c .str)) H1 fun (r1 : ByteArray) H3 =>
          Jn (σ := Unit) /-  -/ (fun kk2 =>
            StrI r1 0 fun b1 =>
            CallT Pg f_strings_IndexByte [.string (⟨#[32, 9, 10, 13]⟩ : ByteArray), .int .u8 b1] (.one (.c (.int .i64))) H3 fun (r2 : Int) H5 =>
            Jn (σ := Unit) /-  -/ (fun kk3 =>
              Br (decide (r2 ≥ 0)) (
                NilCk t0_ fun a3 =>
                Ld (.int .i64) (a3.add 1) H5 fun (x3 : Int) =>
                Lt (IntKind.wrap .i64 (x3 + 1)) fun t1 =>
                NilCk t0_ fun a4 =>
                St (a4.add 1) (.int .i64 t1) H5 fun H7 =>
                kk3 () H7) (
                CallT Pg f_strings_HasPrefix [.string r1, .string (⟨#[47, 47]⟩ : ByteArray)] (.one (.c .bool)) H5 fun (r3 : Bool) H8 =>
                Jn (σ := Unit) /-  -/ (fun kk4 =>
                  Br r3 (
                    CallT Pg f_strings_Cut [.string r1, .string (⟨#[10]⟩ : ByteArray)] (.tup [(.c .str), (.c .str), (.c .bool)]) H8 fun (r4 : ByteArray × ByteArray × Bool) H10 =>
                    NilCk t0_ fun a5 =>
                    Ld (.int .i64) (a5.add 1) H10 fun (x4 : Int) =>
                    Lt (IntKind.wrap .i64 (x4 + (r4.1.size : Int))) fun t2 =>
                    NilCk t0_ fun a6 =>
                    St (a6.add 1) (.int .i64 t2) H10 fun H11 =>
                    kk4 () H11) (
                    CallT Pg f_strings_HasPrefix [.string r1, .string (⟨#[47, 42]⟩ : ByteArray)] (.one (.c .bool)) H8 fun (r5 : Bool) H12 =>
                    Br r5 (
                      StrS r1 2 (r1.size : Nat) fun y1 =>
                      CallT Pg f_strings_Cut [.string y1, .string (⟨#[42, 47]⟩ : ByteArray)] (.tup [(.c .str), (.c .str), (.c .bool)]) H12 fun (r6 : ByteArray × ByteArray × Bool) H13 =>
                      Br (!r6.2.2) (
                        NilCk t0_ fun a7 =>
                        Ld (.int .i64) (a7.add 1) H13 fun (x5 : Int) =>
                        CallT Pg f_lex_fault [.int .i64 x5, .int .i64 90] (.one (.c .ptr)) H13 fun (r7 : Option Addr) H14 =>
                        k r7 H14) (
                        NilCk t0_ fun a8 =>
                        Ld (.int .i64) (a8.add 1) H13 fun (x6 : Int) =>
                        Lt (IntKind.wrap .i64 (4 + (r6.1.size : Int))) fun t3 =>
                        Lt (IntKind.wrap .i64 (x6 + t3)) fun t4 =>
                        NilCk t0_ fun a9 =>
                        St (a9.add 1) (.int .i64 t4) H13 fun H15 =>
                        kk4 () H15)) (
                      k none H12))) fun j4 H9 =>
                kk3 () H9)) fun j3 H6 =>
            kk2 () H6) fun j2 H4 =>
          kk1 () H4) fun j1 H2 =>
        next1 () H2) (
        k none H1)) () H
def h_lex_reader_skip : Hint := (.two .no (.two (.one (.loop [] (.two .no (.join [] (.one (.two .no (.join [] (.one (.two .no (.join [] (.two .no (.two .no (.join [] .no))))))))))))) .no))
theorem e_lex_reader_skip (t0_ : Option Addr) (H : Heap) (k : Option Addr → Heap → Prop) : EFun Pg Tryd.f24 h_lex_reader_skip [.pointer t0_] (.one (.c .ptr)) H k = v_lex_reader_skip t0_ H k := by kernel_rfl
theorem c_lex_reader_skip (t0_ : Option Addr) {H : Heap} {k : Option Addr → Heap → Prop} (h : v_lex_reader_skip t0_ H k) : CallT Pg f_lex_reader_skip [.pointer t0_] (.one (.c .ptr)) H k :=
  call_of_E Pg_mixed Tryd.func24 (by kernel_rfl) (by kernel_rfl) (by kernel_rfl) (by kernel_rfl) ((e_lex_reader_skip t0_ H k).symm ▸ h)
/-- hindcast/lex.letter -/
def v_lex_letter (c_ : Int) (H : Heap) (k : Bool → Heap → Prop) : Prop :=
    Jn (σ := Bool) /-  -/ (fun kk1 =>
      Br (decide (c_ ≥ 97)) (
        Br (decide (c_ ≤ 122)) (
          kk1 true H) (
          Br (decide (c_ ≥ 65)) (
            kk1 (decide (c_ ≤ 90)) H) (
            kk1 false H))) (
        Br (decide (c_ ≥ 65)) (
          kk1 (decide (c_ ≤ 90)) H) (
          kk1 false H))) fun j1 H1 =>
    k j1 H1
def h_lex_letter : Hint := (.two .no (.two (.join [(2, (.c .bool))] .no) .no))
theorem e_lex_letter (c_ : Int) (H : Heap) (k : Bool → Heap → Prop) : EFun Pg Tryd.f25 h_lex_letter [.int .u8 c_] (.one (.c .bool)) H k = v_lex_letter c_ H k := by kernel_rfl
theorem c_lex_letter (c_ : Int) {H : Heap} {k : Bool → Heap → Prop} (h : v_lex_letter c_ H k) : CallT Pg f_lex_letter [.int .u8 c_] (.one (.c .bool)) H k :=
  call_of_E Pg_mixed Tryd.func25 (by kernel_rfl) (by kernel_rfl) (by kernel_rfl) (by kernel_rfl) ((e_lex_letter c_ H k).symm ▸ h)
/-- hindcast/lex.digit -/
def v_lex_digit (c_ : Int) (H : Heap) (k : Bool → Heap → Prop) : Prop :=
    Jn (σ := Bool) /-  -/ (fun kk1 =>
      Br (decide (c_ ≥ 48)) (
        kk1 (decide (c_ ≤ 57)) H) (
        kk1 false H)) fun j1 H1 =>
    k j1 H1
def h_lex_digit : Hint := (.two .no (.two (.join [(2, (.c .bool))] .no) .no))
theorem e_lex_digit (c_ : Int) (H : Heap) (k : Bool → Heap → Prop) : EFun Pg Tryd.f26 h_lex_digit [.int .u8 c_] (.one (.c .bool)) H k = v_lex_digit c_ H k := by kernel_rfl
theorem c_lex_digit (c_ : Int) {H : Heap} {k : Bool → Heap → Prop} (h : v_lex_digit c_ H k) : CallT Pg f_lex_digit [.int .u8 c_] (.one (.c .bool)) H k :=
  call_of_E Pg_mixed Tryd.func26 (by kernel_rfl) (by kernel_rfl) (by kernel_rfl) (by kernel_rfl) ((e_lex_digit c_ H k).symm ▸ h)
/-- (*hindcast/lex.reader).symbol -/
def v_lex_reader_symbol (r_ : Option Addr) (H : Heap) (k : Option Addr → Heap → Prop) : Prop :=
    CallT Pg f_lex_reader_sign [.pointer r_] (.one (.c (.int .i64))) H fun (r1 : Int) H1 =>
    Br (r1 == 0) (
      NilCk r_ fun a1 =>
      Ld (.int .i64) (a1.add 1) H1 fun (x1 : Int) =>
      CallT Pg f_lex_fault [.int .i64 x1, .int .i64 90] (.one (.c .ptr)) H1 fun (r2 : Option Addr) H2 =>
      k r2 H2) (
      CallT Pg f_lex_reader_add [.pointer r_, .int .i64 3, .int .i64 r1] (.tup []) H1 fun (r3 : Unit) H3 =>
      k none H3)
def h_lex_reader_symbol : Hint := .no
theorem e_lex_reader_symbol (r_ : Option Addr) (H : Heap) (k : Option Addr → Heap → Prop) : EFun Pg Tryd.f27 h_lex_reader_symbol [.pointer r_] (.one (.c .ptr)) H k = v_lex_reader_symbol r_ H k := by kernel_rfl
theorem c_lex_reader_symbol (r_ : Option Addr) {H : Heap} {k : Option Addr → Heap → Prop} (h : v_lex_reader_symbol r_ H k) : CallT Pg f_lex_reader_symbol [.pointer r_] (.one (.c .ptr)) H k :=
  call_of_E Pg_mixed Tryd.func27 (by kernel_rfl) (by kernel_rfl) (by kernel_rfl) (by kernel_rfl) ((e_lex_reader_symbol r_ H k).symm ▸ h)
/-- (*hindcast/lex.reader).word -/
def v_lex_reader_word (r_ : Option Addr) (H : Heap) (k : Option Addr → Heap → Prop) : Prop :=
    CallT Pg f_lex_reader_while [.pointer r_, .func (.func 49) #[] #[]] (.one (.c (.int .i64))) H fun (r1 : Int) H1 =>
    Br (decide (r1 > 16)) (
      NilCk r_ fun a1 =>
      Ld (.int .i64) (a1.add 1) H1 fun (x1 : Int) =>
      CallT Pg f_lex_fault [.int .i64 x1, .int .i64 90] (.one (.c .ptr)) H1 fun (r2 : Option Addr) H2 =>
      k r2 H2) (
      CallT Pg f_lex_reader_add [.pointer r_, .int .i64 1, .int .i64 r1] (.tup []) H1 fun (r3 : Unit) H3 =>
      k none H3)
def h_lex_reader_word : Hint := .no
theorem e_lex_reader_word (r_ : Option Addr) (H : Heap) (k : Option Addr → Heap → Prop) : EFun Pg Tryd.f28 h_lex_reader_word [.pointer r_] (.one (.c .ptr)) H k = v_lex_reader_word r_ H k := by kernel_rfl
theorem c_lex_reader_word (r_ : Option Addr) {H : Heap} {k : Option Addr → Heap → Prop} (h : v_lex_reader_word r_ H k) : CallT Pg f_lex_reader_word [.pointer r_] (.one (.c .ptr)) H k :=
  call_of_E Pg_mixed Tryd.func28 (by kernel_rfl) (by kernel_rfl) (by kernel_rfl) (by kernel_rfl) ((e_lex_reader_word r_ H k).symm ▸ h)
/-- (*hindcast/lex.reader).number -/
def v_lex_reader_number (t0_ : Option Addr) (H : Heap) (k : Option Addr → Heap → Prop) : Prop :=
    CallT Pg f_lex_reader_while [.pointer t0_, .func (.func 26) #[] #[]] (.one (.c (.int .i64))) H fun (r1 : Int) H1 =>
    NilCk t0_ fun a1 =>
    Ld .str a1 H1 fun (x1 : ByteArray) =>
    NilCk t0_ fun a2 =>
    Ld (.int .i64) (a2.add 1) H1 fun (x2 : Int) =>
    NilCk t0_ fun a3 =>
    Ld (.int .i64) (a3.add 1) H1 fun (x3 : Int) =>
    Lt (IntKind.wrap .i64 (x3 + r1)) fun t1 =>
    StrS x1 x2 t1 fun y1 =>
    CallT Pg f_strconv_ParseInt [.string y1, .int .i64 10, .int .i64 64] (.tup [(.c (.int .i64)), (.c .raw)]) H1 fun (r2 : Int × Value) H2 =>
    Jn (σ := Bool) /- t40 -/ (fun kk1 =>
      IfNil r2.2 fun e1 =>
      Br (!e1) (
        kk1 true H2) (
        Br (decide (r1 > 1)) (
          StrI y1 0 fun b1 =>
          kk1 (b1 == 48) H2) (
          kk1 false H2))) fun j1 H3 =>
    Br j1 (
      NilCk t0_ fun a4 =>
      Ld (.int .i64) (a4.add 1) H3 fun (x4 : Int) =>
      CallT Pg f_lex_fault [.int .i64 x4, .int .i64 90] (.one (.c .ptr)) H3 fun (r3 : Option Addr) H4 =>
      k r3 H4) (
      NilCk t0_ fun a5 =>
      Ld (.int .i64) (a5.add 1) H3 fun (x5 : Int) =>
      Lt (IntKind.wrap .i64 (x5 + r1)) fun t2 =>
      Jn (σ := Bool) /- t76 -/ (fun kk2 =>
        NilCk t0_ fun a6 =>
        Ld .str a6 H3 fun (x6 : ByteArray) =>
        Br (decide (t2 < (x6.size : Int))) (
          NilCk t0_ fun a7 =>
          Ld .str a7 H3 fun (x7 : ByteArray) =>
          StrI x7 t2 fun b2 =>
          CallT Pg f_lex_letter [.int .u8 b2] (.one (.c .bool)) H3 fun (r4 : Bool) H6 =>
          Br r4 (
            kk2 true H6) (
            NilCk t0_ fun a8 =>
            Ld .str a8 H6 fun (x8 : ByteArray) =>
            StrI x8 t2 fun b3 =>
            kk2 (b3 == 95) H6)) (
          kk2 false H3)) fun j2 H5 =>
      Br j2 (
        CallT Pg f_lex_fault [.int .i64 t2, .int .i64 90] (.one (.c .ptr)) H5 fun (r5 : Option Addr) H7 =>
        k r5 H7) (
        CallT Pg f_lex_reader_add [.pointer t0_, .int .i64 2, .int .i64 r1] (.tup []) H5 fun (r6 : Unit) H8 =>
        k none H8))
def h_lex_reader_number : Hint := (.two .no (.two .no (.two .no (.two (.two .no (.two (.join [(40, (.c .bool))] .no) .no)) (.two (.two .no (.two (.join [(76, (.c .bool))] .no) .no)) .no)))))
theorem e_lex_reader_number (t0_ : Option Addr) (H : Heap) (k : Option Addr → Heap → Prop) : EFun Pg Tryd.f29 h_lex_reader_number [.pointer t0_] (.one (.c .ptr)) H k = v_lex_reader_number t0_ H k := by kernel_rfl
theorem c_lex_reader_number (t0_ : Option Addr) {H : Heap} {k : Option Addr → Heap → Prop} (h : v_lex_reader_number t0_ H k) : CallT Pg f_lex_reader_number [.pointer t0_] (.one (.c .ptr)) H k :=
  call_of_E Pg_mixed Tryd.func29 (by kernel_rfl) (by kernel_rfl) (by kernel_rfl) (by kernel_rfl) ((e_lex_reader_number t0_ H k).symm ▸ h)
/-- (*hindcast/lex.reader).add -/
def v_lex_reader_add (r_ : Option Addr) (kind_ : Int) (n_ : Int) (H : Heap) (k : Unit → Heap → Prop) : Prop :=
    NilCk r_ fun a1 =>
    Ld .sl (a1.add 2) H fun (x1 : Sl) =>
    NilCk r_ fun a2 =>
    Ld .str a2 H fun (x2 : ByteArray) =>
    NilCk r_ fun a3 =>
    Ld (.int .i64) (a3.add 1) H fun (x3 : Int) =>
    NilCk r_ fun a4 =>
    Ld (.int .i64) (a4.add 1) H fun (x4 : Int) =>
    Lt (IntKind.wrap .i64 (x4 + n_)) fun t1 =>
    StrS x2 x3 t1 fun y1 =>
    NilCk r_ fun a5 =>
    Ld (.int .i64) (a5.add 1) H fun (x5 : Int) =>
    Nw #[.int .i64 kind_, .string y1, .int .i64 x5] T_api_Token H fun b1 H1 =>
    Stab [(a5.add 1, .int .i64 x5), (a4.add 1, .int .i64 x4), (a3.add 1, .int .i64 x3), (a2, .string x2), (a1.add 2, .slice x1.a x1.len x1.cap)] H1 <|
    App T_api_Token 3 32 #[.int .i64 0, .string ByteArray.empty, .int .i64 0] x1 ⟨some (adr b1), 1, 1⟩ H1 fun l1 H2 =>
    Stab [(a5.add 1, .int .i64 x5), (a4.add 1, .int .i64 x4), (a3.add 1, .int .i64 x3), (a2, .string x2)] H2 <|
    NilCk r_ fun a6 =>
    St (a6.add 2) (.slice l1.a l1.len l1.cap) H2 fun H3 =>
    NilCk r_ fun a7 =>
    Ld (.int .i64) (a7.add 1) H3 fun (x6 : Int) =>
    Lt (IntKind.wrap .i64 (x6 + n_)) fun t2 =>
    NilCk r_ fun a8 =>
    St (a8.add 1) (.int .i64 t2) H3 fun H4 =>
    k () H4
def h_lex_reader_add : Hint := .no
theorem e_lex_reader_add (r_ : Option Addr) (kind_ : Int) (n_ : Int) (H : Heap) (k : Unit → Heap → Prop) : EFun Pg Tryd.f30 h_lex_reader_add [.pointer r_, .int .i64 kind_, .int .i64 n_] (.tup []) H k = v_lex_reader_add r_ kind_ n_ H k := by kernel_rfl
theorem c_lex_reader_add (r_ : Option Addr) (kind_ : Int) (n_ : Int) {H : Heap} {k : Unit → Heap → Prop} (h : v_lex_reader_add r_ kind_ n_ H k) : CallT Pg f_lex_reader_add [.pointer r_, .int .i64 kind_, .int .i64 n_] (.tup []) H k :=
  call_of_E Pg_mixed Tryd.func30 (by kernel_rfl) (by kernel_rfl) (by kernel_rfl) (by kernel_rfl) ((e_lex_reader_add r_ kind_ n_ H k).symm ▸ h)
/-- hindcast/hindcastref09.remark -/
def v_hindcastref09_remark (src_ : ByteArray) (at_ : Int) (H : Heap) (k : Int → Heap → Prop) : Prop :=
    CallT Pg f_hindcastref09_starts [.string src_, .int .i64 at_, .string (⟨#[47, 47]⟩ : ByteArray)] (.one (.c .bool)) H fun (r1 : Bool) H1 =>
    Br r1 (
      LoopT (σ := Int) /- at -/ (fun next1 s1 H2 =>
        Jn (σ := Bool) /-  -/ (fun kk1 =>
          Br (decide (s1 < (src_.size : Int))) (
            StrI src_ s1 fun b1 =>
            kk1 (b1 != 10) H2) (
            kk1 false H2)) fun j1 H3 =>
        Br j1 (
          Lt (IntKind.wrap .i64 (s1 + 1)) fun t1 =>
          next1 t1 H3) (
          k s1 H3)) at_ H1) (
      CallT Pg f_hindcastref09_starts [.string src_, .int .i64 at_, .string (⟨#[47, 42]⟩ : ByteArray)] (.one (.c .bool)) H1 fun (r2 : Bool) H4 =>
      Br (!r2) (
        k at_ H4) (
        Lt (IntKind.wrap .i64 (at_ + 2)) fun t2 =>
        LoopT (σ := Int) /- i -/ (fun next2 s2 H5 =>
          Br (decide (s2 < (src_.size : Int))) (
            CallT Pg f_hindcastref09_starts [.string src_, .int .i64 s2, .string (⟨#[42, 47]⟩ : ByteArray)] (.one (.c .bool)) H5 fun (r3 : Bool) H6 =>
            Br r3 (
              Lt (IntKind.wrap .i64 (s2 + 2)) fun t3 =>
              k t3 H6) (
              Lt (IntKind.wrap .i64 (s2 + 1)) fun t4 =>
              next2 t4 H6)) (
            k (-1) H5)) t2 H4))
def h_hindcastref09_remark : Hint := (.two .no (.two .no (.two (.two .no (.two (.two (.one (.loop [(1, (.c (.int .i64)))] (.two (.two (.join [(22, (.c .bool))] .no) .no) .no))) .no) .no)) (.two .no (.two .no (.two (.two .no (.one (.loop [(7, (.c (.int .i64)))] .no))) .no))))))
theorem e_hindcastref09_remark (src_ : ByteArray) (at_ : Int) (H : Heap) (k : Int → Heap → Prop) : EFun Pg Tryd.f31 h_hindcastref09_remark [.string src_, .int .i64 at_] (.one (.c (.int .i64))) H k = v_hindcastref09_remark src_ at_ H k := by kernel_rfl
theorem c_hindcastref09_remark (src_ : ByteArray) (at_ : Int) {H : Heap} {k : Int → Heap → Prop} (h : v_hindcastref09_remark src_ at_ H k) : CallT Pg f_hindcastref09_remark [.string src_, .int .i64 at_] (.one (.c (.int .i64))) H k :=
  call_of_E Pg_mixed Tryd.func31 (by kernel_rfl) (by kernel_rfl) (by kernel_rfl) (by kernel_rfl) ((e_hindcastref09_remark src_ at_ H k).symm ▸ h)
/-- hindcast/hindcastref09.letter -/
def v_hindcastref09_letter (c_ : Int) (H : Heap) (k : Bool → Heap → Prop) : Prop :=
    Jn (σ := Bool) /-  -/ (fun kk1 =>
      Br (decide (c_ ≥ 97)) (
        Br (decide (c_ ≤ 122)) (
          kk1 true H) (
          Br (decide (c_ ≥ 65)) (
            kk1 (decide (c_ ≤ 90)) H) (
            kk1 false H))) (
        Br (decide (c_ ≥ 65)) (
          kk1 (decide (c_ ≤ 90)) H) (
          kk1 false H))) fun j1 H1 =>
    k j1 H1
def h_hindcastref09_letter : Hint := (.two .no (.two (.join [(2, (.c .bool))] .no) .no))
theorem e_hindcastref09_letter (c_ : Int) (H : Heap) (k : Bool → Heap → Prop) : EFun Pg Tryd.f32 h_hindcastref09_letter [.int .u8 c_] (.one (.c .bool)) H k = v_hindcastref09_letter c_ H k := by kernel_rfl
theorem c_hindcastref09_letter (c_ : Int) {H : Heap} {k : Bool → Heap → Prop} (h : v_hindcastref09_letter c_ H k) : CallT Pg f_hindcastref09_letter [.int .u8 c_] (.one (.c .bool)) H k :=
  call_of_E Pg_mixed Tryd.func32 (by kernel_rfl) (by kernel_rfl) (by kernel_rfl) (by kernel_rfl) ((e_hindcastref09_letter c_ H k).symm ▸ h)
/-- hindcast/hindcastref09.digit -/
def v_hindcastref09_digit (c_ : Int) (H : Heap) (k : Bool → Heap → Prop) : Prop :=
    Jn (σ := Bool) /-  -/ (fun kk1 =>
      Br (decide (c_ ≥ 48)) (
        kk1 (decide (c_ ≤ 57)) H) (
        kk1 false H)) fun j1 H1 =>
    k j1 H1
def h_hindcastref09_digit : Hint := (.two .no (.two (.join [(2, (.c .bool))] .no) .no))
theorem e_hindcastref09_digit (c_ : Int) (H : Heap) (k : Bool → Heap → Prop) : EFun Pg Tryd.f33 h_hindcastref09_digit [.int .u8 c_] (.one (.c .bool)) H k = v_hindcastref09_digit c_ H k := by kernel_rfl
theorem c_hindcastref09_digit (c_ : Int) {H : Heap} {k : Bool → Heap → Prop} (h : v_hindcastref09_digit c_ H k) : CallT Pg f_hindcastref09_digit [.int .u8 c_] (.one (.c .bool)) H k :=
  call_of_E Pg_mixed Tryd.func33 (by kernel_rfl) (by kernel_rfl) (by kernel_rfl) (by kernel_rfl) ((e_hindcastref09_digit c_ H k).symm ▸ h)
/-- hindcast/hindcastref09.sign -/
def v_hindcastref09_sign (src_ : ByteArray) (at_ : Int) (H : Heap) (k : ByteArray → Heap → Prop) : Prop :=
    Nw #[.string (⟨#[61, 61]⟩ : ByteArray), .string (⟨#[33, 61]⟩ : ByteArray), .string (⟨#[60, 61]⟩ : ByteArray), .string (⟨#[62, 61]⟩ : ByteArray), .string (⟨#[38, 38]⟩ : ByteArray), .string (⟨#[124, 124]⟩ : ByteArray), .string (⟨#[43]⟩ : ByteArray), .string (⟨#[45]⟩ : ByteArray), .string (⟨#[42]⟩ : ByteArray), .string (⟨#[47]⟩ : ByteArray), .string (⟨#[37]⟩ : ByteArray), .string (⟨#[60]⟩ : ByteArray), .string (⟨#[62]⟩ : ByteArray), .string (⟨#[33]⟩ : ByteArray), .string (⟨#[61]⟩ : ByteArray), .string (⟨#[40]⟩ : ByteArray), .string (⟨#[41]⟩ : ByteArray), .string (⟨#[123]⟩ : ByteArray), .string (⟨#[125]⟩ : ByteArray), .string (⟨#[44]⟩ : ByteArray), .string (⟨#[59]⟩ : ByteArray), .string (⟨#[58]⟩ : ByteArray), .string (⟨#[63]⟩ : ByteArray), .string (⟨#[46]⟩ : ByteArray)] T_string H fun b1 H1 =>
    LoopT (σ := Int) /- i -/ (fun next1 s1 H2 =>
      Br (decide (s1 < 24)) (
        IxA 1 ⟨some (adr b1), 24, 24⟩ s1 fun a1 =>
        Ld .str a1 H2 fun (x1 : ByteArray) =>
        CallT Pg f_hindcastref09_starts [.string src_, .int .i64 at_, .string x1] (.one (.c .bool)) H2 fun (r1 : Bool) H3 =>
        Br r1 (
          IxA 1 ⟨some (adr b1), 24, 24⟩ s1 fun a2 =>
          Ld .str a2 H3 fun (x2 : ByteArray) =>
          k x2 H3) (
          Lt (IntKind.wrap .i64 (s1 + 1)) fun t1 =>
          next1 t1 H3)) (
        k (⟨#[]⟩ : ByteArray) H2)) 0 H1
def h_hindcastref09_sign : Hint := (.two .no (.two .no (.two (.two .no (.one (.loop [(6, (.c (.int .i64)))] .no))) .no)))
theorem e_hindcastref09_sign (src_ : ByteArray) (at_ : Int) (H : Heap) (k : ByteArray → Heap → Prop) : EFun Pg Tryd.f34 h_hindcastref09_sign [.string src_, .int .i64 at_] (.one (.c .str)) H k = v_hindcastref09_sign src_ at_ H k := by kernel_rfl
theorem c_hindcastref09_sign (src_ : ByteArray) (at_ : Int) {H : Heap} {k : ByteArray → Heap → Prop} (h : v_hindcastref09_sign src_ at_ H k) : CallT Pg f_hindcastref09_sign [.string src_, .int .i64 at_] (.one (.c .str)) H k :=
  call_of_E Pg_mixed Tryd.func34 (by kernel_rfl) (by kernel_rfl) (by kernel_rfl) (by kernel_rfl) ((e_hindcastref09_sign src_ at_ H k).symm ▸ h)
/-- hindcast/hindcastref09.word -/
def v_hindcastref09_word (src_ : ByteArray) (at_ : Int) (H : Heap) (k : Int → Heap → Prop) : Prop :=
    LoopT (σ := Int) /- at -/ (fun next1 s1 H1 =>
      Br (decide (s1 < (src_.size : Int))) (
        StrI src_ s1 fun b1 =>
        CallT Pg f_hindcastref09_letter [.int .u8 b1] (.one (.c .bool)) H1 fun (r1 : Bool) H2 =>
        StrI src_ s1 fun b2 =>
        CallT Pg f_hindcastref09_digit [.int .u8 b2] (.one (.c .bool)) H2 fun (r2 : Bool) H3 =>
        Jn (σ := Bool) /-  -/ (fun kk1 =>
          Br (!r1) (
            Br (!r2) (
              StrI src_ s1 fun b3 =>
              kk1 (b3 != 95) H3) (
              kk1 false H3)) (
            kk1 false H3)) fun j1 H4 =>
        Br j1 (
          k s1 H4) (
          Lt (IntKind.wrap .i64 (s1 + 1)) fun t1 =>
          next1 t1 H4)) (
        k s1 H1)) at_ H
def h_hindcastref09_word : Hint := (.two .no (.two (.one (.loop [(1, (.c (.int .i64)))] (.two .no (.one (.two .no (.two .no (.two (.two (.join [(30, (.c .bool))] .no) .no) .no))))))) .no))
theorem e_hindcastref09_word (src_ : ByteArray) (at_ : Int) (H : Heap) (k : Int → Heap → Prop) : EFun Pg Tryd.f35 h_hindcastref09_word [.string src_, .int .i64 at_] (.one (.c (.int .i64))) H k = v_hindcastref09_word src_ at_ H k := by kernel_rfl
theorem c_hindcastref09_word (src_ : ByteArray) (at_ : Int) {H : Heap} {k : Int → Heap → Prop} (h : v_hindcastref09_word src_ at_ H k) : CallT Pg f_hindcastref09_word [.string src_, .int .i64 at_] (.one (.c (.int .i64))) H k :=
  call_of_E Pg_mixed Tryd.func35 (by kernel_rfl) (by kernel_rfl) (by kernel_rfl) (by kernel_rfl) ((e_hindcastref09_word src_ at_ H k).symm ▸ h)
/-- hindcast/hindcastref09.number -/
def v_hindcastref09_number (src_ : ByteArray) (at_ : Int) (H : Heap) (k : Int × Bool → Heap → Prop) : Prop :=
    LoopT (σ := Int × Int × Bool) /- at, n, great -/ (fun next1 s1 H1 =>
      Jn (σ := Bool) /-  -/ (fun kk1 =>
        Br (decide (s1.1 < (src_.size : Int))) (
          StrI src_ s1.1 fun b1 =>
          Br (decide (b1 ≥ 48)) (
            StrI src_ s1.1 fun b2 =>
            kk1 (decide (b2 ≤ 57)) H1) (
            kk1 false H1)) (
          kk1 false H1)) fun j1 H2 =>
      Br j1 (
        StrI src_ s1.1 fun b3 =>
        Lt (IntKind.wrap .u8 (b3 - 48)) fun t1 =>
        Jn (σ := Bool) /- great -/ (fun kk2 =>
          Br s1.2.2 (
            kk2 true H2) (
            Lt (IntKind.wrap .u64 (9223372036854775807 - (IntKind.wrap .u64 t1))) fun t2 =>
            Quo .u64 t2 10 fun t3 =>
            kk2 (decide (s1.2.1 > t3)) H2)) fun j2 H3 =>
        Jn (σ := Int) /- n -/ (fun kk3 =>
          Br (!j2) (
            Lt (IntKind.wrap .u64 (10 * s1.2.1)) fun t4 =>
            Lt (IntKind.wrap .u64 (t4 + (IntKind.wrap .u64 t1))) fun t5 =>
            kk3 t5 H3) (
            kk3 s1.2.1 H3)) fun j3 H4 =>
        Lt (IntKind.wrap .i64 (s1.1 + 1)) fun t6 =>
        next1 (t6, j3, j2) H4) (
        Jn (σ := Int × Bool) /- ,  -/ (fun kk4 =>
          Br (!s1.2.2) (
            Lt (IntKind.wrap .i64 (at_ + 1)) fun t7 =>
            Br (s1.1 == t7) (
              kk4 (s1.1, true) H2) (
              StrI src_ at_ fun b4 =>
              kk4 (s1.1, b4 != 48) H2)) (
            kk4 (s1.1, false) H2)) fun j4 H5 =>
        k (j4.1, j4.2) H5)) (at_, 0, false) H
def h_hindcastref09_number : Hint := (.two .no (.two .no (.two .no (.two .no (.two (.one (.loop [(1, (.c (.int .i64))), (6, (.c (.int .u64))), (7, (.c .bool))] (.two (.two (.join [(26, (.c .bool))] .no) .no) (.one (.two .no (.two (.join [(7, (.c .bool))] .no) (.two (.two .no (.join [(6, (.c (.int .u64)))] .no)) .no))))))) (.two (.join [(4, (.c (.int .i64))), (5, (.c .bool))] .no) .no))))))
theorem e_hindcastref09_number (src_ : ByteArray) (at_ : Int) (H : Heap) (k : Int × Bool → Heap → Prop) : EFun Pg Tryd.f36 h_hindcastref09_number [.string src_, .int .i64 at_] (.tup [(.c (.int .i64)), (.c .bool)]) H k = v_hindcastref09_number src_ at_ H k := by kernel_rfl
theorem c_hindcastref09_number (src_ : ByteArray) (at_ : Int) {H : Heap} {k : Int × Bool → Heap → Prop} (h : v_hindcastref09_number src_ at_ H k) : CallT Pg f_hindcastref09_number [.string src_, .int .i64 at_] (.tup [(.c (.int .i64)), (.c .bool)]) H k :=
  call_of_E Pg_mixed Tryd.func36 (by kernel_rfl) (by kernel_rfl) (by kernel_rfl) (by kernel_rfl) ((e_hindcastref09_number src_ at_ H k).symm ▸ h)
/-- (*hindcast/lex.reader).rest -/
def v_lex_reader_rest (r_ : Option Addr) (H : Heap) (k : ByteArray → Heap → Prop) : Prop :=
    NilCk r_ fun a1 =>
    Ld .str a1 H fun (x1 : ByteArray) =>
    NilCk r_ fun a2 =>
    Ld (.int .i64) (a2.add 1) H fun (x2 : Int) =>
    StrS x1 x2 (x1.size : Nat) fun y1 =>
    k y1 H
def h_lex_reader_rest : Hint := .no
theorem e_lex_reader_rest (r_ : Option Addr) (H : Heap) (k : ByteArray → Heap → Prop) : EFun Pg Tryd.f43 h_lex_reader_rest [.pointer r_] (.one (.c .str)) H k = v_lex_reader_rest r_ H k := by kernel_rfl
theorem c_lex_reader_rest (r_ : Option Addr) {H : Heap} {k : ByteArray → Heap → Prop} (h : v_lex_reader_rest r_ H k) : CallT Pg f_lex_reader_rest [.pointer r_] (.one (.c .str)) H k :=
  call_of_E Pg_mixed Tryd.func43 (by kernel_rfl) (by kernel_rfl) (by kernel_rfl) (by kernel_rfl) ((e_lex_reader_rest r_ H k).symm ▸ h)
/-- (*hindcast/lex.reader).sign -/
def v_lex_reader_sign (r_ : Option Addr) (H : Heap) (k : Int → Heap → Prop) : Prop :=
    Nw #[.string (⟨#[61, 61]⟩ : ByteArray), .string (⟨#[33, 61]⟩ : ByteArray), .string (⟨#[60, 61]⟩ : ByteArray), .string (⟨#[62, 61]⟩ : ByteArray), .string (⟨#[38, 38]⟩ : ByteArray), .string (⟨#[124, 124]⟩ : ByteArray)] T_string H fun b1 H1 =>
    LoopT (σ := Int) /-  -/ (fun next1 s1 H2 =>
      Br (decide (s1 < 6)) (
        IxA 1 ⟨some (adr b1), 6, 6⟩ s1 fun a1 =>
        Ld .str a1 H2 fun (x1 : ByteArray) =>
        CallT Pg f_lex_reader_rest [.pointer r_] (.one (.c .str)) H2 fun (r1 : ByteArray) H3 =>
        CallT Pg f_strings_HasPrefix [.string r1, .string x1] (.one (.c .bool)) H3 fun (r2 : Bool) H4 =>
        Br r2 (
          k (x1.size : Int) H4) (
          Lt (IntKind.wrap .i64 (s1 + 1)) fun t1 =>
          next1 t1 H4)) (
        NilCk r_ fun a2 =>
        Ld .str a2 H2 fun (x2 : ByteArray) =>
        NilCk r_ fun a3 =>
        Ld (.int .i64) (a3.add 1) H2 fun (x3 : Int) =>
        StrI x2 x3 fun b2 =>
        CallT Pg f_strings_IndexByte [.string (⟨#[43, 45, 42, 47, 37, 60, 62, 33, 61, 40, 41, 123, 125, 44, 59, 58, 63, 46]⟩ : ByteArray), .int .u8 b2] (.one (.c (.int .i64))) H2 fun (r3 : Int) H5 =>
        Stab [(a3.add 1, .int .i64 x3), (a2, .string x2)] H5 <|
        Br (decide (r3 ≥ 0)) (
          k 1 H5) (
          k 0 H5))) 0 H1
def h_lex_reader_sign : Hint := (.two .no (.two (.two .no (.one (.loop [(7, (.c (.int .i64)))] .no))) .no))
theorem e_lex_reader_sign (r_ : Option Addr) (H : Heap) (k : Int → Heap → Prop) : EFun Pg Tryd.f47 h_lex_reader_sign [.pointer r_] (.one (.c (.int .i64))) H k = v_lex_reader_sign r_ H k := by kernel_rfl
theorem c_lex_reader_sign (r_ : Option Addr) {H : Heap} {k : Int → Heap → Prop} (h : v_lex_reader_sign r_ H k) : CallT Pg f_lex_reader_sign [.pointer r_] (.one (.c (.int .i64))) H k :=
  call_of_E Pg_mixed Tryd.func47 (by kernel_rfl) (by kernel_rfl) (by kernel_rfl) (by kernel_rfl) ((e_lex_reader_sign r_ H k).symm ▸ h)
/-- (*hindcast/lex.reader).while -/
def v_lex_reader_while (r_ : Option Addr) (is_ : Value) (H : Heap) (k : Int → Heap → Prop) : Prop :=
    LoopT (σ := Int) /- n -/ (fun next1 s1 H1 =>
      Jn (σ := Bool) /-  -/ (fun kk1 =>
        NilCk r_ fun a1 =>
        Ld (.int .i64) (a1.add 1) H1 fun (x1 : Int) =>
        Lt (IntKind.wrap .i64 (x1 + s1)) fun t1 =>
        NilCk r_ fun a2 =>
        Ld .str a2 H1 fun (x2 : ByteArray) =>
        Br (decide (t1 < (x2.size : Int))) (
          NilCk r_ fun a3 =>
          Ld .str a3 H1 fun (x3 : ByteArray) =>
          NilCk r_ fun a4 =>
          Ld (.int .i64) (a4.add 1) H1 fun (x4 : Int) =>
          Lt (IntKind.wrap .i64 (x4 + s1)) fun t2 =>
          StrI x3 t2 fun b1 =>
          CallX Pg is_ [.int .u8 b1] (.one (.c .bool)) H1 fun (r1 : Bool) H3 =>
          Stab [(a4.add 1, .int .i64 x4), (a3, .string x3), (a2, .string x2), (a1.add 1, .int .i64 x1)] H3 <|
          kk1 r1 H3) (
          kk1 false H1)) fun j1 H2 =>
      Br j1 (
        Lt (IntKind.wrap .i64 (s1 + 1)) fun t3 =>
        next1 t3 H2) (
        k s1 H2)) 0 H
def h_lex_reader_while : Hint := (.two .no (.two .no (.two (.one (.loop [(5, (.c (.int .i64)))] (.two (.two (.join [(32, (.c .bool))] .no) .no) .no))) .no)))
theorem e_lex_reader_while (r_ : Option Addr) (is_ : Value) (H : Heap) (k : Int → Heap → Prop) : EFun Pg Tryd.f48 h_lex_reader_while [.pointer r_, is_] (.one (.c (.int .i64))) H k = v_lex_reader_while r_ is_ H k := by kernel_rfl
theorem c_lex_reader_while (r_ : Option Addr) (is_ : Value) {H : Heap} {k : Int → Heap → Prop} (h : v_lex_reader_while r_ is_ H k) : CallT Pg f_lex_reader_while [.pointer r_, is_] (.one (.c (.int .i64))) H k :=
  call_of_E Pg_mixed Tryd.func48 (by kernel_rfl) (by kernel_rfl) (by kernel_rfl) (by kernel_rfl) ((e_lex_reader_while r_ is_ H k).symm ▸ h)
/-- (*hindcast/lex.reader).word$1 -/
def v_lex_reader_word_1 (c_ : Int) (H : Heap) (k : Bool → Heap → Prop) : Prop :=
    Jn (σ := Bool) /-  -/ (fun kk1 =>
      CallT Pg f_lex_letter [.int .u8 c_] (.one (.c .bool)) H fun (r1 : Bool) H2 =>
      Br r1 (
        kk1 true H2) (
        CallT Pg f_lex_digit [.int .u8 c_] (.one (.c .bool)) H2 fun (r2 : Bool) H3 =>
        Br r2 (
          kk1 true H3) (
          kk1 (c_ == 95) H3))) fun j1 H1 =>
    k j1 H1
def h_lex_reader_word_1 : Hint := (.two .no (.two (.join [(2, (.c .bool))] .no) .no))
theorem e_lex_reader_word_1 (c_ : Int) (H : Heap) (k : Bool → Heap → Prop) : EFun Pg Tryd.f49 h_lex_reader_word_1 [.int .u8 c_] (.one (.c .bool)) H k = v_lex_reader_word_1 c_ H k := by kernel_rfl
theorem c_lex_reader_word_1 (c_ : Int) {H : Heap} {k : Bool → Heap → Prop} (h : v_lex_reader_word_1 c_ H k) : CallT Pg f_lex_reader_word_1 [.int .u8 c_] (.one (.c .bool)) H k :=
  call_of_E Pg_mixed Tryd.func49 (by kernel_rfl) (by kernel_rfl) (by kernel_rfl) (by kernel_rfl) ((e_lex_reader_word_1 c_ H k).symm ▸ h)
/-- hindcast/hindcastref09.starts -/
def v_hindcastref09_starts (src_ : ByteArray) (at_ : Int) (s_ : ByteArray) (H : Heap) (k : Bool → Heap → Prop) : Prop :=
    Jn (σ := Bool) /-  -/ (fun kk1 =>
      Lt (IntKind.wrap .i64 (at_ + (s_.size : Int))) fun t1 =>
      Br (decide (t1 ≤ (src_.size : Int))) (
        Lt (IntKind.wrap .i64 (at_ + (s_.size : Int))) fun t2 =>
        StrS src_ at_ t2 fun y1 =>
        kk1 (y1.toList == s_.toList) H) (
        kk1 false H)) fun j1 H1 =>
    k j1 H1
def h_hindcastref09_starts : Hint := (.two .no (.two (.join [(6, (.c .bool))] .no) .no))
theorem e_hindcastref09_starts (src_ : ByteArray) (at_ : Int) (s_ : ByteArray) (H : Heap) (k : Bool → Heap → Prop) : EFun Pg Tryd.f51 h_hindcastref09_starts [.string src_, .int .i64 at_, .string s_] (.one (.c .bool)) H k = v_hindcastref09_starts src_ at_ s_ H k := by kernel_rfl
theorem c_hindcastref09_starts (src_ : ByteArray) (at_ : Int) (s_ : ByteArray) {H : Heap} {k : Bool → Heap → Prop} (h : v_hindcastref09_starts src_ at_ s_ H k) : CallT Pg f_hindcastref09_starts [.string src_, .int .i64 at_, .string s_] (.one (.c .bool)) H k :=
  call_of_E Pg_mixed Tryd.func51 (by kernel_rfl) (by kernel_rfl) (by kernel_rfl) (by kernel_rfl) ((e_hindcastref09_starts src_ at_ s_ H k).symm ▸ h)
end Go.Proofs.YtlkmmplgfjicjaaDoor
