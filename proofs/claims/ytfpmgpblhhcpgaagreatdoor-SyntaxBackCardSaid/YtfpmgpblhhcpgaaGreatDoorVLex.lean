import Derived.Test.YtfpmgpblhhcpgaaGreatDoorVPar
import Derived.Test.YtfpmgpblhhcpgaaGreatDoorHcLists
import Derived.KernelRfl
import Derived.Test.YtfpmgpblhhcpgaaGreatDoorProg
namespace Go.Proofs.YtfpmgpblhhcpgaaGreatDoor
set_option linter.unusedVariables false
set_option linter.unusedSimpArgs false
set_option maxRecDepth 100000
section
open Hc
abbrev TQah : TypeId := 99
abbrev fQbg : FuncId := 22
abbrev fQbh : FuncId := 25
abbrev fQbi : FuncId := 40
abbrev fQbj : FuncId := 41
abbrev fQbk : FuncId := 47
abbrev fQbl : FuncId := 48
abbrev fQbm : FuncId := 49
abbrev fQbn : FuncId := 50
abbrev fQbo : FuncId := 51
abbrev fQbp : FuncId := 52
abbrev fQbq : FuncId := 71
abbrev fQbr : FuncId := 72
abbrev fQbs : FuncId := 73
abbrev fQbt : FuncId := 74
abbrev fQbu : FuncId := 75
abbrev fQbv : FuncId := 76
abbrev fQbw : FuncId := 77
abbrev fQbx : FuncId := 85
abbrev fQby : FuncId := 106
abbrev fQbz : FuncId := 107
abbrev fQb0 : FuncId := 108
abbrev fQb1 : FuncId := 109
abbrev fQb2 : FuncId := 110
abbrev fQb3 : FuncId := 111
abbrev fQb4 : FuncId := 112
abbrev fQb5 : FuncId := 145
abbrev fQb6 : FuncId := 149
def vQbd (src_ : ByteArray) (H : Heap) (k : Sl × Value → Heap → Prop) : Prop :=
 Br (decide ((src_.size : Int) > 8000)) (
 CallT Pg fQbi [.int .i64 8000, .int .i64 102] (.one (.c .ptr)) H fun (r1 : Option Addr) H1 =>
 k ((⟨none, 0, 0⟩, (.iface TQaa (.pointer r1)))) H1) (
 Nw #[.string src_, .int .i64 0, .slice none 0 0] TQah H fun b1 H2 =>
 CallT Pg fQbj [.pointer (some (adr b1))] (.one (.c .ptr)) H2 fun (r2 : Option Addr) H3 =>
 Br (!r2.isNone) (
 k ((⟨none, 0, 0⟩, (.iface TQaa (.pointer r2)))) H3) (
 NilCk (some (adr b1)) fun a1 =>
 Ld .sl (a1.add 2) H3 fun (x1 : Sl) =>
 k ((x1, (.nilIface))) H3))
def h_lex_Lex : Hint := .no
theorem cQbd (src_ : ByteArray) {H : Heap} {k : Sl × Value → Heap → Prop} (h : vQbd src_ H k) : CallT Pg fQbg [.string src_] (.tup [(.c .sl), (.c .raw)]) H k :=
 call_of_E (h := h_lex_Lex) Pg_mixed Tryz.func22 (by kernel_rfl) (by kernel_rfl) (by kernel_rfl) (by kernel_rfl) (Eq.mpr (by kernel_rfl) h)
def vQbe (at_ : Int) (e_ : Int) (H : Heap) (k : Option Addr → Heap → Prop) : Prop :=
 Nw #[.int .i64 at_, .int .i64 e_] TQac H fun b1 H1 =>
 k (some (adr b1)) H1
def h_lex_fault : Hint := .no
theorem cQbe (at_ : Int) (e_ : Int) {H : Heap} {k : Option Addr → Heap → Prop} (h : vQbe at_ e_ H k) : CallT Pg fQbi [.int .i64 at_, .int .i64 e_] (.one (.c .ptr)) H k :=
 call_of_E (h := h_lex_fault) Pg_mixed Tryz.func40 (by kernel_rfl) (by kernel_rfl) (by kernel_rfl) (by kernel_rfl) (Eq.mpr (by kernel_rfl) h)
def vQbf (r_ : Option Addr) (H : Heap) (k : Option Addr → Heap → Prop) : Prop :=
 JumpT (σ := Option Addr) (fun jump1 =>
 CallT Pg fQbq [.pointer r_] (.one (.c .ptr)) H fun (r1 : Option Addr) H1 =>
 Br (!r1.isNone) (
 k r1 H1) (
 NilCk r_ fun a1 =>
 Ld (.int .i64) (a1.add 1) H1 fun (x1 : Int) =>
 NilCk r_ fun a2 =>
 Ld .str a2 H1 fun (x2 : ByteArray) =>
 Br (x1 == (x2.size : Int)) (
 jump1 1 r1 H1) (
 NilCk r_ fun a3 =>
 Ld .str a3 H1 fun (x3 : ByteArray) =>
 NilCk r_ fun a4 =>
 Ld (.int .i64) (a4.add 1) H1 fun (x4 : Int) =>
 StrI x3 x4 fun b1 =>
 CallT Pg fQbr [.int .u8 b1] (.one (.c .bool)) H1 fun (r2 : Bool) H2 =>
 Br r2 (
 jump1 2 r1 H2) (
 CallT Pg fQbs [.int .u8 b1] (.one (.c .bool)) H2 fun (r3 : Bool) H3 =>
 Br r3 (
 jump1 3 r1 H3) (
 CallT Pg fQbt [.pointer r_] (.one (.c .ptr)) H3 fun (r4 : Option Addr) H4 =>
 jump1 4 r4 H4))))) [(0, fun jump2 s1 H5 =>
 CallT Pg fQbq [.pointer r_] (.one (.c .ptr)) H5 fun (r5 : Option Addr) H6 =>
 Br (!r5.isNone) (
 k r5 H6) (
 NilCk r_ fun a5 =>
 Ld (.int .i64) (a5.add 1) H6 fun (x5 : Int) =>
 NilCk r_ fun a6 =>
 Ld .str a6 H6 fun (x6 : ByteArray) =>
 Br (x5 == (x6.size : Int)) (
 jump2 1 r5 H6) (
 NilCk r_ fun a7 =>
 Ld .str a7 H6 fun (x7 : ByteArray) =>
 NilCk r_ fun a8 =>
 Ld (.int .i64) (a8.add 1) H6 fun (x8 : Int) =>
 StrI x7 x8 fun b2 =>
 CallT Pg fQbr [.int .u8 b2] (.one (.c .bool)) H6 fun (r6 : Bool) H7 =>
 Br r6 (
 jump2 2 r5 H7) (
 CallT Pg fQbs [.int .u8 b2] (.one (.c .bool)) H7 fun (r7 : Bool) H8 =>
 Br r7 (
 jump2 3 r5 H8) (
 CallT Pg fQbt [.pointer r_] (.one (.c .ptr)) H8 fun (r8 : Option Addr) H9 =>
 jump2 4 r8 H9))))),
 (1, fun jump3 s2 H10 =>
 CallT Pg fQbw [.pointer r_, .int .i64 0, .int .i64 0] (.tup []) H10 fun (r9 : Unit) H11 =>
 k none H11),
 (2, fun jump4 s3 H12 =>
 CallT Pg fQbu [.pointer r_] (.one (.c .ptr)) H12 fun (r10 : Option Addr) H13 =>
 jump4 4 r10 H13),
 (3, fun jump5 s4 H14 =>
 CallT Pg fQbv [.pointer r_] (.one (.c .ptr)) H14 fun (r11 : Option Addr) H15 =>
 Br (!r11.isNone) (
 k r11 H15) (
 jump5 0 r11 H15)),
 (4, fun jump6 s5 H16 =>
 Br (!s5.isNone) (
 k s5 H16) (
 jump6 0 s5 H16))]
def h_lex_reader_all : Hint := (.two .no (.jump [(3, (.c .ptr))] [0, 1, 2, 3, 4] .no (.two .no (.two .no (.two .no (.two .no (.two .no .no)))))))
theorem cQbf (r_ : Option Addr) {H : Heap} {k : Option Addr → Heap → Prop} (h : vQbf r_ H k) : CallT Pg fQbj [.pointer r_] (.one (.c .ptr)) H k :=
 call_of_E (h := h_lex_reader_all) Pg_mixed Tryz.func41 (by kernel_rfl) (by kernel_rfl) (by kernel_rfl) (by kernel_rfl) (Eq.mpr (by kernel_rfl) h)
def vQbg (r_ : Option Addr) (H : Heap) (k : Option Addr → Heap → Prop) : Prop :=
 LoopT (σ := Unit) (fun next1 s1 H1 =>
 NilCk r_ fun a1 =>
 Ld (.int .i64) (a1.add 1) H1 fun (x1 : Int) =>
 NilCk r_ fun a2 =>
 Ld .str a2 H1 fun (x2 : ByteArray) =>
 Br (decide (x1 < (x2.size : Int))) (
 Jn (σ := Unit) (fun kk1 =>
 CallT Pg fQby [.pointer r_] (.one (.c .str)) H1 fun (r1 : ByteArray) H3 =>
 Jn (σ := Unit) (fun kk2 =>
 StrI r1 0 fun b1 =>
 CallT Pg fQbz [.string (⟨#[32, 9, 10, 13]⟩ : ByteArray), .int .u8 b1] (.one (.c (.int .i64))) H3 fun (r2 : Int) H5 =>
 Jn (σ := Unit) (fun kk3 =>
 Br (decide (r2 ≥ 0)) (
 NilCk r_ fun a3 =>
 Ld (.int .i64) (a3.add 1) H5 fun (x3 : Int) =>
 Lt (IntKind.wrap .i64 (x3 + 1)) fun t1 =>
 NilCk r_ fun a4 =>
 St (a4.add 1) (.int .i64 t1) H5 fun H7 =>
 kk3 () H7) (
 CallT Pg fQb0 [.string r1, .string (⟨#[47, 47]⟩ : ByteArray)] (.one (.c .bool)) H5 fun (r3 : Bool) H8 =>
 Jn (σ := Unit) (fun kk4 =>
 Br r3 (
 CallT Pg fQb1 [.string r1, .string (⟨#[10]⟩ : ByteArray)] (.tup [(.c .str), (.c .str), (.c .bool)]) H8 fun (r4 : ByteArray × ByteArray × Bool) H10 =>
 NilCk r_ fun a5 =>
 Ld (.int .i64) (a5.add 1) H10 fun (x4 : Int) =>
 Lt (IntKind.wrap .i64 (x4 + (r4.1.size : Int))) fun t2 =>
 NilCk r_ fun a6 =>
 St (a6.add 1) (.int .i64 t2) H10 fun H11 =>
 kk4 () H11) (
 CallT Pg fQb0 [.string r1, .string (⟨#[47, 42]⟩ : ByteArray)] (.one (.c .bool)) H8 fun (r5 : Bool) H12 =>
 Br r5 (
 StrS r1 2 (r1.size : Nat) fun y1 =>
 CallT Pg fQb1 [.string y1, .string (⟨#[42, 47]⟩ : ByteArray)] (.tup [(.c .str), (.c .str), (.c .bool)]) H12 fun (r6 : ByteArray × ByteArray × Bool) H13 =>
 Br (!r6.2.2) (
 NilCk r_ fun a7 =>
 Ld (.int .i64) (a7.add 1) H13 fun (x5 : Int) =>
 CallT Pg fQbi [.int .i64 x5, .int .i64 90] (.one (.c .ptr)) H13 fun (r7 : Option Addr) H14 =>
 k r7 H14) (
 NilCk r_ fun a8 =>
 Ld (.int .i64) (a8.add 1) H13 fun (x6 : Int) =>
 Lt (IntKind.wrap .i64 (4 + (r6.1.size : Int))) fun t3 =>
 Lt (IntKind.wrap .i64 (x6 + t3)) fun t4 =>
 NilCk r_ fun a9 =>
 St (a9.add 1) (.int .i64 t4) H13 fun H15 =>
 kk4 () H15)) (
 k none H12))) fun j4 H9 =>
 kk3 () H9)) fun j3 H6 =>
 kk2 () H6) fun j2 H4 =>
 kk1 () H4) fun j1 H2 =>
 next1 () H2) (
 k none H1)) () H
def h_lex_reader_skip : Hint := (.two .no (.two (.one (.loop [] (.two .no (.join [] (.one (.two .no (.join [] (.one (.two .no (.join [] (.two .no (.two .no (.join [] .no))))))))))))) .no))
theorem cQbg (r_ : Option Addr) {H : Heap} {k : Option Addr → Heap → Prop} (h : vQbg r_ H k) : CallT Pg fQbq [.pointer r_] (.one (.c .ptr)) H k :=
 call_of_E (h := h_lex_reader_skip) Pg_mixed Tryz.func71 (by kernel_rfl) (by kernel_rfl) (by kernel_rfl) (by kernel_rfl) (Eq.mpr (by kernel_rfl) h)
def vQbh (c_ : Int) (H : Heap) (k : Bool → Heap → Prop) : Prop :=
 Jn (σ := Bool) (fun kk1 =>
 Br (decide (c_ ≥ 97)) (
 Br (decide (c_ ≤ 122)) (
 kk1 true H) (
 Br (decide (c_ ≥ 65)) (
 kk1 (decide (c_ ≤ 90)) H) (
 kk1 false H))) (
 Br (decide (c_ ≥ 65)) (
 kk1 (decide (c_ ≤ 90)) H) (
 kk1 false H))) fun j1 H1 =>
 k j1 H1
def h_lex_letter : Hint := (.two .no (.two (.join [(2, (.c .bool))] .no) .no))
theorem cQbh (c_ : Int) {H : Heap} {k : Bool → Heap → Prop} (h : vQbh c_ H k) : CallT Pg fQbr [.int .u8 c_] (.one (.c .bool)) H k :=
 call_of_E (h := h_lex_letter) Pg_mixed Tryz.func72 (by kernel_rfl) (by kernel_rfl) (by kernel_rfl) (by kernel_rfl) (Eq.mpr (by kernel_rfl) h)
def vQbi (c_ : Int) (H : Heap) (k : Bool → Heap → Prop) : Prop :=
 Jn (σ := Bool) (fun kk1 =>
 Br (decide (c_ ≥ 48)) (
 kk1 (decide (c_ ≤ 57)) H) (
 kk1 false H)) fun j1 H1 =>
 k j1 H1
def h_lex_digit : Hint := (.two .no (.two (.join [(2, (.c .bool))] .no) .no))
theorem cQbi (c_ : Int) {H : Heap} {k : Bool → Heap → Prop} (h : vQbi c_ H k) : CallT Pg fQbs [.int .u8 c_] (.one (.c .bool)) H k :=
 call_of_E (h := h_lex_digit) Pg_mixed Tryz.func73 (by kernel_rfl) (by kernel_rfl) (by kernel_rfl) (by kernel_rfl) (Eq.mpr (by kernel_rfl) h)
def vQbj (r_ : Option Addr) (H : Heap) (k : Option Addr → Heap → Prop) : Prop :=
 CallT Pg fQb2 [.pointer r_] (.one (.c (.int .i64))) H fun (r1 : Int) H1 =>
 Br (r1 == 0) (
 NilCk r_ fun a1 =>
 Ld (.int .i64) (a1.add 1) H1 fun (x1 : Int) =>
 CallT Pg fQbi [.int .i64 x1, .int .i64 90] (.one (.c .ptr)) H1 fun (r2 : Option Addr) H2 =>
 k r2 H2) (
 CallT Pg fQbw [.pointer r_, .int .i64 3, .int .i64 r1] (.tup []) H1 fun (r3 : Unit) H3 =>
 k none H3)
def h_lex_reader_symbol : Hint := .no
theorem cQbj (r_ : Option Addr) {H : Heap} {k : Option Addr → Heap → Prop} (h : vQbj r_ H k) : CallT Pg fQbt [.pointer r_] (.one (.c .ptr)) H k :=
 call_of_E (h := h_lex_reader_symbol) Pg_mixed Tryz.func74 (by kernel_rfl) (by kernel_rfl) (by kernel_rfl) (by kernel_rfl) (Eq.mpr (by kernel_rfl) h)
def vQbk (r_ : Option Addr) (H : Heap) (k : Option Addr → Heap → Prop) : Prop :=
 CallT Pg fQb3 [.pointer r_, .func (.func 112) #[] #[]] (.one (.c (.int .i64))) H fun (r1 : Int) H1 =>
 Br (decide (r1 > 16)) (
 NilCk r_ fun a1 =>
 Ld (.int .i64) (a1.add 1) H1 fun (x1 : Int) =>
 CallT Pg fQbi [.int .i64 x1, .int .i64 90] (.one (.c .ptr)) H1 fun (r2 : Option Addr) H2 =>
 k r2 H2) (
 CallT Pg fQbw [.pointer r_, .int .i64 1, .int .i64 r1] (.tup []) H1 fun (r3 : Unit) H3 =>
 k none H3)
def h_lex_reader_word : Hint := .no
theorem cQbk (r_ : Option Addr) {H : Heap} {k : Option Addr → Heap → Prop} (h : vQbk r_ H k) : CallT Pg fQbu [.pointer r_] (.one (.c .ptr)) H k :=
 call_of_E (h := h_lex_reader_word) Pg_mixed Tryz.func75 (by kernel_rfl) (by kernel_rfl) (by kernel_rfl) (by kernel_rfl) (Eq.mpr (by kernel_rfl) h)
def vQbl (r_ : Option Addr) (H : Heap) (k : Option Addr → Heap → Prop) : Prop :=
 CallT Pg fQb3 [.pointer r_, .func (.func 73) #[] #[]] (.one (.c (.int .i64))) H fun (r1 : Int) H1 =>
 NilCk r_ fun a1 =>
 Ld .str a1 H1 fun (x1 : ByteArray) =>
 NilCk r_ fun a2 =>
 Ld (.int .i64) (a2.add 1) H1 fun (x2 : Int) =>
 NilCk r_ fun a3 =>
 Ld (.int .i64) (a3.add 1) H1 fun (x3 : Int) =>
 Lt (IntKind.wrap .i64 (x3 + r1)) fun t1 =>
 StrS x1 x2 t1 fun y1 =>
 CallT Pg fQao [.string y1, .int .i64 10, .int .i64 64] (.tup [(.c (.int .i64)), (.c .raw)]) H1 fun (r2 : Int × Value) H2 =>
 Jn (σ := Bool) (fun kk1 =>
 IfNil r2.2 fun e1 =>
 Br (!e1) (
 kk1 true H2) (
 Br (decide (r1 > 1)) (
 StrI y1 0 fun b1 =>
 kk1 (b1 == 48) H2) (
 kk1 false H2))) fun j1 H3 =>
 Br j1 (
 NilCk r_ fun a4 =>
 Ld (.int .i64) (a4.add 1) H3 fun (x4 : Int) =>
 CallT Pg fQbi [.int .i64 x4, .int .i64 90] (.one (.c .ptr)) H3 fun (r3 : Option Addr) H4 =>
 k r3 H4) (
 NilCk r_ fun a5 =>
 Ld (.int .i64) (a5.add 1) H3 fun (x5 : Int) =>
 Lt (IntKind.wrap .i64 (x5 + r1)) fun t2 =>
 Jn (σ := Bool) (fun kk2 =>
 NilCk r_ fun a6 =>
 Ld .str a6 H3 fun (x6 : ByteArray) =>
 Br (decide (t2 < (x6.size : Int))) (
 NilCk r_ fun a7 =>
 Ld .str a7 H3 fun (x7 : ByteArray) =>
 StrI x7 t2 fun b2 =>
 CallT Pg fQbr [.int .u8 b2] (.one (.c .bool)) H3 fun (r4 : Bool) H6 =>
 Br r4 (
 kk2 true H6) (
 NilCk r_ fun a8 =>
 Ld .str a8 H6 fun (x8 : ByteArray) =>
 StrI x8 t2 fun b3 =>
 kk2 (b3 == 95) H6)) (
 kk2 false H3)) fun j2 H5 =>
 Br j2 (
 CallT Pg fQbi [.int .i64 t2, .int .i64 90] (.one (.c .ptr)) H5 fun (r5 : Option Addr) H7 =>
 k r5 H7) (
 CallT Pg fQbw [.pointer r_, .int .i64 2, .int .i64 r1] (.tup []) H5 fun (r6 : Unit) H8 =>
 k none H8))
def h_lex_reader_number : Hint := (.two .no (.two .no (.two .no (.two (.two .no (.two (.join [(40, (.c .bool))] .no) .no)) (.two (.two .no (.two (.join [(76, (.c .bool))] .no) .no)) .no)))))
theorem cQbl (r_ : Option Addr) {H : Heap} {k : Option Addr → Heap → Prop} (h : vQbl r_ H k) : CallT Pg fQbv [.pointer r_] (.one (.c .ptr)) H k :=
 call_of_E (h := h_lex_reader_number) Pg_mixed Tryz.func76 (by kernel_rfl) (by kernel_rfl) (by kernel_rfl) (by kernel_rfl) (Eq.mpr (by kernel_rfl) h)
def vQbm (r_ : Option Addr) (kind_ : Int) (n_ : Int) (H : Heap) (k : Unit → Heap → Prop) : Prop :=
 NilCk r_ fun a1 =>
 Ld .sl (a1.add 2) H fun (x1 : Sl) =>
 NilCk r_ fun a2 =>
 Ld .str a2 H fun (x2 : ByteArray) =>
 NilCk r_ fun a3 =>
 Ld (.int .i64) (a3.add 1) H fun (x3 : Int) =>
 NilCk r_ fun a4 =>
 Ld (.int .i64) (a4.add 1) H fun (x4 : Int) =>
 Lt (IntKind.wrap .i64 (x4 + n_)) fun t1 =>
 StrS x2 x3 t1 fun y1 =>
 NilCk r_ fun a5 =>
 Ld (.int .i64) (a5.add 1) H fun (x5 : Int) =>
 Nw #[.int .i64 kind_, .string y1, .int .i64 x5] TQad H fun b1 H1 =>
 Stab [(a5.add 1, .int .i64 x5), (a4.add 1, .int .i64 x4), (a3.add 1, .int .i64 x3), (a2, .string x2), (a1.add 2, slV x1)] H1 <|
 App TQad 3 32 #[.int .i64 0, .string ByteArray.empty, .int .i64 0] x1 ⟨some (adr b1), 1, 1⟩ H1 fun l1 H2 =>
 Stab [(a5.add 1, .int .i64 x5), (a4.add 1, .int .i64 x4), (a3.add 1, .int .i64 x3), (a2, .string x2)] H2 <|
 NilCk r_ fun a6 =>
 St (a6.add 2) (slV l1) H2 fun H3 =>
 NilCk r_ fun a7 =>
 Ld (.int .i64) (a7.add 1) H3 fun (x6 : Int) =>
 Lt (IntKind.wrap .i64 (x6 + n_)) fun t2 =>
 NilCk r_ fun a8 =>
 St (a8.add 1) (.int .i64 t2) H3 fun H4 =>
 k () H4
def h_lex_reader_add : Hint := .no
theorem cQbm (r_ : Option Addr) (kind_ : Int) (n_ : Int) {H : Heap} {k : Unit → Heap → Prop} (h : vQbm r_ kind_ n_ H k) : CallT Pg fQbw [.pointer r_, .int .i64 kind_, .int .i64 n_] (.tup []) H k :=
 call_of_E (h := h_lex_reader_add) Pg_mixed Tryz.func77 (by kernel_rfl) (by kernel_rfl) (by kernel_rfl) (by kernel_rfl) (Eq.mpr (by kernel_rfl) h)
def vQbn (r_ : Option Addr) (H : Heap) (k : ByteArray → Heap → Prop) : Prop :=
 NilCk r_ fun a1 =>
 Ld .str a1 H fun (x1 : ByteArray) =>
 NilCk r_ fun a2 =>
 Ld (.int .i64) (a2.add 1) H fun (x2 : Int) =>
 StrS x1 x2 (x1.size : Nat) fun y1 =>
 k y1 H
def h_lex_reader_rest : Hint := .no
theorem cQbn (r_ : Option Addr) {H : Heap} {k : ByteArray → Heap → Prop} (h : vQbn r_ H k) : CallT Pg fQby [.pointer r_] (.one (.c .str)) H k :=
 call_of_E (h := h_lex_reader_rest) Pg_mixed Tryz.func106 (by kernel_rfl) (by kernel_rfl) (by kernel_rfl) (by kernel_rfl) (Eq.mpr (by kernel_rfl) h)
def vQbo (r_ : Option Addr) (H : Heap) (k : Int → Heap → Prop) : Prop :=
 Nw #[.string (⟨#[61, 61]⟩ : ByteArray), .string (⟨#[33, 61]⟩ : ByteArray), .string (⟨#[60, 61]⟩ : ByteArray), .string (⟨#[62, 61]⟩ : ByteArray), .string (⟨#[38, 38]⟩ : ByteArray), .string (⟨#[124, 124]⟩ : ByteArray)] TQae H fun b1 H1 =>
 LoopT (σ := Int) (fun next1 s1 H2 =>
 Br (decide (s1 < 6)) (
 IxA 1 ⟨some (adr b1), 6, 6⟩ s1 fun a1 =>
 Ld .str a1 H2 fun (x1 : ByteArray) =>
 CallT Pg fQby [.pointer r_] (.one (.c .str)) H2 fun (r1 : ByteArray) H3 =>
 CallT Pg fQb0 [.string r1, .string x1] (.one (.c .bool)) H3 fun (r2 : Bool) H4 =>
 Br r2 (
 k (x1.size : Int) H4) (
 Lt (IntKind.wrap .i64 (s1 + 1)) fun t1 =>
 next1 t1 H4)) (
 NilCk r_ fun a2 =>
 Ld .str a2 H2 fun (x2 : ByteArray) =>
 NilCk r_ fun a3 =>
 Ld (.int .i64) (a3.add 1) H2 fun (x3 : Int) =>
 StrI x2 x3 fun b2 =>
 CallT Pg fQbz [.string (⟨#[43, 45, 42, 47, 37, 60, 62, 33, 61, 40, 41, 123, 125, 44, 59, 58, 63, 46]⟩ : ByteArray), .int .u8 b2] (.one (.c (.int .i64))) H2 fun (r3 : Int) H5 =>
 Stab [(a3.add 1, .int .i64 x3), (a2, .string x2)] H5 <|
 Br (decide (r3 ≥ 0)) (
 k 1 H5) (
 k 0 H5))) 0 H1
def h_lex_reader_sign : Hint := (.two .no (.two (.two .no (.one (.loop [(7, (.c (.int .i64)))] .no))) .no))
theorem cQbo (r_ : Option Addr) {H : Heap} {k : Int → Heap → Prop} (h : vQbo r_ H k) : CallT Pg fQb2 [.pointer r_] (.one (.c (.int .i64))) H k :=
 call_of_E (h := h_lex_reader_sign) Pg_mixed Tryz.func110 (by kernel_rfl) (by kernel_rfl) (by kernel_rfl) (by kernel_rfl) (Eq.mpr (by kernel_rfl) h)
def vQbp (r_ : Option Addr) (is_ : Value) (H : Heap) (k : Int → Heap → Prop) : Prop :=
 LoopT (σ := Int) (fun next1 s1 H1 =>
 Jn (σ := Bool) (fun kk1 =>
 NilCk r_ fun a1 =>
 Ld (.int .i64) (a1.add 1) H1 fun (x1 : Int) =>
 Lt (IntKind.wrap .i64 (x1 + s1)) fun t1 =>
 NilCk r_ fun a2 =>
 Ld .str a2 H1 fun (x2 : ByteArray) =>
 Br (decide (t1 < (x2.size : Int))) (
 NilCk r_ fun a3 =>
 Ld .str a3 H1 fun (x3 : ByteArray) =>
 NilCk r_ fun a4 =>
 Ld (.int .i64) (a4.add 1) H1 fun (x4 : Int) =>
 Lt (IntKind.wrap .i64 (x4 + s1)) fun t2 =>
 StrI x3 t2 fun b1 =>
 CallX Pg is_ [.int .u8 b1] (.one (.c .bool)) H1 fun (r1 : Bool) H3 =>
 Stab [(a4.add 1, .int .i64 x4), (a3, .string x3), (a2, .string x2), (a1.add 1, .int .i64 x1)] H3 <|
 kk1 r1 H3) (
 kk1 false H1)) fun j1 H2 =>
 Br j1 (
 Lt (IntKind.wrap .i64 (s1 + 1)) fun t3 =>
 next1 t3 H2) (
 k s1 H2)) 0 H
def h_lex_reader_while : Hint := (.two .no (.two .no (.two (.one (.loop [(5, (.c (.int .i64)))] (.two (.two (.join [(32, (.c .bool))] .no) .no) .no))) .no)))
theorem cQbp (r_ : Option Addr) (is_ : Value) {H : Heap} {k : Int → Heap → Prop} (h : vQbp r_ is_ H k) : CallT Pg fQb3 [.pointer r_, is_] (.one (.c (.int .i64))) H k :=
 call_of_E (h := h_lex_reader_while) Pg_mixed Tryz.func111 (by kernel_rfl) (by kernel_rfl) (by kernel_rfl) (by kernel_rfl) (Eq.mpr (by kernel_rfl) h)
def vQbq (c_ : Int) (H : Heap) (k : Bool → Heap → Prop) : Prop :=
 Jn (σ := Bool) (fun kk1 =>
 CallT Pg fQbr [.int .u8 c_] (.one (.c .bool)) H fun (r1 : Bool) H2 =>
 Br r1 (
 kk1 true H2) (
 CallT Pg fQbs [.int .u8 c_] (.one (.c .bool)) H2 fun (r2 : Bool) H3 =>
 Br r2 (
 kk1 true H3) (
 kk1 (c_ == 95) H3))) fun j1 H1 =>
 k j1 H1
def h_lex_reader_word_1 : Hint := (.two .no (.two (.join [(2, (.c .bool))] .no) .no))
theorem cQbq (c_ : Int) {H : Heap} {k : Bool → Heap → Prop} (h : vQbq c_ H k) : CallT Pg fQb4 [.int .u8 c_] (.one (.c .bool)) H k :=
 call_of_E (h := h_lex_reader_word_1) Pg_mixed Tryz.func112 (by kernel_rfl) (by kernel_rfl) (by kernel_rfl) (by kernel_rfl) (Eq.mpr (by kernel_rfl) h)
def vQbr  (H : Heap) (k : Sl → Heap → Prop) : Prop :=
 CallT Pg fQb6 [.string (⟨#[97, 98, 115, 32, 97, 100, 100, 32, 100, 105, 101, 32, 101, 108, 115, 101, 32, 101, 109, 105, 116, 32, 102, 117, 110, 99, 32, 104, 97, 115, 32, 105, 102, 32, 105, 110, 112, 117, 116, 32, 108, 101, 116, 32, 109, 97, 120, 32, 109, 101, 32, 109, 105, 110, 32, 114, 97, 110, 100, 32, 114, 101, 97, 100, 115, 32, 114, 101, 109, 111, 118, 101, 32, 114, 101, 112, 101, 97, 116, 32, 114, 101, 116, 117, 114, 110, 32, 115, 112, 97, 119, 110, 32, 115, 116, 111, 112, 32, 115, 121, 115, 116, 101, 109, 32, 116, 105, 99, 107, 32, 119, 104, 105, 108, 101, 32, 119, 105, 116, 104, 32, 119, 105, 116, 104, 111, 117, 116, 32, 119, 114, 105, 116, 101, 115]⟩ : ByteArray)] (.one (.c .sl)) H fun (r1 : Sl) H1 =>
 k r1 H1
def h_lex_Words : Hint := .no
theorem cQbr  {H : Heap} {k : Sl → Heap → Prop} (h : vQbr  H k) : CallT Pg fQav [] (.one (.c .sl)) H k :=
 call_of_E (h := h_lex_Words) Pg_mixed Tryz.func126 (by kernel_rfl) (by kernel_rfl) (by kernel_rfl) (by kernel_rfl) (Eq.mpr (by kernel_rfl) h)
end
end Go.Proofs.YtfpmgpblhhcpgaaGreatDoor
