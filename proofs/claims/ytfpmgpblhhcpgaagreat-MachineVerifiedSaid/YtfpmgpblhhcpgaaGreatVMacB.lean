import Derived.Test.YtfpmgpblhhcpgaaGreatVMac
import Derived.Test.YtfpmgpblhhcpgaaGreatHcLists
import Derived.KernelRfl
import Derived.Test.YtfpmgpblhhcpgaaGreatProg
namespace Go.Proofs.YtfpmgpblhhcpgaaGreat
set_option linter.unusedVariables false
set_option linter.unusedSimpArgs false
set_option maxRecDepth 100000
section
open Hc
abbrev TQau : TypeId := 127
abbrev TQav : TypeId := 57
abbrev TQaw : TypeId := 55
abbrev TQax : TypeId := 190
abbrev TQay : TypeId := 192
abbrev TQaz : TypeId := 130
abbrev TQa0 : TypeId := 82
abbrev fQbl : FuncId := 8
abbrev fQbm : FuncId := 10
abbrev fQbn : FuncId := 22
abbrev fQbo : FuncId := 23
abbrev fQbp : FuncId := 24
abbrev fQbq : FuncId := 25
abbrev fQbr : FuncId := 47
abbrev fQbs : FuncId := 48
abbrev fQbt : FuncId := 49
abbrev fQbu : FuncId := 50
abbrev fQbv : FuncId := 51
abbrev fQbw : FuncId := 52
abbrev fQbx : FuncId := 53
abbrev fQby : FuncId := 54
abbrev fQbz : FuncId := 88
abbrev fQb0 : FuncId := 89
abbrev fQb1 : FuncId := 90
abbrev fQb2 : FuncId := 91
abbrev fQb3 : FuncId := 92
abbrev fQb4 : FuncId := 93
abbrev fQb5 : FuncId := 94
abbrev fQb6 : FuncId := 95
abbrev fQb7 : FuncId := 142
abbrev fQb8 : FuncId := 143
abbrev fQb9 : FuncId := 144
abbrev fQca : FuncId := 145
abbrev fQcb : FuncId := 146
abbrev fQcc : FuncId := 187
abbrev fQcd : FuncId := 188
def vQbh (p_ : Sl × Sl) (system_ : Int) (e_ : Int × Int × Int × Sl × Int × Int × Sl) (most_ : Int) (H : Heap) (k : Bool → Heap → Prop) : Prop :=
 Nw #[slV p_.1, slV p_.2] TQaj H fun b1 H1 =>
 Nw #[.int .i64 e_.1, .int .i64 e_.2.1, .int .i64 e_.2.2.1, slV e_.2.2.2.1, .int .i64 e_.2.2.2.2.1, .int .i64 e_.2.2.2.2.2.1, slV e_.2.2.2.2.2.2] TQae H1 fun b2 H2 =>
 LdC [.sl, .sl] (adr b1) H2 fun (c1 : Sl × Sl) =>
 LdC [(.int .i64), (.int .i64), (.int .i64), .sl, (.int .i64), (.int .i64), .sl] (adr b2) H2 fun (c2 : Int × Int × Int × Sl × Int × Int × Sl) =>
 CallT Pg fQbn [.agg #[slV c1.1, slV c1.2], .int .i64 system_, .agg #[.int .i64 c2.1, .int .i64 c2.2.1, .int .i64 c2.2.2.1, slV c2.2.2.2.1, .int .i64 c2.2.2.2.2.1, .int .i64 c2.2.2.2.2.2.1, slV c2.2.2.2.2.2.2], .int .i64 most_] (.one (.c (.int .i64))) H2 fun (r1 : Int) H3 =>
 k (decide (r1 ≥ most_)) H3
def h_R_Long : Hint := .no
theorem cQbh (p_ : Sl × Sl) (system_ : Int) (e_ : Int × Int × Int × Sl × Int × Int × Sl) (most_ : Int) {H : Heap} {k : Bool → Heap → Prop} (h : vQbh p_ system_ e_ most_ H k) : CallT Pg fQbl [.agg #[slV p_.1, slV p_.2], .int .i64 system_, .agg #[.int .i64 e_.1, .int .i64 e_.2.1, .int .i64 e_.2.2.1, slV e_.2.2.2.1, .int .i64 e_.2.2.2.2.1, .int .i64 e_.2.2.2.2.2.1, slV e_.2.2.2.2.2.2], .int .i64 most_] (.one (.c .bool)) H k :=
 call_of_E (h := h_R_Long) Pg_mixed Tryz.func8 (by kernel_rfl) (by kernel_rfl) (by kernel_rfl) (by kernel_rfl) (Eq.mpr (by kernel_rfl) h)
def vQbi (p_ : Sl × Sl) (system_ : Int) (e_ : Int × Int × Int × Sl × Int × Int × Sl) (most_ : Int) (H : Heap) (k : Int → Heap → Prop) : Prop :=
 Nw #[slV p_.1, slV p_.2] TQaj H fun b1 H1 =>
 Nw #[.int .i64 e_.1, .int .i64 e_.2.1, .int .i64 e_.2.2.1, slV e_.2.2.2.1, .int .i64 e_.2.2.2.2.1, .int .i64 e_.2.2.2.2.2.1, slV e_.2.2.2.2.2.2] TQae H1 fun b2 H2 =>
 Jn (σ := Bool) (fun kk1 =>
 Br (decide (system_ < 0)) (
 kk1 true H2) (
 Ld .sl (adr b1) H2 fun (x1 : Sl) =>
 kk1 (decide (system_ ≥ (x1.len : Int))) H2)) fun j1 H3 =>
 Br j1 (
 k 0 H3) (
 LdC [.sl, .sl] (adr b1) H3 fun (c1 : Sl × Sl) =>
 LdC [(.int .i64), (.int .i64), (.int .i64), .sl, (.int .i64), (.int .i64), .sl] (adr b2) H3 fun (c2 : Int × Int × Int × Sl × Int × Int × Sl) =>
 CallT Pg fQbo [.agg #[slV c1.1, slV c1.2], .int .i64 system_, .agg #[.int .i64 c2.1, .int .i64 c2.2.1, .int .i64 c2.2.2.1, slV c2.2.2.2.1, .int .i64 c2.2.2.2.2.1, .int .i64 c2.2.2.2.2.2.1, slV c2.2.2.2.2.2.2]] (.one (.c .ptr)) H3 fun (r1 : Option Addr) H4 =>
 LoopT (σ := Int) (fun next1 s1 H5 =>
 Jn (σ := Bool) (fun kk2 =>
 Br (decide (s1 < most_)) (
 NilCk r1 fun a1 =>
 Ld .bool (a1.add 28) H5 fun (x2 : Bool) =>
 kk2 (!x2) H5) (
 kk2 false H5)) fun j2 H6 =>
 Br j2 (
 Lt (IntKind.wrap .i64 (s1 + 1)) fun t1 =>
 CallT Pg fQbp [.pointer r1] (.one (.c (.int .i64))) H6 fun (r2 : Int) H7 =>
 Br (r2 != 0) (
 k t1 H7) (
 next1 t1 H7)) (
 k s1 H6)) 0 H4)
def h_R_Count : Hint := (.two .no (.two (.two (.join [(20, (.c .bool))] .no) .no) (.two .no (.two .no (.two (.one (.loop [(10, (.c (.int .i64)))] (.two (.two (.join [(34, (.c .bool))] .no) .no) .no))) .no)))))
theorem cQbi (p_ : Sl × Sl) (system_ : Int) (e_ : Int × Int × Int × Sl × Int × Int × Sl) (most_ : Int) {H : Heap} {k : Int → Heap → Prop} (h : vQbi p_ system_ e_ most_ H k) : CallT Pg fQbn [.agg #[slV p_.1, slV p_.2], .int .i64 system_, .agg #[.int .i64 e_.1, .int .i64 e_.2.1, .int .i64 e_.2.2.1, slV e_.2.2.2.1, .int .i64 e_.2.2.2.2.1, .int .i64 e_.2.2.2.2.2.1, slV e_.2.2.2.2.2.2], .int .i64 most_] (.one (.c (.int .i64))) H k :=
 call_of_E (h := h_R_Count) Pg_mixed Tryz.func22 (by kernel_rfl) (by kernel_rfl) (by kernel_rfl) (by kernel_rfl) (Eq.mpr (by kernel_rfl) h)
def vQbj (p_ : Sl × Sl) (system_ : Int) (e_ : Int × Int × Int × Sl × Int × Int × Sl) (H : Heap) (k : Option Addr → Heap → Prop) : Prop :=
 Nw #[slV p_.1, slV p_.2] TQaj H fun b1 H1 =>
 Nw #[.int .i64 e_.1, .int .i64 e_.2.1, .int .i64 e_.2.2.1, slV e_.2.2.2.1, .int .i64 e_.2.2.2.2.1, .int .i64 e_.2.2.2.2.2.1, slV e_.2.2.2.2.2.2] TQae H1 fun b2 H2 =>
 Ld .sl (adr b1) H2 fun (x1 : Sl) =>
 IxA 8 x1 system_ fun a1 =>
 LdC [.sl, .sl, .sl, .sl, .str, (.int .i64), (.int .i64), .sl] a1 H2 fun (c1 : Sl × Sl × Sl × Sl × ByteArray × Int × Int × Sl) =>
 Nw #[.slice none 0 0, .slice none 0 0, .slice none 0 0, .slice none 0 0, .string ByteArray.empty, .int .i64 0, .int .i64 0, .slice none 0 0] TQaw H2 fun b3 H3 =>
 St ((adr b3).add 0) (slV c1.1) H3 fun H4 =>
 St ((adr b3).add 1) (slV c1.2.1) H4 fun H5 =>
 St ((adr b3).add 2) (slV c1.2.2.1) H5 fun H6 =>
 St ((adr b3).add 3) (slV c1.2.2.2.1) H6 fun H7 =>
 St ((adr b3).add 4) (.string c1.2.2.2.2.1) H7 fun H8 =>
 St ((adr b3).add 5) (.int .i64 c1.2.2.2.2.2.1) H8 fun H9 =>
 St ((adr b3).add 6) (.int .i64 c1.2.2.2.2.2.2.1) H9 fun H10 =>
 St ((adr b3).add 7) (slV c1.2.2.2.2.2.2.2) H10 fun H11 =>
 LdC [.sl, .sl] (adr b1) H11 fun (c2 : Sl × Sl) =>
 LdC [.sl, .sl, .sl, .sl, .str, (.int .i64), (.int .i64), .sl] (adr b3) H11 fun (c3 : Sl × Sl × Sl × Sl × ByteArray × Int × Int × Sl) =>
 LdC [(.int .i64), (.int .i64), (.int .i64), .sl, (.int .i64), (.int .i64), .sl] (adr b2) H11 fun (c4 : Int × Int × Int × Sl × Int × Int × Sl) =>
 Ld .sl (((adr b2).add 4).add 2) H11 fun (x2 : Sl) =>
 CallT Pg fQbr [slV x2] (.one (.c .sl)) H11 fun (r1 : Sl) H12 =>
 Stab [((adr b2).add 0, .int .i64 c4.1), ((adr b2).add 1, .int .i64 c4.2.1), ((adr b2).add 2, .int .i64 c4.2.2.1), ((adr b2).add 3, slV c4.2.2.2.1), ((adr b2).add 4, .int .i64 c4.2.2.2.2.1), ((adr b2).add 5, .int .i64 c4.2.2.2.2.2.1), ((adr b2).add 6, slV c4.2.2.2.2.2.2), ((adr b3).add 0, slV c3.1), ((adr b3).add 1, slV c3.2.1), ((adr b3).add 2, slV c3.2.2.1), ((adr b3).add 3, slV c3.2.2.2.1), ((adr b3).add 4, .string c3.2.2.2.2.1), ((adr b3).add 5, .int .i64 c3.2.2.2.2.2.1), ((adr b3).add 6, .int .i64 c3.2.2.2.2.2.2.1), ((adr b3).add 7, slV c3.2.2.2.2.2.2.2), ((adr b1).add 0, slV c2.1), ((adr b1).add 1, slV c2.2)] H12 <|
 Nw #[slV c2.1, slV c2.2, slV c3.1, slV c3.2.1, slV c3.2.2.1, slV c3.2.2.2.1, .string c3.2.2.2.2.1, .int .i64 c3.2.2.2.2.2.1, .int .i64 c3.2.2.2.2.2.2.1, slV c3.2.2.2.2.2.2.2, .int .i64 system_, .int .i64 c4.1, .int .i64 c4.2.1, .int .i64 c4.2.2.1, slV c4.2.2.2.1, .int .i64 c4.2.2.2.2.1, .int .i64 c4.2.2.2.2.2.1, slV c4.2.2.2.2.2.2, slV r1, .slice none 0 0, .pointer none, .int .i64 0, .slice none 0 0, .slice none 0 0, .slice none 0 0, .slice none 0 0, .int .i64 0, .int .i64 0, .bool false] TQa0 H12 fun b4 H13 =>
 Stab [(((adr b2).add 4).add 2, slV x2), ((adr b2).add 0, .int .i64 c4.1), ((adr b2).add 1, .int .i64 c4.2.1), ((adr b2).add 2, .int .i64 c4.2.2.1), ((adr b2).add 3, slV c4.2.2.2.1), ((adr b2).add 4, .int .i64 c4.2.2.2.2.1), ((adr b2).add 5, .int .i64 c4.2.2.2.2.2.1), ((adr b2).add 6, slV c4.2.2.2.2.2.2), ((adr b3).add 0, slV c3.1), ((adr b3).add 1, slV c3.2.1), ((adr b3).add 2, slV c3.2.2.1), ((adr b3).add 3, slV c3.2.2.2.1), ((adr b3).add 4, .string c3.2.2.2.2.1), ((adr b3).add 5, .int .i64 c3.2.2.2.2.2.1), ((adr b3).add 6, .int .i64 c3.2.2.2.2.2.2.1), ((adr b3).add 7, slV c3.2.2.2.2.2.2.2), ((adr b1).add 0, slV c2.1), ((adr b1).add 1, slV c2.2)] H13 <|
 Ld (.int .i64) ((adr b2).add 1) H13 fun (x3 : Int) =>
 Ld (.int .i64) (adr b2) H13 fun (x4 : Int) =>
 Ld (.int .i64) ((adr b2).add 4) H13 fun (x5 : Int) =>
 CallT Pg fQbs [.int .i64 x3, .int .i64 x4, .int .i64 system_, .int .i64 x5] (.one (.c .ptr)) H13 fun (r2 : Option Addr) H14 =>
 NilCk (some (adr b4)) fun a2 =>
 St (a2.add 20) (.pointer r2) H14 fun H15 =>
 Ld .sl (((adr b3).add 4).add 3) H15 fun (x6 : Sl) =>
 LdC [.str, (.int .i64), (.int .i64), .sl] ((adr b3).add 4) H15 fun (c5 : ByteArray × Int × Int × Sl) =>
 CallT Pg fQbt [.agg #[.string c5.1, .int .i64 c5.2.1, .int .i64 c5.2.2.1, slV c5.2.2.2], .slice none 0 0] (.one (.c .sl)) H15 fun (r3 : Sl) H16 =>
 Stab [(((adr b3).add 4).add 3, slV x6)] H16 <|
 Nw #[.int .i64 (-1), slV x6, slV r3, .slice none 0 0, .int .i64 0] TQaz H16 fun b5 H17 =>
 Stab [(((adr b3).add 4).add 0, .string c5.1), (((adr b3).add 4).add 1, .int .i64 c5.2.1), (((adr b3).add 4).add 2, .int .i64 c5.2.2.1), (((adr b3).add 4).add 3, slV c5.2.2.2), (((adr b3).add 4).add 3, slV x6)] H17 <|
 Nw #[.pointer (some (adr b5))] TQau H17 fun b6 H18 =>
 Stab [(((adr b3).add 4).add 0, .string c5.1), (((adr b3).add 4).add 1, .int .i64 c5.2.1), (((adr b3).add 4).add 2, .int .i64 c5.2.2.1), (((adr b3).add 4).add 3, slV c5.2.2.2), (((adr b3).add 4).add 3, slV x6)] H18 <|
 NilCk (some (adr b4)) fun a3 =>
 St (a3.add 19) (.slice (some (adr b6)) 1 1) H18 fun H19 =>
 k (some (adr b4)) H19
def h_R_begun : Hint := .no
theorem cQbj (p_ : Sl × Sl) (system_ : Int) (e_ : Int × Int × Int × Sl × Int × Int × Sl) {H : Heap} {k : Option Addr → Heap → Prop} (h : vQbj p_ system_ e_ H k) : CallT Pg fQbo [.agg #[slV p_.1, slV p_.2], .int .i64 system_, .agg #[.int .i64 e_.1, .int .i64 e_.2.1, .int .i64 e_.2.2.1, slV e_.2.2.2.1, .int .i64 e_.2.2.2.2.1, .int .i64 e_.2.2.2.2.2.1, slV e_.2.2.2.2.2.2]] (.one (.c .ptr)) H k :=
 call_of_E (h := h_R_begun) Pg_mixed Tryz.func23 (by kernel_rfl) (by kernel_rfl) (by kernel_rfl) (by kernel_rfl) (Eq.mpr (by kernel_rfl) h)
def vQbk (r_ : Option Addr) (H : Heap) (k : Int → Heap → Prop) : Prop :=
 NilCk r_ fun a1 =>
 Ld .sl (a1.add 19) H fun (x1 : Sl) =>
 NilCk r_ fun a2 =>
 Ld .sl (a2.add 19) H fun (x2 : Sl) =>
 Lt (IntKind.wrap .i64 ((x2.len : Int) - 1)) fun t1 =>
 IxA 1 x1 t1 fun a3 =>
 Ld .ptr a3 H fun (x3 : Option Addr) =>
 Jn (σ := Bool) (fun kk1 =>
 NilCk x3 fun a4 =>
 Ld (.int .i64) (a4.add 4) H fun (x4 : Int) =>
 Br (decide (x4 < 0)) (
 kk1 true H) (
 NilCk x3 fun a5 =>
 Ld (.int .i64) (a5.add 4) H fun (x5 : Int) =>
 NilCk x3 fun a6 =>
 Ld .sl (a6.add 1) H fun (x6 : Sl) =>
 kk1 (decide (x5 ≥ (x6.len : Int))) H)) fun j1 H1 =>
 Br j1 (
 k 150 H1) (
 NilCk r_ fun a7 =>
 Ld (.int .i64) (a7.add 21) H1 fun (x7 : Int) =>
 Br (decide (x7 ≥ 40000)) (
 k 153 H1) (
 NilCk r_ fun a8 =>
 Ld (.int .i64) (a8.add 21) H1 fun (x8 : Int) =>
 Lt (IntKind.wrap .i64 (x8 + 1)) fun t2 =>
 NilCk r_ fun a9 =>
 St (a9.add 21) (.int .i64 t2) H1 fun H2 =>
 NilCk x3 fun a10 =>
 Ld .sl (a10.add 1) H2 fun (x9 : Sl) =>
 NilCk x3 fun a11 =>
 Ld (.int .i64) (a11.add 4) H2 fun (x10 : Int) =>
 IxA 2 x9 x10 fun a12 =>
 LdC [(.int .i64), (.int .i64)] a12 H2 fun (c1 : Int × Int) =>
 Nw #[.int .i64 0, .int .i64 0] TQag H2 fun b1 H3 =>
 Stab [(a12.add 0, .int .i64 c1.1), (a12.add 1, .int .i64 c1.2), (a11.add 4, .int .i64 x10), (a10.add 1, slV x9)] H3 <|
 St ((adr b1).add 0) (.int .i64 c1.1) H3 fun H4 =>
 St ((adr b1).add 1) (.int .i64 c1.2) H4 fun H5 =>
 Ld (.int .i64) (adr b1) H5 fun (x11 : Int) =>
 CallT Pg fQbu [.int .i64 x11] (.one (.c .bool)) H5 fun (r1 : Bool) H6 =>
 Br (!r1) (
 k 152 H6) (
 LdC [(.int .i64), (.int .i64)] (adr b1) H6 fun (c2 : Int × Int) =>
 NilCk r_ fun a13 =>
 Ld .sl (a13.add 1) H6 fun (x12 : Sl) =>
 CallT Pg fQbv [.agg #[.int .i64 c2.1, .int .i64 c2.2], slV x12] (.tup [(.c (.int .i64)), (.c (.int .i64))]) H6 fun (r2 : Int × Int) H7 =>
 Jn (σ := Bool) (fun kk2 =>
 NilCk x3 fun a14 =>
 Ld .sl (a14.add 3) H7 fun (x13 : Sl) =>
 Br (decide ((x13.len : Int) < r2.1)) (
 kk2 true H7) (
 NilCk x3 fun a15 =>
 Ld .sl (a15.add 3) H7 fun (x14 : Sl) =>
 Lt (IntKind.wrap .i64 ((x14.len : Int) - r2.1)) fun t3 =>
 Lt (IntKind.wrap .i64 (t3 + r2.2)) fun t4 =>
 kk2 (decide (t4 > 64)) H7)) fun j2 H8 =>
 Br j2 (
 k 151 H8) (
 LdC [(.int .i64), (.int .i64)] (adr b1) H8 fun (c3 : Int × Int) =>
 CallT Pg fQbw [.pointer r_, .pointer x3, .agg #[.int .i64 c3.1, .int .i64 c3.2]] (.one (.c .bool)) H8 fun (r3 : Bool) H9 =>
 Br (!r3) (
 k 152 H9) (
 Jn (σ := Bool) (fun kk3 =>
 Ld (.int .i64) (adr b1) H9 fun (x15 : Int) =>
 Br (x15 == 27) (
 NilCk r_ fun a16 =>
 Ld .sl ((a16.add 23).add 1) H9 fun (x16 : Sl) =>
 Br (decide ((x16.len : Int) ≥ 16)) (
 kk3 true H9) (
 Ld (.int .i64) (adr b1) H9 fun (x17 : Int) =>
 Br (x17 == 25) (
 NilCk r_ fun a17 =>
 Ld .sl ((a17.add 23).add 2) H9 fun (x18 : Sl) =>
 kk3 (decide ((x18.len : Int) ≥ 16)) H9) (
 kk3 false H9))) (
 Ld (.int .i64) (adr b1) H9 fun (x19 : Int) =>
 Br (decide (x19 ≥ 28)) (
 Ld (.int .i64) (adr b1) H9 fun (x20 : Int) =>
 Br (decide (x20 ≤ 30)) (
 NilCk r_ fun a18 =>
 Ld .sl ((a18.add 23).add 1) H9 fun (x21 : Sl) =>
 Br (decide ((x21.len : Int) ≥ 16)) (
 kk3 true H9) (
 Ld (.int .i64) (adr b1) H9 fun (x22 : Int) =>
 Br (x22 == 25) (
 NilCk r_ fun a19 =>
 Ld .sl ((a19.add 23).add 2) H9 fun (x23 : Sl) =>
 kk3 (decide ((x23.len : Int) ≥ 16)) H9) (
 kk3 false H9))) (
 Ld (.int .i64) (adr b1) H9 fun (x24 : Int) =>
 Br (x24 == 25) (
 NilCk r_ fun a20 =>
 Ld .sl ((a20.add 23).add 2) H9 fun (x25 : Sl) =>
 kk3 (decide ((x25.len : Int) ≥ 16)) H9) (
 kk3 false H9))) (
 Ld (.int .i64) (adr b1) H9 fun (x26 : Int) =>
 Br (x26 == 25) (
 NilCk r_ fun a21 =>
 Ld .sl ((a21.add 23).add 2) H9 fun (x27 : Sl) =>
 kk3 (decide ((x27.len : Int) ≥ 16)) H9) (
 kk3 false H9)))) fun j3 H10 =>
 Br j3 (
 k 102 H10) (
 NilCk x3 fun a22 =>
 Ld .sl (a22.add 3) H10 fun (x28 : Sl) =>
 NilCk x3 fun a23 =>
 Ld .sl (a23.add 3) H10 fun (x29 : Sl) =>
 Lt (IntKind.wrap .i64 ((x29.len : Int) - r2.1)) fun t5 =>
 SlA 1 x28 t5 (x28.len : Nat) (x28.cap : Nat) fun l1 =>
 App TQaq 1 8 #[.int .i64 0] ⟨none, 0, 0⟩ l1 H10 fun l2 H11 =>
 Stab [(a23.add 3, slV x29), (a22.add 3, slV x28)] H11 <|
 NilCk x3 fun a24 =>
 Ld .sl (a24.add 3) H11 fun (x30 : Sl) =>
 NilCk x3 fun a25 =>
 Ld .sl (a25.add 3) H11 fun (x31 : Sl) =>
 Lt (IntKind.wrap .i64 ((x31.len : Int) - r2.1)) fun t6 =>
 SlA 1 x30 0 t6 (x30.cap : Nat) fun l3 =>
 NilCk x3 fun a26 =>
 St (a26.add 3) (slV l3) H11 fun H12 =>
 NilCk x3 fun a27 =>
 Ld (.int .i64) (a27.add 4) H12 fun (x32 : Int) =>
 Lt (IntKind.wrap .i64 (x32 + 1)) fun t7 =>
 NilCk x3 fun a28 =>
 St (a28.add 4) (.int .i64 t7) H12 fun H13 =>
 LdC [(.int .i64), (.int .i64)] (adr b1) H13 fun (c4 : Int × Int) =>
 CallT Pg fQbx [.pointer r_, .pointer x3, .agg #[.int .i64 c4.1, .int .i64 c4.2], slV l2] (.one (.c (.int .i64))) H13 fun (r4 : Int) H14 =>
 k r4 H14))))))
def h_R_run_one : Hint := (.two .no (.two .no (.two (.two (.join [(38, (.c .bool))] .no) .no) (.two .no (.two .no (.two .no (.two .no (.two .no (.two .no (.two (.two (.join [(94, (.c .bool))] .no) .no) (.two .no (.two .no (.two (.two (.join [(136, (.c .bool))] .no) .no) .no)))))))))))))
theorem cQbk (r_ : Option Addr) {H : Heap} {k : Int → Heap → Prop} (h : vQbk r_ H k) : CallT Pg fQbp [.pointer r_] (.one (.c (.int .i64))) H k :=
 call_of_E (h := h_R_run_one) Pg_mixed Tryz.func24 (by kernel_rfl) (by kernel_rfl) (by kernel_rfl) (by kernel_rfl) (Eq.mpr (by kernel_rfl) h)
def vQbl (l_ : Sl) (H : Heap) (k : Sl → Heap → Prop) : Prop :=
 LoopT (σ := Sl × Int) (fun next1 s1 H1 =>
 Br (decide (s1.2 < (l_.len : Int))) (
 IxA 2 l_ s1.2 fun a1 =>
 Ld (.int .i64) a1 H1 fun (x1 : Int) =>
 IxA 2 l_ s1.2 fun a2 =>
 Ld .sl (a2.add 1) H1 fun (x2 : Sl) =>
 App TQaq 1 8 #[.int .i64 0] ⟨none, 0, 0⟩ x2 H1 fun l1 H2 =>
 Stab [(a1, .int .i64 x1)] H2 <|
 Nw #[.int .i64 x1, slV l1] TQai H2 fun b1 H3 =>
 Stab [(a2.add 1, slV x2), (a1, .int .i64 x1)] H3 <|
 App TQai 2 32 #[.int .i64 0, .slice none 0 0] s1.1 ⟨some (adr b1), 1, 1⟩ H3 fun l2 H4 =>
 Stab [(a2.add 1, slV x2), (a1, .int .i64 x1)] H4 <|
 Lt (IntKind.wrap .i64 (s1.2 + 1)) fun t1 =>
 next1 (l2, t1) H4) (
 k s1.1 H1)) (⟨none, 0, 0⟩, 0) H
def h_R_copied : Hint := (.two .no (.two .no (.two (.two .no (.one (.loop [(3, (.c .sl)), (4, (.c (.int .i64)))] .no))) .no)))
theorem cQbl (l_ : Sl) {H : Heap} {k : Sl → Heap → Prop} (h : vQbl l_ H k) : CallT Pg fQbr [slV l_] (.one (.c .sl)) H k :=
 call_of_E (h := h_R_copied) Pg_mixed Tryz.func47 (by kernel_rfl) (by kernel_rfl) (by kernel_rfl) (by kernel_rfl) (Eq.mpr (by kernel_rfl) h)
def vQbm (seed_ : Int) (frame_ : Int) (system_ : Int) (index_ : Int) (H : Heap) (k : Option Addr → Heap → Prop) : Prop :=
 CallT Pg fQbz [.int .u64 (IntKind.wrap .u64 seed_)] (.one (.c (.int .u64))) H fun (r1 : Int) H1 =>
 Lt (bits .xor .u64 r1 (IntKind.wrap .u64 frame_)) fun t1 =>
 CallT Pg fQbz [.int .u64 t1] (.one (.c (.int .u64))) H1 fun (r2 : Int) H2 =>
 Lt (bits .xor .u64 r2 (IntKind.wrap .u64 system_)) fun t2 =>
 CallT Pg fQbz [.int .u64 t2] (.one (.c (.int .u64))) H2 fun (r3 : Int) H3 =>
 Lt (bits .xor .u64 r3 (IntKind.wrap .u64 index_)) fun t3 =>
 CallT Pg fQbz [.int .u64 t3] (.one (.c (.int .u64))) H3 fun (r4 : Int) H4 =>
 Nw #[.int .u64 r4] TQax H4 fun b1 H5 =>
 k (some (adr b1)) H5
def h_R_New : Hint := .no
theorem cQbm (seed_ : Int) (frame_ : Int) (system_ : Int) (index_ : Int) {H : Heap} {k : Option Addr → Heap → Prop} (h : vQbm seed_ frame_ system_ index_ H k) : CallT Pg fQbs [.int .i64 seed_, .int .i64 frame_, .int .i64 system_, .int .i64 index_] (.one (.c .ptr)) H k :=
 call_of_E (h := h_R_New) Pg_mixed Tryz.func48 (by kernel_rfl) (by kernel_rfl) (by kernel_rfl) (by kernel_rfl) (Eq.mpr (by kernel_rfl) h)
def vQbn (r_ : ByteArray × Int × Int × Sl) (args_ : Sl) (H : Heap) (k : Sl → Heap → Prop) : Prop :=
 Nw #[.string r_.1, .int .i64 r_.2.1, .int .i64 r_.2.2.1, slV r_.2.2.2] TQak H fun b1 H1 =>
 Ld (.int .i64) ((adr b1).add 2) H1 fun (x1 : Int) =>
 Jn (σ := Int) (fun kk1 =>
 Br (decide (x1 < 0)) (
 kk1 0 H1) (
 kk1 x1 H1)) fun j1 H2 =>
 Jn (σ := Int) (fun kk2 =>
 Br (decide (j1 > 32)) (
 kk2 32 H2) (
 kk2 j1 H2)) fun j2 H3 =>
 App TQaq 1 8 #[.int .i64 0] ⟨none, 0, 0⟩ args_ H3 fun l1 H4 =>
 LoopT (σ := Sl) (fun next1 s1 H5 =>
 Br (decide ((s1.len : Int) < j2)) (
 Nw #[.int .i64 0] TQaq H5 fun b2 H6 =>
 App TQaq 1 8 #[.int .i64 0] s1 ⟨some (adr b2), 1, 1⟩ H6 fun l2 H7 =>
 next1 l2 H7) (
 k s1 H5)) l1 H4
def h_R_locals : Hint := (.two .no (.two .no (.two (.two .no (.join [(5, (.c (.int .i64)))] .no)) (.two (.two .no (.join [(5, (.c (.int .i64)))] .no)) (.two .no (.two .no (.two (.one (.loop [(6, (.c .sl))] .no)) .no)))))))
theorem cQbn (r_ : ByteArray × Int × Int × Sl) (args_ : Sl) {H : Heap} {k : Sl → Heap → Prop} (h : vQbn r_ args_ H k) : CallT Pg fQbt [.agg #[.string r_.1, .int .i64 r_.2.1, .int .i64 r_.2.2.1, slV r_.2.2.2], slV args_] (.one (.c .sl)) H k :=
 call_of_E (h := h_R_locals) Pg_mixed Tryz.func49 (by kernel_rfl) (by kernel_rfl) (by kernel_rfl) (by kernel_rfl) (Eq.mpr (by kernel_rfl) h)
def vQbo (op_ : Int) (H : Heap) (k : Bool → Heap → Prop) : Prop :=
 Jn (σ := Bool) (fun kk1 =>
 Br (decide (op_ ≥ 1)) (
 kk1 (decide (op_ ≤ 39)) H) (
 kk1 false H)) fun j1 H1 =>
 k j1 H1
def h_R_IsOp : Hint := (.two .no (.two (.join [(2, (.c .bool))] .no) .no))
theorem cQbo (op_ : Int) {H : Heap} {k : Bool → Heap → Prop} (h : vQbo op_ H k) : CallT Pg fQbu [.int .i64 op_] (.one (.c .bool)) H k :=
 call_of_E (h := h_R_IsOp) Pg_mixed Tryz.func50 (by kernel_rfl) (by kernel_rfl) (by kernel_rfl) (by kernel_rfl) (Eq.mpr (by kernel_rfl) h)
def vQbp (i_ : Int × Int) (funcs_ : Sl) (H : Heap) (k : Int × Int → Heap → Prop) : Prop :=
 Nw #[.int .i64 i_.1, .int .i64 i_.2] TQag H fun b1 H1 =>
 Ld (.int .i64) (adr b1) H1 fun (x1 : Int) =>
 CallT Pg fQbu [.int .i64 x1] (.one (.c .bool)) H1 fun (r1 : Bool) H2 =>
 Br (!r1) (
 k (0, 0) H2) (
 Ld (.int .i64) (adr b1) H2 fun (x2 : Int) =>
 (
 CallT Pg fQb0 [] (.one (.c .sl)) H2 fun (r2 : Sl) H3 =>
 Stab [(adr b1, .int .i64 x2)] H3 <|
 IxA 4 r2 x2 fun a1 =>
 LdC [.str, .bool, (.int .i64), (.int .i64)] a1 H3 fun (c1 : ByteArray × Bool × Int × Int) =>
 Nw #[.string ByteArray.empty, .bool false, .int .i64 0, .int .i64 0] TQay H3 fun b2 H4 =>
 Stab [(a1.add 0, .string c1.1), (a1.add 1, .bool c1.2.1), (a1.add 2, .int .i64 c1.2.2.1), (a1.add 3, .int .i64 c1.2.2.2), (adr b1, .int .i64 x2)] H4 <|
 St ((adr b2).add 0) (.string c1.1) H4 fun H5 =>
 St ((adr b2).add 1) (.bool c1.2.1) H5 fun H6 =>
 St ((adr b2).add 2) (.int .i64 c1.2.2.1) H6 fun H7 =>
 St ((adr b2).add 3) (.int .i64 c1.2.2.2) H7 fun H8 =>
 Ld (.int .i64) ((adr b2).add 2) H8 fun (x3 : Int) =>
 Br (x3 == (-1)) (
 Jn (σ := Bool) (fun kk1 =>
 Ld (.int .i64) ((adr b1).add 1) H8 fun (x4 : Int) =>
 Br (decide (x4 < 0)) (
 kk1 true H8) (
 Ld (.int .i64) ((adr b1).add 1) H8 fun (x5 : Int) =>
 Br (decide (x5 ≥ (funcs_.len : Int))) (
 kk1 true H8) (
 Ld (.int .i64) ((adr b1).add 1) H8 fun (x6 : Int) =>
 IxA 4 funcs_ x6 fun a2 =>
 Ld (.int .i64) (a2.add 1) H8 fun (x7 : Int) =>
 kk1 (decide (x7 < 0)) H8))) fun j1 H9 =>
 Br j1 (
 Ld (.int .i64) ((adr b2).add 3) H9 fun (x8 : Int) =>
 k (0, x8) H9) (
 Ld (.int .i64) ((adr b1).add 1) H9 fun (x9 : Int) =>
 IxA 4 funcs_ x9 fun a3 =>
 Ld (.int .i64) (a3.add 1) H9 fun (x10 : Int) =>
 Ld (.int .i64) ((adr b2).add 3) H9 fun (x11 : Int) =>
 k (x10, x11) H9)) (
 Ld (.int .i64) ((adr b2).add 2) H8 fun (x12 : Int) =>
 Br (x12 == (-2)) (
 Ld (.int .i64) ((adr b1).add 1) H8 fun (x13 : Int) =>
 Br (decide (x13 < 0)) (
 Ld (.int .i64) ((adr b2).add 3) H8 fun (x14 : Int) =>
 k (0, x14) H8) (
 Ld (.int .i64) ((adr b1).add 1) H8 fun (x15 : Int) =>
 Rem x15 8 fun t1 =>
 Ld (.int .i64) ((adr b2).add 3) H8 fun (x16 : Int) =>
 k (t1, x16) H8)) (
 Ld (.int .i64) ((adr b2).add 2) H8 fun (x17 : Int) =>
 Ld (.int .i64) ((adr b2).add 3) H8 fun (x18 : Int) =>
 k (x17, x18) H8))) ∧ (
 Nw #[.string ByteArray.empty, .bool false, .int .i64 0, .int .i64 0] TQay H2 fun b3 H10 =>
 Stab [(adr b1, .int .i64 x2)] H10 <|
 CallT Pg fQb0 [] (.one (.c .sl)) H10 fun (r3 : Sl) H11 =>
 Stab [(adr b1, .int .i64 x2)] H11 <|
 IxA 4 r3 x2 fun a4 =>
 LdC [.str, .bool, (.int .i64), (.int .i64)] a4 H11 fun (c2 : ByteArray × Bool × Int × Int) =>
 St ((adr b3).add 0) (.string c2.1) H11 fun H12 =>
 St ((adr b3).add 1) (.bool c2.2.1) H12 fun H13 =>
 St ((adr b3).add 2) (.int .i64 c2.2.2.1) H13 fun H14 =>
 St ((adr b3).add 3) (.int .i64 c2.2.2.2) H14 fun H15 =>
 Ld (.int .i64) ((adr b3).add 2) H15 fun (x19 : Int) =>
 Br (x19 == (-1)) (
 Jn (σ := Bool) (fun kk2 =>
 Ld (.int .i64) ((adr b1).add 1) H15 fun (x20 : Int) =>
 Br (decide (x20 < 0)) (
 kk2 true H15) (
 Ld (.int .i64) ((adr b1).add 1) H15 fun (x21 : Int) =>
 Br (decide (x21 ≥ (funcs_.len : Int))) (
 kk2 true H15) (
 Ld (.int .i64) ((adr b1).add 1) H15 fun (x22 : Int) =>
 IxA 4 funcs_ x22 fun a5 =>
 Ld (.int .i64) (a5.add 1) H15 fun (x23 : Int) =>
 kk2 (decide (x23 < 0)) H15))) fun j2 H16 =>
 Br j2 (
 Ld (.int .i64) ((adr b3).add 3) H16 fun (x24 : Int) =>
 k (0, x24) H16) (
 Ld (.int .i64) ((adr b1).add 1) H16 fun (x25 : Int) =>
 IxA 4 funcs_ x25 fun a6 =>
 Ld (.int .i64) (a6.add 1) H16 fun (x26 : Int) =>
 Ld (.int .i64) ((adr b3).add 3) H16 fun (x27 : Int) =>
 k (x26, x27) H16)) (
 Ld (.int .i64) ((adr b3).add 2) H15 fun (x28 : Int) =>
 Br (x28 == (-2)) (
 Ld (.int .i64) ((adr b1).add 1) H15 fun (x29 : Int) =>
 Br (decide (x29 < 0)) (
 Ld (.int .i64) ((adr b3).add 3) H15 fun (x30 : Int) =>
 k (0, x30) H15) (
 Ld (.int .i64) ((adr b1).add 1) H15 fun (x31 : Int) =>
 Rem x31 8 fun t2 =>
 Ld (.int .i64) ((adr b3).add 3) H15 fun (x32 : Int) =>
 k (t2, x32) H15)) (
 Ld (.int .i64) ((adr b3).add 2) H15 fun (x33 : Int) =>
 Ld (.int .i64) ((adr b3).add 3) H15 fun (x34 : Int) =>
 k (x33, x34) H15))) ∧ True)
def h_R_Effect : Hint := (.two .no (.two .no (.two .no (.two .no (.two (.two .no (.two (.two (.two (.join [(39, (.c .bool))] .no) .no) .no) .no)) .no)))))
theorem cQbp (i_ : Int × Int) (funcs_ : Sl) {H : Heap} {k : Int × Int → Heap → Prop} (h : vQbp i_ funcs_ H k) : CallT Pg fQbv [.agg #[.int .i64 i_.1, .int .i64 i_.2], slV funcs_] (.tup [(.c (.int .i64)), (.c (.int .i64))]) H k :=
 call_of_E (h := h_R_Effect) Pg_mixed Tryz.func51 (by kernel_rfl) (by kernel_rfl) (by kernel_rfl) (by kernel_rfl) (Eq.mpr (by kernel_rfl) h)
def vQbq (r_ : Option Addr) (a_ : Option Addr) (i_ : Int × Int) (H : Heap) (k : Bool → Heap → Prop) : Prop :=
 Nw #[.int .i64 i_.1, .int .i64 i_.2] TQag H fun b1 H1 =>
 Jn (σ := Bool) (fun kk1 =>
 NilCk a_ fun a1 =>
 Ld (.int .i64) a1 H1 fun (x1 : Int) =>
 Br (decide (x1 ≥ 0)) (
 Ld (.int .i64) (adr b1) H1 fun (x2 : Int) =>
 CallT Pg fQb1 [.int .i64 x2] (.one (.c .bool)) H1 fun (r1 : Bool) H3 =>
 kk1 r1 H3) (
 kk1 false H1)) fun j1 H2 =>
 Br j1 (
 k false H2) (
 Ld (.int .i64) (adr b1) H2 fun (x3 : Int) =>
 Jn (σ := Bool) (fun kk2 =>
 Br (x3 == 2) (
 kk2 true H2) (
 kk2 (x3 == 3) H2)) fun j2 H4 =>
 Br j2 (
 Jn (σ := Bool) (fun kk3 =>
 Ld (.int .i64) ((adr b1).add 1) H4 fun (x4 : Int) =>
 Br (decide (x4 ≥ 0)) (
 Ld (.int .i64) ((adr b1).add 1) H4 fun (x5 : Int) =>
 NilCk a_ fun a2 =>
 Ld .sl (a2.add 2) H4 fun (x6 : Sl) =>
 kk3 (decide (x5 < (x6.len : Int))) H4) (
 kk3 false H4)) fun j3 H5 =>
 k j3 H5) (
 Jn (σ := Bool) (fun kk4 =>
 Br (x3 == 4) (
 kk4 true H4) (
 kk4 (x3 == 5) H4)) fun j4 H6 =>
 Br j4 (
 Ld (.int .i64) ((adr b1).add 1) H6 fun (x7 : Int) =>
 Ld (.int .i64) (adr b1) H6 fun (x8 : Int) =>
 CallT Pg fQb2 [.pointer r_, .int .i64 x7, .bool (x8 == 5)] (.tup [(.c (.int .i64)), (.c (.int .i64)), (.c .bool)]) H6 fun (r2 : Int × Int × Bool) H7 =>
 k r2.2.2 H7) (
 Br (x3 == 21) (
 Jn (σ := Bool) (fun kk5 =>
 Ld (.int .i64) ((adr b1).add 1) H6 fun (x9 : Int) =>
 Br (decide (x9 ≥ 0)) (
 Ld (.int .i64) ((adr b1).add 1) H6 fun (x10 : Int) =>
 NilCk r_ fun a3 =>
 Ld .sl (a3.add 1) H6 fun (x11 : Sl) =>
 Br (decide (x10 < (x11.len : Int))) (
 NilCk r_ fun a4 =>
 Ld .sl (a4.add 19) H6 fun (x12 : Sl) =>
 kk5 (decide ((x12.len : Int) ≤ 16)) H6) (
 kk5 false H6)) (
 kk5 false H6)) fun j5 H8 =>
 k j5 H8) (
 Br (x3 == 22) (
 NilCk a_ fun a5 =>
 Ld (.int .i64) a5 H6 fun (x13 : Int) =>
 k (decide (x13 ≥ 0)) H6) (
 Jn (σ := Bool) (fun kk6 =>
 Br (x3 == 26) (
 kk6 true H6) (
 kk6 (x3 == 28) H6)) fun j6 H9 =>
 Br j6 (
 Jn (σ := Bool) (fun kk7 =>
 Ld (.int .i64) ((adr b1).add 1) H9 fun (x14 : Int) =>
 Br (decide (x14 ≥ 8)) (
 Ld (.int .i64) ((adr b1).add 1) H9 fun (x15 : Int) =>
 Quo .i64 x15 8 fun t1 =>
 Br (decide (t1 ≤ 12)) (
 Ld (.int .i64) (adr b1) H9 fun (x16 : Int) =>
 Br (x16 == 28) (
 kk7 true H9) (
 NilCk r_ fun a6 =>
 Ld .sl (a6.add 22) H9 fun (x17 : Sl) =>
 kk7 (decide ((x17.len : Int) < 12)) H9)) (
 kk7 false H9)) (
 kk7 false H9)) fun j7 H10 =>
 k j7 H10) (
 Jn (σ := Bool) (fun kk8 =>
 Br (x3 == 29) (
 kk8 true H9) (
 kk8 (x3 == 35) H9)) fun j8 H11 =>
 Br j8 (
 Jn (σ := Bool) (fun kk9 =>
 Ld (.int .i64) ((adr b1).add 1) H11 fun (x18 : Int) =>
 Br (decide (x18 ≥ 1)) (
 Ld (.int .i64) ((adr b1).add 1) H11 fun (x19 : Int) =>
 kk9 (decide (x19 ≤ 12)) H11) (
 kk9 false H11)) fun j9 H12 =>
 k j9 H12) (
 k true H11)))))))
def h_R_run_access : Hint := (.two .no (.two (.two (.join [(19, (.c .bool))] .no) .no) (.two (.two .no (.one (.two (.two .no (.join [(22, (.c .bool))] .no)) (.two (.two (.join [(6, (.c .bool))] .no) .no) (.two (.two .no (.join [(38, (.c .bool))] .no)) (.two .no (.two .no (.two (.two (.join [(6, (.c .bool))] .no) .no) (.two .no (.two .no (.two (.two .no (.join [(84, (.c .bool))] .no)) (.two (.two (.join [(6, (.c .bool))] .no) .no) (.two (.two .no (.join [(109, (.c .bool))] .no)) (.two (.two (.join [(6, (.c .bool))] .no) .no) .no)))))))))))))) .no)))
theorem cQbq (r_ : Option Addr) (a_ : Option Addr) (i_ : Int × Int) {H : Heap} {k : Bool → Heap → Prop} (h : vQbq r_ a_ i_ H k) : CallT Pg fQbw [.pointer r_, .pointer a_, .agg #[.int .i64 i_.1, .int .i64 i_.2]] (.one (.c .bool)) H k :=
 call_of_E (h := h_R_run_access) Pg_mixed Tryz.func52 (by kernel_rfl) (by kernel_rfl) (by kernel_rfl) (by kernel_rfl) (Eq.mpr (by kernel_rfl) h)
def vQbr (r_ : Option Addr) (a_ : Option Addr) (i_ : Int × Int) (l_ : Sl) (H : Heap) (k : Int → Heap → Prop) : Prop :=
 Nw #[.int .i64 i_.1, .int .i64 i_.2] TQag H fun b1 H1 =>
 NilCk r_ fun a1 =>
 LdC [(.int .i64), (.int .i64)] ((a1.add 11).add 4) H1 fun (c1 : Int × Int) =>
 Nw #[.int .i64 0, .int .i64 0] TQad H1 fun b2 H2 =>
 St ((adr b2).add 0) (.int .i64 c1.1) H2 fun H3 =>
 St ((adr b2).add 1) (.int .i64 c1.2) H3 fun H4 =>
 Ld (.int .i64) (adr b1) H4 fun (x1 : Int) =>
 Jn (σ := Unit) (fun kk1 =>
 Jn (σ := Unit) (fun kk2 =>
 Br (x1 == 3) (
 NilCk a_ fun a2 =>
 Ld .sl (a2.add 2) H4 fun (x2 : Sl) =>
 Ld (.int .i64) ((adr b1).add 1) H4 fun (x3 : Int) =>
 IxA 1 l_ 0 fun a3 =>
 Ld (.int .i64) a3 H4 fun (x4 : Int) =>
 IxA 1 x2 x3 fun a4 =>
 St a4 (.int .i64 x4) H4 fun H7 =>
 kk2 () H7) (
 Jn (σ := Unit) (fun kk3 =>
 Br (x1 == 5) (
 Ld (.int .i64) ((adr b1).add 1) H4 fun (x5 : Int) =>
 CallT Pg fQb2 [.pointer r_, .int .i64 x5, .bool true] (.tup [(.c (.int .i64)), (.c (.int .i64)), (.c .bool)]) H4 fun (r1 : Int × Int × Bool) H9 =>
 NilCk r_ fun a5 =>
 Ld .sl (a5.add 18) H9 fun (x6 : Sl) =>
 IxA 2 x6 r1.1 fun a6 =>
 Ld .sl (a6.add 1) H9 fun (x7 : Sl) =>
 IxA 1 l_ 0 fun a7 =>
 Ld (.int .i64) a7 H9 fun (x8 : Int) =>
 IxA 1 x7 r1.2.1 fun a8 =>
 St a8 (.int .i64 x8) H9 fun H10 =>
 kk3 () H10) (
 Jn (σ := Unit) (fun kk4 =>
 Br (x1 == 19) (
 Ld (.int .i64) ((adr b1).add 1) H4 fun (x9 : Int) =>
 NilCk a_ fun a9 =>
 Ld .sl (a9.add 1) H4 fun (x10 : Sl) =>
 CallT Pg fQb3 [.int .i64 x9, .int .i64 (x10.len : Int)] (.one (.c (.int .i64))) H4 fun (r2 : Int) H12 =>
 Stab [(a9.add 1, slV x10)] H12 <|
 NilCk a_ fun a10 =>
 St (a10.add 4) (.int .i64 r2) H12 fun H13 =>
 kk4 () H13) (
 Jn (σ := Unit) (fun kk5 =>
 Br (x1 == 20) (
 IxA 1 l_ 0 fun a11 =>
 Ld (.int .i64) a11 H4 fun (x11 : Int) =>
 Jn (σ := Unit) (fun kk6 =>
 Br (x11 == 0) (
 Ld (.int .i64) ((adr b1).add 1) H4 fun (x12 : Int) =>
 NilCk a_ fun a12 =>
 Ld .sl (a12.add 1) H4 fun (x13 : Sl) =>
 CallT Pg fQb3 [.int .i64 x12, .int .i64 (x13.len : Int)] (.one (.c (.int .i64))) H4 fun (r3 : Int) H16 =>
 Stab [(a12.add 1, slV x13)] H16 <|
 NilCk a_ fun a13 =>
 St (a13.add 4) (.int .i64 r3) H16 fun H17 =>
 kk6 () H17) (
 kk6 () H4)) fun j6 H15 =>
 kk5 () H15) (
 Br (x1 == 21) (
 CallT Pg fQb4 [.pointer r_] (.one (.c (.int .i64))) H4 fun (r4 : Int) H18 =>
 NilCk r_ fun a14 =>
 Ld .sl (a14.add 1) H18 fun (x14 : Sl) =>
 Ld (.int .i64) ((adr b1).add 1) H18 fun (x15 : Int) =>
 IxA 4 x14 x15 fun a15 =>
 LdC [.str, (.int .i64), (.int .i64), .sl] a15 H18 fun (c2 : ByteArray × Int × Int × Sl) =>
 Nw #[.string ByteArray.empty, .int .i64 0, .int .i64 0, .slice none 0 0] TQak H18 fun b3 H19 =>
 Stab [(a15.add 0, .string c2.1), (a15.add 1, .int .i64 c2.2.1), (a15.add 2, .int .i64 c2.2.2.1), (a15.add 3, slV c2.2.2.2), ((adr b1).add 1, .int .i64 x15), (a14.add 1, slV x14)] H19 <|
 St ((adr b3).add 0) (.string c2.1) H19 fun H20 =>
 St ((adr b3).add 1) (.int .i64 c2.2.1) H20 fun H21 =>
 St ((adr b3).add 2) (.int .i64 c2.2.2.1) H21 fun H22 =>
 St ((adr b3).add 3) (slV c2.2.2.2) H22 fun H23 =>
 NilCk r_ fun a16 =>
 Ld .sl (a16.add 19) H23 fun (x16 : Sl) =>
 Ld (.int .i64) ((adr b1).add 1) H23 fun (x17 : Int) =>
 Ld .sl ((adr b3).add 3) H23 fun (x18 : Sl) =>
 LdC [.str, (.int .i64), (.int .i64), .sl] (adr b3) H23 fun (c3 : ByteArray × Int × Int × Sl) =>
 CallT Pg fQbt [.agg #[.string c3.1, .int .i64 c3.2.1, .int .i64 c3.2.2.1, slV c3.2.2.2], slV l_] (.one (.c .sl)) H23 fun (r5 : Sl) H24 =>
 Stab [((adr b3).add 3, slV x18), ((adr b1).add 1, .int .i64 x17), (a16.add 19, slV x16)] H24 <|
 Nw #[.int .i64 x17, slV x18, slV r5, .slice none 0 0, .int .i64 0] TQaz H24 fun b4 H25 =>
 Stab [((adr b3).add 0, .string c3.1), ((adr b3).add 1, .int .i64 c3.2.1), ((adr b3).add 2, .int .i64 c3.2.2.1), ((adr b3).add 3, slV c3.2.2.2), ((adr b3).add 3, slV x18), ((adr b1).add 1, .int .i64 x17), (a16.add 19, slV x16)] H25 <|
 Nw #[.pointer (some (adr b4))] TQau H25 fun b5 H26 =>
 Stab [((adr b3).add 0, .string c3.1), ((adr b3).add 1, .int .i64 c3.2.1), ((adr b3).add 2, .int .i64 c3.2.2.1), ((adr b3).add 3, slV c3.2.2.2), ((adr b3).add 3, slV x18), ((adr b1).add 1, .int .i64 x17), (a16.add 19, slV x16)] H26 <|
 App TQau 1 8 #[.pointer none] x16 ⟨some (adr b5), 1, 1⟩ H26 fun l1 H27 =>
 Stab [((adr b3).add 0, .string c3.1), ((adr b3).add 1, .int .i64 c3.2.1), ((adr b3).add 2, .int .i64 c3.2.2.1), ((adr b3).add 3, slV c3.2.2.2), ((adr b3).add 3, slV x18), ((adr b1).add 1, .int .i64 x17)] H27 <|
 NilCk r_ fun a17 =>
 St (a17.add 19) (slV l1) H27 fun H28 =>
 k r4 H28) (
 Jn (σ := Unit) (fun kk7 =>
 Br (x1 == 22) (
 NilCk r_ fun a18 =>
 Ld .sl (a18.add 19) H4 fun (x19 : Sl) =>
 NilCk r_ fun a19 =>
 Ld .sl (a19.add 19) H4 fun (x20 : Sl) =>
 Lt (IntKind.wrap .i64 ((x20.len : Int) - 1)) fun t1 =>
 SlA 1 x19 0 t1 (x19.cap : Nat) fun l2 =>
 NilCk r_ fun a20 =>
 St (a20.add 19) (slV l2) H4 fun H30 =>
 NilCk r_ fun a21 =>
 Ld .sl (a21.add 19) H30 fun (x21 : Sl) =>
 NilCk r_ fun a22 =>
 Ld .sl (a22.add 19) H30 fun (x22 : Sl) =>
 Lt (IntKind.wrap .i64 ((x22.len : Int) - 1)) fun t2 =>
 IxA 1 x21 t2 fun a23 =>
 Ld .ptr a23 H30 fun (x23 : Option Addr) =>
 NilCk x23 fun a24 =>
 Ld .sl (a24.add 3) H30 fun (x24 : Sl) =>
 IxA 1 l_ 0 fun a25 =>
 Ld (.int .i64) a25 H30 fun (x25 : Int) =>
 Nw #[.int .i64 x25] TQaq H30 fun b6 H31 =>
 Stab [(a24.add 3, slV x24)] H31 <|
 App TQaq 1 8 #[.int .i64 0] x24 ⟨some (adr b6), 1, 1⟩ H31 fun l3 H32 =>
 Stab [(a25, .int .i64 x25)] H32 <|
 NilCk x23 fun a26 =>
 St (a26.add 3) (slV l3) H32 fun H33 =>
 kk7 () H33) (
 Jn (σ := Unit) (fun kk8 =>
 Br (x1 == 23) (
 NilCk r_ fun a27 =>
 St (a27.add 28) (.bool true) H4 fun H35 =>
 kk8 () H35) (
 Br (x1 == 24) (
 CallT Pg fQb4 [.pointer r_] (.one (.c (.int .i64))) H4 fun (r6 : Int) H36 =>
 k r6 H36) (
 Jn (σ := Unit) (fun kk9 =>
 Br (x1 == 25) (
 NilCk r_ fun a28 =>
 Ld .sl ((a28.add 23).add 2) H4 fun (x26 : Sl) =>
 NilCk r_ fun a29 =>
 Ld (.int .i64) (a29.add 10) H4 fun (x27 : Int) =>
 LdC [(.int .i64), (.int .i64)] (adr b2) H4 fun (c4 : Int × Int) =>
 IxA 1 l_ 0 fun a30 =>
 Ld (.int .i64) a30 H4 fun (x28 : Int) =>
 IxA 1 l_ 1 fun a31 =>
 Ld (.int .i64) a31 H4 fun (x29 : Int) =>
 Nw #[.int .i64 x27, .int .i64 c4.1, .int .i64 c4.2, .int .i64 x28, .int .i64 x29] TQaf H4 fun b7 H38 =>
 Stab [(a31, .int .i64 x29), (a30, .int .i64 x28), ((adr b2).add 0, .int .i64 c4.1), ((adr b2).add 1, .int .i64 c4.2), (a29.add 10, .int .i64 x27), ((a28.add 23).add 2, slV x26)] H38 <|
 App TQaf 5 40 #[.int .i64 0, .int .i64 0, .int .i64 0, .int .i64 0, .int .i64 0] x26 ⟨some (adr b7), 1, 1⟩ H38 fun l4 H39 =>
 Stab [(a31, .int .i64 x29), (a30, .int .i64 x28), ((adr b2).add 0, .int .i64 c4.1), ((adr b2).add 1, .int .i64 c4.2), (a29.add 10, .int .i64 x27)] H39 <|
 NilCk r_ fun a32 =>
 St ((a32.add 23).add 2) (slV l4) H39 fun H40 =>
 kk9 () H40) (
 Jn (σ := Unit) (fun kk10 =>
 Br (x1 == 26) (
 NilCk r_ fun a33 =>
 Ld .sl (a33.add 22) H4 fun (x30 : Sl) =>
 Ld (.int .i64) ((adr b1).add 1) H4 fun (x31 : Int) =>
 Quo .i64 x31 8 fun t3 =>
 Nw #[.int .i64 t3, slV l_] TQai H4 fun b8 H42 =>
 Stab [((adr b1).add 1, .int .i64 x31), (a33.add 22, slV x30)] H42 <|
 App TQai 2 32 #[.int .i64 0, .slice none 0 0] x30 ⟨some (adr b8), 1, 1⟩ H42 fun l5 H43 =>
 Stab [((adr b1).add 1, .int .i64 x31)] H43 <|
 NilCk r_ fun a34 =>
 St (a34.add 22) (slV l5) H43 fun H44 =>
 kk10 () H44) (
 Jn (σ := Unit) (fun kk11 =>
 Br (x1 == 27) (
 NilCk r_ fun a35 =>
 Ld .sl ((a35.add 23).add 1) H4 fun (x32 : Sl) =>
 NilCk r_ fun a36 =>
 Ld .sl (a36.add 22) H4 fun (x33 : Sl) =>
 CallT Pg fQb5 [slV x33] (.one (.c .sl)) H4 fun (r7 : Sl) H46 =>
 Stab [((a35.add 23).add 1, slV x32)] H46 <|
 Nw #[.int .i64 1, .int .i64 0, .int .i64 0, .int .i64 0, .slice none 0 0, slV r7] TQac H46 fun b9 H47 =>
 Stab [(a36.add 22, slV x33), ((a35.add 23).add 1, slV x32)] H47 <|
 App TQac 6 80 #[.int .i64 0, .int .i64 0, .int .i64 0, .int .i64 0, .slice none 0 0, .slice none 0 0] x32 ⟨some (adr b9), 1, 1⟩ H47 fun l6 H48 =>
 Stab [(a36.add 22, slV x33)] H48 <|
 NilCk r_ fun a37 =>
 St ((a37.add 23).add 1) (slV l6) H48 fun H49 =>
 NilCk r_ fun a38 =>
 St (a38.add 22) (.slice none 0 0) H49 fun H50 =>
 kk11 () H50) (
 Jn (σ := Unit) (fun kk12 =>
 Br (x1 == 28) (
 NilCk r_ fun a39 =>
 Ld .sl ((a39.add 23).add 1) H4 fun (x34 : Sl) =>
 LdC [(.int .i64), (.int .i64)] (adr b2) H4 fun (c5 : Int × Int) =>
 Ld (.int .i64) ((adr b1).add 1) H4 fun (x35 : Int) =>
 Quo .i64 x35 8 fun t4 =>
 Nw #[.int .i64 3, .int .i64 c5.1, .int .i64 c5.2, .int .i64 t4, slV l_, .slice none 0 0] TQac H4 fun b10 H52 =>
 Stab [((adr b1).add 1, .int .i64 x35), ((adr b2).add 0, .int .i64 c5.1), ((adr b2).add 1, .int .i64 c5.2), ((a39.add 23).add 1, slV x34)] H52 <|
 App TQac 6 80 #[.int .i64 0, .int .i64 0, .int .i64 0, .int .i64 0, .slice none 0 0, .slice none 0 0] x34 ⟨some (adr b10), 1, 1⟩ H52 fun l7 H53 =>
 Stab [((adr b1).add 1, .int .i64 x35), ((adr b2).add 0, .int .i64 c5.1), ((adr b2).add 1, .int .i64 c5.2)] H53 <|
 NilCk r_ fun a40 =>
 St ((a40.add 23).add 1) (slV l7) H53 fun H54 =>
 kk12 () H54) (
 Jn (σ := Unit) (fun kk13 =>
 Br (x1 == 29) (
 NilCk r_ fun a41 =>
 Ld .sl ((a41.add 23).add 1) H4 fun (x36 : Sl) =>
 LdC [(.int .i64), (.int .i64)] (adr b2) H4 fun (c6 : Int × Int) =>
 Ld (.int .i64) ((adr b1).add 1) H4 fun (x37 : Int) =>
 Nw #[.int .i64 4, .int .i64 c6.1, .int .i64 c6.2, .int .i64 x37, .slice none 0 0, .slice none 0 0] TQac H4 fun b11 H56 =>
 Stab [((adr b1).add 1, .int .i64 x37), ((adr b2).add 0, .int .i64 c6.1), ((adr b2).add 1, .int .i64 c6.2), ((a41.add 23).add 1, slV x36)] H56 <|
 App TQac 6 80 #[.int .i64 0, .int .i64 0, .int .i64 0, .int .i64 0, .slice none 0 0, .slice none 0 0] x36 ⟨some (adr b11), 1, 1⟩ H56 fun l8 H57 =>
 Stab [((adr b1).add 1, .int .i64 x37), ((adr b2).add 0, .int .i64 c6.1), ((adr b2).add 1, .int .i64 c6.2)] H57 <|
 NilCk r_ fun a42 =>
 St ((a42.add 23).add 1) (slV l8) H57 fun H58 =>
 kk13 () H58) (
 Jn (σ := Unit) (fun kk14 =>
 Br (x1 == 30) (
 NilCk r_ fun a43 =>
 Ld .sl ((a43.add 23).add 1) H4 fun (x38 : Sl) =>
 LdC [(.int .i64), (.int .i64)] (adr b2) H4 fun (c7 : Int × Int) =>
 Nw #[.int .i64 2, .int .i64 c7.1, .int .i64 c7.2, .int .i64 0, .slice none 0 0, .slice none 0 0] TQac H4 fun b12 H60 =>
 Stab [((adr b2).add 0, .int .i64 c7.1), ((adr b2).add 1, .int .i64 c7.2), ((a43.add 23).add 1, slV x38)] H60 <|
 App TQac 6 80 #[.int .i64 0, .int .i64 0, .int .i64 0, .int .i64 0, .slice none 0 0, .slice none 0 0] x38 ⟨some (adr b12), 1, 1⟩ H60 fun l9 H61 =>
 Stab [((adr b2).add 0, .int .i64 c7.1), ((adr b2).add 1, .int .i64 c7.2)] H61 <|
 NilCk r_ fun a44 =>
 St ((a44.add 23).add 1) (slV l9) H61 fun H62 =>
 kk14 () H62) (
 Jn (σ := Unit) (fun kk15 =>
 Br (x1 == 39) (
 kk15 () H4) (
 NilCk a_ fun a45 =>
 Ld .sl (a45.add 3) H4 fun (x39 : Sl) =>
 LdC [(.int .i64), (.int .i64)] (adr b1) H4 fun (c8 : Int × Int) =>
 CallT Pg fQb6 [.pointer r_, .pointer a_, .agg #[.int .i64 c8.1, .int .i64 c8.2], slV l_] (.one (.c (.int .i64))) H4 fun (r8 : Int) H64 =>
 Stab [(a45.add 3, slV x39)] H64 <|
 Nw #[.int .i64 r8] TQaq H64 fun b13 H65 =>
 Stab [((adr b1).add 0, .int .i64 c8.1), ((adr b1).add 1, .int .i64 c8.2), (a45.add 3, slV x39)] H65 <|
 App TQaq 1 8 #[.int .i64 0] x39 ⟨some (adr b13), 1, 1⟩ H65 fun l10 H66 =>
 Stab [((adr b1).add 0, .int .i64 c8.1), ((adr b1).add 1, .int .i64 c8.2)] H66 <|
 NilCk a_ fun a46 =>
 St (a46.add 3) (slV l10) H66 fun H67 =>
 kk15 () H67)) fun j15 H63 =>
 kk14 () H63)) fun j14 H59 =>
 kk13 () H59)) fun j13 H55 =>
 kk12 () H55)) fun j12 H51 =>
 kk11 () H51)) fun j11 H45 =>
 kk10 () H45)) fun j10 H41 =>
 kk9 () H41)) fun j9 H37 =>
 kk8 () H37))) fun j8 H34 =>
 kk7 () H34)) fun j7 H29 =>
 kk5 () H29))) fun j5 H14 =>
 kk4 () H14)) fun j4 H11 =>
 kk3 () H11)) fun j3 H8 =>
 kk2 () H8)) fun j2 H6 =>
 kk1 () H6) fun j1 H5 =>
 k 0 H5
def h_R_run_does : Hint := (.two .no (.two .no (.two (.two .no (.join [] (.one (.two .no (.join [] (.two .no (.two .no (.join [] (.two .no (.two .no (.join [] (.two .no (.two .no (.join [] (.two (.two .no (.join [] .no)) (.two .no (.two .no (.two .no (.join [] (.two .no (.two .no (.join [] (.two .no (.two .no (.two .no (.two .no (.join [] (.two .no (.two .no (.join [] (.two .no (.two .no (.join [] (.two .no (.two .no (.join [] (.two .no (.two .no (.join [] (.two .no (.two .no (.join [] (.two .no (.two .no (.join [] .no))))))))))))))))))))))))))))))))))))))))))))) .no)))
theorem cQbr (r_ : Option Addr) (a_ : Option Addr) (i_ : Int × Int) (l_ : Sl) {H : Heap} {k : Int → Heap → Prop} (h : vQbr r_ a_ i_ l_ H k) : CallT Pg fQbx [.pointer r_, .pointer a_, .agg #[.int .i64 i_.1, .int .i64 i_.2], slV l_] (.one (.c (.int .i64))) H k :=
 call_of_E (h := h_R_run_does) Pg_mixed Tryz.func53 (by kernel_rfl) (by kernel_rfl) (by kernel_rfl) (by kernel_rfl) (Eq.mpr (by kernel_rfl) h)
def vQbs (r_ : Option Addr) (kind_ : Int) (H : Heap) (k : Int → Heap → Prop) : Prop :=
 LoopT (σ := Int) (fun next1 s1 H1 =>
 NilCk r_ fun a1 =>
 Ld .sl (a1.add 18) H1 fun (x1 : Sl) =>
 Br (decide (s1 < (x1.len : Int))) (
 NilCk r_ fun a2 =>
 Ld .sl (a2.add 18) H1 fun (x2 : Sl) =>
 IxA 2 x2 s1 fun a3 =>
 Ld (.int .i64) a3 H1 fun (x3 : Int) =>
 Br (x3 == kind_) (
 k s1 H1) (
 Lt (IntKind.wrap .i64 (s1 + 1)) fun t1 =>
 next1 t1 H1)) (
 k (-1) H1)) 0 H
def h_R_run_has : Hint := (.two .no (.two (.two .no (.one (.loop [(5, (.c (.int .i64)))] .no))) .no))
theorem cQbs (r_ : Option Addr) (kind_ : Int) {H : Heap} {k : Int → Heap → Prop} (h : vQbs r_ kind_ H k) : CallT Pg fQby [.pointer r_, .int .i64 kind_] (.one (.c (.int .i64))) H k :=
 call_of_E (h := h_R_run_has) Pg_mixed Tryz.func54 (by kernel_rfl) (by kernel_rfl) (by kernel_rfl) (by kernel_rfl) (Eq.mpr (by kernel_rfl) h)
def vQbt (x_ : Int) (H : Heap) (k : Int → Heap → Prop) : Prop :=
 Lt (IntKind.wrap .u64 (x_ + 11400714819323198485)) fun t1 =>
 ShR .u64 t1 30 fun t2 =>
 Lt (bits .xor .u64 t1 t2) fun t3 =>
 Lt (IntKind.wrap .u64 (t3 * 13787848793156543929)) fun t4 =>
 ShR .u64 t4 27 fun t5 =>
 Lt (bits .xor .u64 t4 t5) fun t6 =>
 Lt (IntKind.wrap .u64 (t6 * 10723151780598845931)) fun t7 =>
 ShR .u64 t7 31 fun t8 =>
 Lt (bits .xor .u64 t7 t8) fun t9 =>
 k t9 H
def h_R_Mix : Hint := .no
theorem cQbt (x_ : Int) {H : Heap} {k : Int → Heap → Prop} (h : vQbt x_ H k) : CallT Pg fQbz [.int .u64 x_] (.one (.c (.int .u64))) H k :=
 call_of_E (h := h_R_Mix) Pg_mixed Tryz.func88 (by kernel_rfl) (by kernel_rfl) (by kernel_rfl) (by kernel_rfl) (Eq.mpr (by kernel_rfl) h)
def vQbu  (H : Heap) (k : Sl → Heap → Prop) : Prop :=
 Nw #[.string ByteArray.empty, .bool false, .int .i64 0, .int .i64 0, .string (⟨#[112, 117, 115, 104]⟩ : ByteArray), .bool true, .int .i64 0, .int .i64 1, .string (⟨#[108, 111, 97, 100]⟩ : ByteArray), .bool true, .int .i64 0, .int .i64 1, .string (⟨#[115, 116, 111, 114, 101]⟩ : ByteArray), .bool true, .int .i64 1, .int .i64 0, .string (⟨#[102, 105, 101, 108, 100]⟩ : ByteArray), .bool true, .int .i64 0, .int .i64 1, .string (⟨#[112, 117, 116]⟩ : ByteArray), .bool true, .int .i64 1, .int .i64 0, .string (⟨#[97, 100, 100]⟩ : ByteArray), .bool false, .int .i64 2, .int .i64 1, .string (⟨#[115, 117, 98]⟩ : ByteArray), .bool false, .int .i64 2, .int .i64 1, .string (⟨#[109, 117, 108]⟩ : ByteArray), .bool false, .int .i64 2, .int .i64 1, .string (⟨#[100, 105, 118]⟩ : ByteArray), .bool false, .int .i64 2, .int .i64 1, .string (⟨#[114, 101, 109]⟩ : ByteArray), .bool false, .int .i64 2, .int .i64 1, .string (⟨#[110, 101, 103]⟩ : ByteArray), .bool false, .int .i64 1, .int .i64 1, .string (⟨#[101, 113]⟩ : ByteArray), .bool false, .int .i64 2, .int .i64 1, .string (⟨#[110, 101]⟩ : ByteArray), .bool false, .int .i64 2, .int .i64 1, .string (⟨#[108, 116]⟩ : ByteArray), .bool false, .int .i64 2, .int .i64 1, .string (⟨#[108, 101]⟩ : ByteArray), .bool false, .int .i64 2, .int .i64 1, .string (⟨#[103, 116]⟩ : ByteArray), .bool false, .int .i64 2, .int .i64 1, .string (⟨#[103, 101]⟩ : ByteArray), .bool false, .int .i64 2, .int .i64 1, .string (⟨#[110, 111, 116]⟩ : ByteArray), .bool false, .int .i64 1, .int .i64 1, .string (⟨#[106, 117, 109, 112]⟩ : ByteArray), .bool true, .int .i64 0, .int .i64 0, .string (⟨#[122, 101, 114, 111]⟩ : ByteArray), .bool true, .int .i64 1, .int .i64 0, .string (⟨#[99, 97, 108, 108]⟩ : ByteArray), .bool true, .int .i64 (-1), .int .i64 1, .string (⟨#[114, 101, 116]⟩ : ByteArray), .bool false, .int .i64 1, .int .i64 0, .string (⟨#[115, 116, 111, 112]⟩ : ByteArray), .bool false, .int .i64 0, .int .i64 0, .string (⟨#[115, 116, 101, 112]⟩ : ByteArray), .bool false, .int .i64 0, .int .i64 0, .string (⟨#[101, 109, 105, 116]⟩ : ByteArray), .bool false, .int .i64 2, .int .i64 0, .string (⟨#[112, 97, 114, 116]⟩ : ByteArray), .bool true, .int .i64 (-2), .int .i64 0, .string (⟨#[115, 112, 97, 119, 110]⟩ : ByteArray), .bool false, .int .i64 0, .int .i64 0, .string (⟨#[103, 105, 118, 101]⟩ : ByteArray), .bool true, .int .i64 (-2), .int .i64 0, .string (⟨#[116, 97, 107, 101]⟩ : ByteArray), .bool true, .int .i64 0, .int .i64 0, .string (⟨#[100, 105, 101]⟩ : ByteArray), .bool false, .int .i64 0, .int .i64 0, .string (⟨#[114, 97, 110, 100]⟩ : ByteArray), .bool false, .int .i64 1, .int .i64 1, .string (⟨#[116, 105, 99, 107]⟩ : ByteArray), .bool false, .int .i64 0, .int .i64 1, .string (⟨#[109, 101]⟩ : ByteArray), .bool false, .int .i64 0, .int .i64 1, .string (⟨#[105, 110, 112, 117, 116]⟩ : ByteArray), .bool false, .int .i64 2, .int .i64 1, .string (⟨#[104, 97, 115]⟩ : ByteArray), .bool true, .int .i64 0, .int .i64 1, .string (⟨#[109, 105, 110]⟩ : ByteArray), .bool false, .int .i64 2, .int .i64 1, .string (⟨#[109, 97, 120]⟩ : ByteArray), .bool false, .int .i64 2, .int .i64 1, .string (⟨#[97, 98, 115]⟩ : ByteArray), .bool false, .int .i64 1, .int .i64 1, .string (⟨#[100, 114, 111, 112]⟩ : ByteArray), .bool false, .int .i64 1, .int .i64 0] TQay H fun b1 H1 =>
 k ⟨some (adr b1), 40, 40⟩ H1
def h_R_table : Hint := .no
theorem cQbu  {H : Heap} {k : Sl → Heap → Prop} (h : vQbu  H k) : CallT Pg fQb0 [] (.one (.c .sl)) H k :=
 call_of_E (h := h_R_table) Pg_mixed Tryz.func89 (by kernel_rfl) (by kernel_rfl) (by kernel_rfl) (by kernel_rfl) (Eq.mpr (by kernel_rfl) h)
def vQbv (op_ : Int) (H : Heap) (k : Bool → Heap → Prop) : Prop :=
 Jn (σ := Bool) (fun kk1 =>
 Br (op_ == 4) (
 kk1 true H) (
 Br (op_ == 5) (
 kk1 true H) (
 Br (decide (op_ ≥ 25)) (
 Br (decide (op_ ≤ 30)) (
 kk1 true H) (
 Br (op_ == 35) (
 kk1 true H) (
 kk1 (op_ == 23) H))) (
 Br (op_ == 35) (
 kk1 true H) (
 kk1 (op_ == 23) H))))) fun j1 H1 =>
 k j1 H1
def h_R_inside : Hint := (.two .no (.two (.join [(2, (.c .bool))] .no) .no))
theorem cQbv (op_ : Int) {H : Heap} {k : Bool → Heap → Prop} (h : vQbv op_ H k) : CallT Pg fQb1 [.int .i64 op_] (.one (.c .bool)) H k :=
 call_of_E (h := h_R_inside) Pg_mixed Tryz.func90 (by kernel_rfl) (by kernel_rfl) (by kernel_rfl) (by kernel_rfl) (Eq.mpr (by kernel_rfl) h)
def vQbw (r_ : Option Addr) (a_ : Int) (put_ : Bool) (H : Heap) (k : Int × Int × Bool → Heap → Prop) : Prop :=
 Br (decide (a_ < 0)) (
 k (0, 0, false) H) (
 Quo .i64 a_ 8 fun t1 =>
 NilCk r_ fun a1 =>
 Ld .sl ((a1.add 2).add 3) H fun (x1 : Sl) =>
 CallT Pg fQb7 [slV x1, .int .i64 t1] (.one (.c .bool)) H fun (r1 : Bool) H1 =>
 NilCk r_ fun a2 =>
 Ld .sl ((a2.add 2).add 2) H1 fun (x2 : Sl) =>
 CallT Pg fQb7 [slV x2, .int .i64 t1] (.one (.c .bool)) H1 fun (r2 : Bool) H2 =>
 CallT Pg fQby [.pointer r_, .int .i64 t1] (.one (.c (.int .i64))) H2 fun (r3 : Int) H3 =>
 Rem a_ 8 fun t2 =>
 Jn (σ := Bool) (fun kk1 =>
 Br (!r1) (
 Br put_ (
 kk1 true H3) (
 Br (!r2) (
 kk1 true H3) (
 Br (decide (r3 < 0)) (
 kk1 true H3) (
 NilCk r_ fun a3 =>
 Ld .sl (a3.add 18) H3 fun (x3 : Sl) =>
 IxA 2 x3 r3 fun a4 =>
 Ld .sl (a4.add 1) H3 fun (x4 : Sl) =>
 kk1 (decide (t2 ≥ (x4.len : Int))) H3)))) (
 Br (decide (r3 < 0)) (
 kk1 true H3) (
 NilCk r_ fun a5 =>
 Ld .sl (a5.add 18) H3 fun (x5 : Sl) =>
 IxA 2 x5 r3 fun a6 =>
 Ld .sl (a6.add 1) H3 fun (x6 : Sl) =>
 kk1 (decide (t2 ≥ (x6.len : Int))) H3))) fun j1 H4 =>
 Br j1 (
 k (0, 0, false) H4) (
 k (r3, t2, true) H4))
def h_R_run_field : Hint := (.two .no (.two .no (.two .no (.two .no (.two .no (.two .no (.two .no (.two (.two (.join [(62, (.c .bool))] .no) .no) .no))))))))
theorem cQbw (r_ : Option Addr) (a_ : Int) (put_ : Bool) {H : Heap} {k : Int × Int × Bool → Heap → Prop} (h : vQbw r_ a_ put_ H k) : CallT Pg fQb2 [.pointer r_, .int .i64 a_, .bool put_] (.tup [(.c (.int .i64)), (.c (.int .i64)), (.c .bool)]) H k :=
 call_of_E (h := h_R_run_field) Pg_mixed Tryz.func91 (by kernel_rfl) (by kernel_rfl) (by kernel_rfl) (by kernel_rfl) (Eq.mpr (by kernel_rfl) h)
def vQbx (to_ : Int) (n_ : Int) (H : Heap) (k : Int → Heap → Prop) : Prop :=
 Jn (σ := Bool) (fun kk1 =>
 Br (decide (to_ < 0)) (
 kk1 true H) (
 kk1 (decide (to_ ≥ n_)) H)) fun j1 H1 =>
 Br j1 (
 k (-1) H1) (
 k to_ H1)
def h_R_jump : Hint := (.two .no (.two (.two (.join [(11, (.c .bool))] .no) .no) .no))
theorem cQbx (to_ : Int) (n_ : Int) {H : Heap} {k : Int → Heap → Prop} (h : vQbx to_ n_ H k) : CallT Pg fQb3 [.int .i64 to_, .int .i64 n_] (.one (.c (.int .i64))) H k :=
 call_of_E (h := h_R_jump) Pg_mixed Tryz.func92 (by kernel_rfl) (by kernel_rfl) (by kernel_rfl) (by kernel_rfl) (Eq.mpr (by kernel_rfl) h)
def vQby (r_ : Option Addr) (H : Heap) (k : Int → Heap → Prop) : Prop :=
 NilCk r_ fun a1 =>
 Ld (.int .i64) ((a1.add 23).add 3) H fun (x1 : Int) =>
 Lt (IntKind.wrap .i64 (x1 + 1)) fun t1 =>
 NilCk r_ fun a2 =>
 St ((a2.add 23).add 3) (.int .i64 t1) H fun H1 =>
 NilCk r_ fun a3 =>
 St (a3.add 21) (.int .i64 0) H1 fun H2 =>
 NilCk r_ fun a4 =>
 Ld (.int .i64) ((a4.add 23).add 3) H2 fun (x2 : Int) =>
 Br (decide (x2 > 2000)) (
 k 120 H2) (
 k 0 H2)
def h_R_run_step : Hint := .no
theorem cQby (r_ : Option Addr) {H : Heap} {k : Int → Heap → Prop} (h : vQby r_ H k) : CallT Pg fQb4 [.pointer r_] (.one (.c (.int .i64))) H k :=
 call_of_E (h := h_R_run_step) Pg_mixed Tryz.func93 (by kernel_rfl) (by kernel_rfl) (by kernel_rfl) (by kernel_rfl) (Eq.mpr (by kernel_rfl) h)
def vQbz (l_ : Sl) (H : Heap) (k : Sl → Heap → Prop) : Prop :=
 LoopT (σ := Sl × Int) (fun next1 s1 H1 =>
 Br (decide (s1.2 ≤ 12)) (
 LoopT (σ := Sl × Int) (fun next2 s2 H2 =>
 Br (decide (s2.2 < (l_.len : Int))) (
 Jn (σ := Sl) (fun kk1 =>
 IxA 2 l_ s2.2 fun a1 =>
 Ld (.int .i64) a1 H2 fun (x1 : Int) =>
 Jn (σ := Sl) (fun kk2 =>
 Br (x1 == s1.2) (
 IxA 2 l_ s2.2 fun a2 =>
 LdC [(.int .i64), .sl] a2 H2 fun (c1 : Int × Sl) =>
 Nw #[.int .i64 c1.1, slV c1.2] TQai H2 fun b1 H5 =>
 App TQai 2 32 #[.int .i64 0, .slice none 0 0] s2.1 ⟨some (adr b1), 1, 1⟩ H5 fun l1 H6 =>
 kk2 l1 H6) (
 kk2 s2.1 H2)) fun j2 H4 =>
 kk1 j2 H4) fun j1 H3 =>
 Lt (IntKind.wrap .i64 (s2.2 + 1)) fun t1 =>
 next2 (j1, t1) H3) (
 Lt (IntKind.wrap .i64 (s1.2 + 1)) fun t2 =>
 next1 (s2.1, t2) H2)) (s1.1, 0) H1) (
 k s1.1 H1)) (⟨none, 0, 0⟩, 1) H
def h_R_rising : Hint := (.two .no (.two .no (.two (.two .no (.one (.loop [(3, (.c .sl)), (4, (.c (.int .i64)))] (.two .no (.two (.one (.two .no (.one (.loop [(3, (.c .sl)), (5, (.c (.int .i64)))] (.two .no (.two (.join [(3, (.c .sl))] (.one (.two .no (.join [(3, (.c .sl))] .no)))) .no)))))) .no))))) .no)))
theorem cQbz (l_ : Sl) {H : Heap} {k : Sl → Heap → Prop} (h : vQbz l_ H k) : CallT Pg fQb5 [slV l_] (.one (.c .sl)) H k :=
 call_of_E (h := h_R_rising) Pg_mixed Tryz.func94 (by kernel_rfl) (by kernel_rfl) (by kernel_rfl) (by kernel_rfl) (Eq.mpr (by kernel_rfl) h)
def vQb0 (r_ : Option Addr) (a_ : Option Addr) (i_ : Int × Int) (l_ : Sl) (H : Heap) (k : Int → Heap → Prop) : Prop :=
 Nw #[.int .i64 i_.1, .int .i64 i_.2] TQag H fun b1 H1 =>
 Ld (.int .i64) (adr b1) H1 fun (x1 : Int) =>
 Br (x1 == 1) (
 Ld (.int .i64) ((adr b1).add 1) H1 fun (x2 : Int) =>
 k x2 H1) (
 Br (x1 == 2) (
 NilCk a_ fun a1 =>
 Ld .sl (a1.add 2) H1 fun (x3 : Sl) =>
 Ld (.int .i64) ((adr b1).add 1) H1 fun (x4 : Int) =>
 IxA 1 x3 x4 fun a2 =>
 Ld (.int .i64) a2 H1 fun (x5 : Int) =>
 k x5 H1) (
 Br (x1 == 4) (
 Ld (.int .i64) ((adr b1).add 1) H1 fun (x6 : Int) =>
 CallT Pg fQb2 [.pointer r_, .int .i64 x6, .bool false] (.tup [(.c (.int .i64)), (.c (.int .i64)), (.c .bool)]) H1 fun (r1 : Int × Int × Bool) H2 =>
 NilCk r_ fun a3 =>
 Ld .sl (a3.add 18) H2 fun (x7 : Sl) =>
 IxA 2 x7 r1.1 fun a4 =>
 Ld .sl (a4.add 1) H2 fun (x8 : Sl) =>
 IxA 1 x8 r1.2.1 fun a5 =>
 Ld (.int .i64) a5 H2 fun (x9 : Int) =>
 k x9 H2) (
 Br (x1 == 31) (
 NilCk r_ fun a6 =>
 Ld .ptr (a6.add 20) H1 fun (x10 : Option Addr) =>
 IxA 1 l_ 0 fun a7 =>
 Ld (.int .i64) a7 H1 fun (x11 : Int) =>
 CallT Pg fQb8 [.pointer x10, .int .i64 x11] (.one (.c (.int .i64))) H1 fun (r2 : Int) H3 =>
 k r2 H3) (
 Br (x1 == 32) (
 NilCk r_ fun a8 =>
 Ld (.int .i64) (a8.add 11) H1 fun (x12 : Int) =>
 k x12 H1) (
 Br (x1 == 33) (
 NilCk r_ fun a9 =>
 Ld (.int .i64) ((a9.add 11).add 4) H1 fun (x13 : Int) =>
 k x13 H1) (
 Br (x1 == 34) (
 LoopT (σ := Int × Int) (fun next1 s1 H4 =>
 NilCk r_ fun a10 =>
 Ld .sl ((a10.add 11).add 3) H4 fun (x14 : Sl) =>
 Br (decide (s1.2 < (x14.len : Int))) (
 Jn (σ := Int) (fun kk1 =>
 NilCk r_ fun a11 =>
 Ld .sl ((a11.add 11).add 3) H4 fun (x15 : Sl) =>
 IxA 3 x15 s1.2 fun a12 =>
 LdC [(.int .i64), (.int .i64), (.int .i64)] a12 H4 fun (c1 : Int × Int × Int) =>
 Nw #[.int .i64 0, .int .i64 0, .int .i64 0] TQav H4 fun b2 H6 =>
 St ((adr b2).add 0) (.int .i64 c1.1) H6 fun H7 =>
 St ((adr b2).add 1) (.int .i64 c1.2.1) H7 fun H8 =>
 St ((adr b2).add 2) (.int .i64 c1.2.2) H8 fun H9 =>
 Jn (σ := Bool) (fun kk2 =>
 Ld (.int .i64) (adr b2) H9 fun (x16 : Int) =>
 IxA 1 l_ 0 fun a13 =>
 Ld (.int .i64) a13 H9 fun (x17 : Int) =>
 Br (x16 == x17) (
 Ld (.int .i64) ((adr b2).add 1) H9 fun (x18 : Int) =>
 IxA 1 l_ 1 fun a14 =>
 Ld (.int .i64) a14 H9 fun (x19 : Int) =>
 kk2 (x18 == x19) H9) (
 kk2 false H9)) fun j2 H10 =>
 Jn (σ := Int) (fun kk3 =>
 Br j2 (
 Ld (.int .i64) ((adr b2).add 2) H10 fun (x20 : Int) =>
 kk3 x20 H10) (
 kk3 s1.1 H10)) fun j3 H11 =>
 kk1 j3 H11) fun j1 H5 =>
 Lt (IntKind.wrap .i64 (s1.2 + 1)) fun t1 =>
 next1 (j1, t1) H5) (
 k s1.1 H4)) (0, 0) H1) (
 Br (x1 == 35) (
 Ld (.int .i64) ((adr b1).add 1) H1 fun (x21 : Int) =>
 CallT Pg fQby [.pointer r_, .int .i64 x21] (.one (.c (.int .i64))) H1 fun (r3 : Int) H12 =>
 CallT Pg fQb9 [.bool (decide (r3 ≥ 0))] (.one (.c (.int .i64))) H12 fun (r4 : Int) H13 =>
 k r4 H13) (
 Br ((l_.len : Int) == 1) (
 Ld (.int .i64) (adr b1) H1 fun (x22 : Int) =>
 IxA 1 l_ 0 fun a15 =>
 Ld (.int .i64) a15 H1 fun (x23 : Int) =>
 CallT Pg fQca [.int .i64 x22, .int .i64 x23] (.one (.c (.int .i64))) H1 fun (r5 : Int) H14 =>
 k r5 H14) (
 Ld (.int .i64) (adr b1) H1 fun (x24 : Int) =>
 IxA 1 l_ 0 fun a16 =>
 Ld (.int .i64) a16 H1 fun (x25 : Int) =>
 IxA 1 l_ 1 fun a17 =>
 Ld (.int .i64) a17 H1 fun (x26 : Int) =>
 CallT Pg fQcb [.int .i64 x24, .int .i64 x25, .int .i64 x26] (.one (.c (.int .i64))) H1 fun (r6 : Int) H15 =>
 k r6 H15)))))))))
def h_R_run_answer : Hint := (.two .no (.two (.two .no (.one (.two .no (.two .no (.two .no (.two .no (.two .no (.two .no (.two .no (.two .no (.two .no (.two .no (.two .no (.two .no (.two .no (.two (.two .no (.two (.two .no (.one (.loop [(12, (.c (.int .i64))), (13, (.c (.int .i64)))] (.two .no (.two (.join [(12, (.c (.int .i64)))] (.one (.two .no (.two (.join [(111, (.c .bool))] .no) (.join [(12, (.c (.int .i64)))] .no))))) .no))))) .no)) .no)))))))))))))))) .no))
theorem cQb0 (r_ : Option Addr) (a_ : Option Addr) (i_ : Int × Int) (l_ : Sl) {H : Heap} {k : Int → Heap → Prop} (h : vQb0 r_ a_ i_ l_ H k) : CallT Pg fQb6 [.pointer r_, .pointer a_, .agg #[.int .i64 i_.1, .int .i64 i_.2], slV l_] (.one (.c (.int .i64))) H k :=
 call_of_E (h := h_R_run_answer) Pg_mixed Tryz.func95 (by kernel_rfl) (by kernel_rfl) (by kernel_rfl) (by kernel_rfl) (Eq.mpr (by kernel_rfl) h)
def vQb1 (l_ : Sl) (kind_ : Int) (H : Heap) (k : Bool → Heap → Prop) : Prop :=
 LoopT (σ := Int) (fun next1 s1 H1 =>
 Br (decide (s1 < (l_.len : Int))) (
 IxA 1 l_ s1 fun a1 =>
 Ld (.int .i64) a1 H1 fun (x1 : Int) =>
 Br (x1 == kind_) (
 k true H1) (
 Lt (IntKind.wrap .i64 (s1 + 1)) fun t1 =>
 next1 t1 H1)) (
 k false H1)) 0 H
def h_R_in : Hint := (.two .no (.two (.two .no (.one (.loop [(5, (.c (.int .i64)))] .no))) .no))
theorem cQb1 (l_ : Sl) (kind_ : Int) {H : Heap} {k : Bool → Heap → Prop} (h : vQb1 l_ kind_ H k) : CallT Pg fQb7 [slV l_, .int .i64 kind_] (.one (.c .bool)) H k :=
 call_of_E (h := h_R_in) Pg_mixed Tryz.func142 (by kernel_rfl) (by kernel_rfl) (by kernel_rfl) (by kernel_rfl) (Eq.mpr (by kernel_rfl) h)
def vQb2 (d_ : Option Addr) (n_ : Int) (H : Heap) (k : Int → Heap → Prop) : Prop :=
 Br (decide (n_ < 1)) (
 CallT Pg fQcc [.pointer d_] (.one (.c (.int .u64))) H fun (r1 : Int) H1 =>
 k 0 H1) (
 Rem 18446744073709551615 (IntKind.wrap .u64 n_) fun t1 =>
 Lt (IntKind.wrap .u64 (18446744073709551615 - t1)) fun t2 =>
 LoopT (σ := Unit) (fun next1 s1 H2 =>
 CallT Pg fQcc [.pointer d_] (.one (.c (.int .u64))) H2 fun (r2 : Int) H3 =>
 Br (decide (r2 < t2)) (
 Rem r2 (IntKind.wrap .u64 n_) fun t3 =>
 k (IntKind.wrap .i64 t3) H3) (
 next1 () H3)) () H)
def h_R_Dice_Below : Hint := (.two .no (.two .no (.two .no (.two .no (.one (.loop [] .no))))))
theorem cQb2 (d_ : Option Addr) (n_ : Int) {H : Heap} {k : Int → Heap → Prop} (h : vQb2 d_ n_ H k) : CallT Pg fQb8 [.pointer d_, .int .i64 n_] (.one (.c (.int .i64))) H k :=
 call_of_E (h := h_R_Dice_Below) Pg_mixed Tryz.func143 (by kernel_rfl) (by kernel_rfl) (by kernel_rfl) (by kernel_rfl) (Eq.mpr (by kernel_rfl) h)
def vQb3 (b_ : Bool) (H : Heap) (k : Int → Heap → Prop) : Prop :=
 Br b_ (
 k 1 H) (
 k 0 H)
def h_R_truth : Hint := .no
theorem cQb3 (b_ : Bool) {H : Heap} {k : Int → Heap → Prop} (h : vQb3 b_ H k) : CallT Pg fQb9 [.bool b_] (.one (.c (.int .i64))) H k :=
 call_of_E (h := h_R_truth) Pg_mixed Tryz.func144 (by kernel_rfl) (by kernel_rfl) (by kernel_rfl) (by kernel_rfl) (Eq.mpr (by kernel_rfl) h)
def vQb4 (op_ : Int) (x_ : Int) (H : Heap) (k : Int → Heap → Prop) : Prop :=
 Br (op_ == 11) (
 k (IntKind.wrap .i64 (0 - x_)) H) (
 Br (op_ == 18) (
 CallT Pg fQb9 [.bool (x_ == 0)] (.one (.c (.int .i64))) H fun (r1 : Int) H1 =>
 k r1 H1) (
 Br (decide (x_ < 0)) (
 k (IntKind.wrap .i64 (0 - x_)) H) (
 k x_ H)))
def h_R_one : Hint := .no
theorem cQb4 (op_ : Int) (x_ : Int) {H : Heap} {k : Int → Heap → Prop} (h : vQb4 op_ x_ H k) : CallT Pg fQca [.int .i64 op_, .int .i64 x_] (.one (.c (.int .i64))) H k :=
 call_of_E (h := h_R_one) Pg_mixed Tryz.func145 (by kernel_rfl) (by kernel_rfl) (by kernel_rfl) (by kernel_rfl) (Eq.mpr (by kernel_rfl) h)
def vQb5 (op_ : Int) (w_ : Int) (x_ : Int) (H : Heap) (k : Int → Heap → Prop) : Prop :=
 Br (op_ == 6) (
 Lt (IntKind.wrap .i64 (w_ + x_)) fun t1 =>
 k t1 H) (
 Br (op_ == 7) (
 Lt (IntKind.wrap .i64 (w_ - x_)) fun t2 =>
 k t2 H) (
 Br (op_ == 8) (
 Lt (IntKind.wrap .i64 (w_ * x_)) fun t3 =>
 k t3 H) (
 Br (op_ == 9) (
 CallT Pg fQcd [.int .i64 w_, .int .i64 x_] (.one (.c (.int .i64))) H fun (r1 : Int) H1 =>
 k r1 H1) (
 Br (op_ == 10) (
 CallT Pg fQcd [.int .i64 w_, .int .i64 x_] (.one (.c (.int .i64))) H fun (r2 : Int) H2 =>
 Lt (IntKind.wrap .i64 (r2 * x_)) fun t4 =>
 CallT Pg fQb9 [.bool (x_ != 0)] (.one (.c (.int .i64))) H2 fun (r3 : Int) H3 =>
 Lt (IntKind.wrap .i64 (t4 * r3)) fun t5 =>
 Lt (IntKind.wrap .i64 (w_ - t5)) fun t6 =>
 CallT Pg fQb9 [.bool (x_ == 0)] (.one (.c (.int .i64))) H3 fun (r4 : Int) H4 =>
 Lt (IntKind.wrap .i64 (w_ * r4)) fun t7 =>
 Lt (IntKind.wrap .i64 (t6 - t7)) fun t8 =>
 k t8 H4) (
 Br (op_ == 12) (
 CallT Pg fQb9 [.bool (w_ == x_)] (.one (.c (.int .i64))) H fun (r5 : Int) H5 =>
 k r5 H5) (
 Br (op_ == 13) (
 CallT Pg fQb9 [.bool (w_ != x_)] (.one (.c (.int .i64))) H fun (r6 : Int) H6 =>
 k r6 H6) (
 Br (op_ == 14) (
 CallT Pg fQb9 [.bool (decide (w_ < x_))] (.one (.c (.int .i64))) H fun (r7 : Int) H7 =>
 k r7 H7) (
 Br (op_ == 15) (
 CallT Pg fQb9 [.bool (decide (w_ ≤ x_))] (.one (.c (.int .i64))) H fun (r8 : Int) H8 =>
 k r8 H8) (
 Br (op_ == 16) (
 CallT Pg fQb9 [.bool (decide (w_ > x_))] (.one (.c (.int .i64))) H fun (r9 : Int) H9 =>
 k r9 H9) (
 Br (op_ == 17) (
 CallT Pg fQb9 [.bool (decide (w_ ≥ x_))] (.one (.c (.int .i64))) H fun (r10 : Int) H10 =>
 k r10 H10) (
 Br (op_ == 36) (
 Br (decide (w_ < x_)) (
 k w_ H) (
 k x_ H)) (
 Br (decide (w_ > x_)) (
 k w_ H) (
 k x_ H)))))))))))))
def h_R_two : Hint := .no
theorem cQb5 (op_ : Int) (w_ : Int) (x_ : Int) {H : Heap} {k : Int → Heap → Prop} (h : vQb5 op_ w_ x_ H k) : CallT Pg fQcb [.int .i64 op_, .int .i64 w_, .int .i64 x_] (.one (.c (.int .i64))) H k :=
 call_of_E (h := h_R_two) Pg_mixed Tryz.func146 (by kernel_rfl) (by kernel_rfl) (by kernel_rfl) (by kernel_rfl) (Eq.mpr (by kernel_rfl) h)
def vQb6 (d_ : Option Addr) (H : Heap) (k : Int → Heap → Prop) : Prop :=
 NilCk d_ fun a1 =>
 Ld (.int .u64) a1 H fun (x1 : Int) =>
 CallT Pg fQbz [.int .u64 x1] (.one (.c (.int .u64))) H fun (r1 : Int) H1 =>
 NilCk d_ fun a2 =>
 Ld (.int .u64) a2 H1 fun (x2 : Int) =>
 Lt (IntKind.wrap .u64 (x2 + 11400714819323198485)) fun t1 =>
 NilCk d_ fun a3 =>
 St a3 (.int .u64 t1) H1 fun H2 =>
 k r1 H2
def h_R_Dice_Next : Hint := .no
theorem cQb6 (d_ : Option Addr) {H : Heap} {k : Int → Heap → Prop} (h : vQb6 d_ H k) : CallT Pg fQcc [.pointer d_] (.one (.c (.int .u64))) H k :=
 call_of_E (h := h_R_Dice_Next) Pg_mixed Tryz.func187 (by kernel_rfl) (by kernel_rfl) (by kernel_rfl) (by kernel_rfl) (Eq.mpr (by kernel_rfl) h)
def vQb7 (w_ : Int) (x_ : Int) (H : Heap) (k : Int → Heap → Prop) : Prop :=
 Br (x_ == 0) (
 k 0 H) (
 Br (x_ == (-1)) (
 k (IntKind.wrap .i64 (0 - w_)) H) (
 Quo .i64 w_ x_ fun t1 =>
 k t1 H))
def h_R_quotient : Hint := .no
theorem cQb7 (w_ : Int) (x_ : Int) {H : Heap} {k : Int → Heap → Prop} (h : vQb7 w_ x_ H k) : CallT Pg fQcd [.int .i64 w_, .int .i64 x_] (.one (.c (.int .i64))) H k :=
 call_of_E (h := h_R_quotient) Pg_mixed Tryz.func188 (by kernel_rfl) (by kernel_rfl) (by kernel_rfl) (by kernel_rfl) (Eq.mpr (by kernel_rfl) h)
end
section
open Hc
abbrev fQce : FuncId := 102
abbrev fQcf : FuncId := 103
abbrev fQcg : FuncId := 104
abbrev fQch : FuncId := 105
abbrev fQci : FuncId := 106
abbrev fQcj : FuncId := 107
abbrev fQck : FuncId := 108
abbrev fQcl : FuncId := 110
abbrev fQcm : FuncId := 111
abbrev fQcn : FuncId := 113
abbrev fQco : FuncId := 121
abbrev fQcp : FuncId := 122
abbrev fQcq : FuncId := 150
abbrev fQcr : FuncId := 151
abbrev fQcs : FuncId := 152
abbrev fQct : FuncId := 153
abbrev fQcu : FuncId := 154
abbrev fQcv : FuncId := 155
abbrev fQcw : FuncId := 156
abbrev fQcx : FuncId := 157
abbrev fQcy : FuncId := 158
abbrev fQcz : FuncId := 159
abbrev fQc0 : FuncId := 164
abbrev fQc1 : FuncId := 190
def vQb8 (l_ : Sl) (free0_ : Addr) (H : Heap) (k : Bool → Heap → Prop) : Prop :=
 Ld (.int .i64) free0_ H fun (x1 : Int) =>
 CallT Pg fQcr [slV l_, .int .i64 x1] (.one (.c .bool)) H fun (r1 : Bool) H1 =>
 k r1 H1
def h_machine_run_holds_1 : Hint := .no
theorem cQb8 (l_ : Sl) (free0_ : Addr) {H : Heap} {k : Bool → Heap → Prop} (h : vQb8 l_ free0_ H k) : CallT Pg fQcq [slV l_, .pointer (some free0_)] (.one (.c .bool)) H k :=
 call_of_E (h := h_machine_run_holds_1) Pg_mixed Tryz.func150 (by kernel_rfl) (by kernel_rfl) (by kernel_rfl) (by kernel_rfl) (Eq.mpr (by kernel_rfl) h)
def vQb9 (s_ : Sl) (v_ : Int) (H : Heap) (k : Bool → Heap → Prop) : Prop :=
 CallT Pg fQc1 [slV s_, .int .i64 v_] (.one (.c (.int .i64))) H fun (r1 : Int) H1 =>
 k (decide (r1 ≥ 0)) H1
def h_slices_Contains_Sl_int_int : Hint := .no
theorem cQb9 (s_ : Sl) (v_ : Int) {H : Heap} {k : Bool → Heap → Prop} (h : vQb9 s_ v_ H k) : CallT Pg fQcr [slV s_, .int .i64 v_] (.one (.c .bool)) H k :=
 call_of_E (h := h_slices_Contains_Sl_int_int) Pg_mixed Tryz.func151 (by kernel_rfl) (by kernel_rfl) (by kernel_rfl) (by kernel_rfl) (Eq.mpr (by kernel_rfl) h)
def vQca (s_ : Sl) (v_ : Int) (H : Heap) (k : Int → Heap → Prop) : Prop :=
 LoopT (σ := Int) (fun next1 s1 H1 =>
 Br (decide (s1 < (s_.len : Int))) (
 IxA 1 s_ s1 fun a1 =>
 Ld (.int .i64) a1 H1 fun (x1 : Int) =>
 Br (v_ == x1) (
 k s1 H1) (
 Lt (IntKind.wrap .i64 (s1 + 1)) fun t1 =>
 next1 t1 H1)) (
 k (-1) H1)) 0 H
def h_slices_Index_Sl_int_int : Hint := (.two .no (.two (.two .no (.one (.loop [(8, (.c (.int .i64)))] .no))) .no))
theorem cQca (s_ : Sl) (v_ : Int) {H : Heap} {k : Int → Heap → Prop} (h : vQca s_ v_ H k) : CallT Pg fQc1 [slV s_, .int .i64 v_] (.one (.c (.int .i64))) H k :=
 call_of_E (h := h_slices_Index_Sl_int_int) Pg_mixed Tryz.func190 (by kernel_rfl) (by kernel_rfl) (by kernel_rfl) (by kernel_rfl) (Eq.mpr (by kernel_rfl) h)
def vQcb (l_ : Sl) (free0_ : Addr) (H : Heap) (k : Int → Heap → Prop) : Prop :=
 Ld .raw free0_ H fun (x1 : Value) =>
 IxA 1 l_ 0 fun a1 =>
 Ld (.int .i64) a1 H fun (x2 : Int) =>
 IxA 1 l_ 1 fun a2 =>
 Ld (.int .i64) a2 H fun (x3 : Int) =>
 CallX Pg x1 [.int .i64 x2, .int .i64 x3] (.one (.c (.int .i64))) H fun (r1 : Int) H1 =>
 k r1 H1
def h_machine_of2_1 : Hint := .no
theorem cQcb (l_ : Sl) (free0_ : Addr) {H : Heap} {k : Int → Heap → Prop} (h : vQcb l_ free0_ H k) : CallT Pg fQcs [slV l_, .pointer (some free0_)] (.one (.c (.int .i64))) H k :=
 call_of_E (h := h_machine_of2_1) Pg_mixed Tryz.func152 (by kernel_rfl) (by kernel_rfl) (by kernel_rfl) (by kernel_rfl) (Eq.mpr (by kernel_rfl) h)
def vQcc (l_ : Sl) (free0_ : Addr) (H : Heap) (k : Int → Heap → Prop) : Prop :=
 Ld .raw free0_ H fun (x1 : Value) =>
 IxA 1 l_ 0 fun a1 =>
 Ld (.int .i64) a1 H fun (x2 : Int) =>
 CallX Pg x1 [.int .i64 x2] (.one (.c (.int .i64))) H fun (r1 : Int) H1 =>
 k r1 H1
def h_machine_of1_1 : Hint := .no
theorem cQcc (l_ : Sl) (free0_ : Addr) {H : Heap} {k : Int → Heap → Prop} (h : vQcc l_ free0_ H k) : CallT Pg fQct [slV l_, .pointer (some free0_)] (.one (.c (.int .i64))) H k :=
 call_of_E (h := h_machine_of1_1) Pg_mixed Tryz.func153 (by kernel_rfl) (by kernel_rfl) (by kernel_rfl) (by kernel_rfl) (Eq.mpr (by kernel_rfl) h)
def vQcd (w_ : Int) (x_ : Int) (H : Heap) (k : Int → Heap → Prop) : Prop :=
 Lt (IntKind.wrap .i64 (w_ + x_)) fun t1 =>
 k t1 H
def h_machine_deedOf_1 : Hint := .no
theorem cQcd (w_ : Int) (x_ : Int) {H : Heap} {k : Int → Heap → Prop} (h : vQcd w_ x_ H k) : CallT Pg fQce [.int .i64 w_, .int .i64 x_] (.one (.c (.int .i64))) H k :=
 call_of_E (h := h_machine_deedOf_1) Pg_mixed Tryz.func102 (by kernel_rfl) (by kernel_rfl) (by kernel_rfl) (by kernel_rfl) (Eq.mpr (by kernel_rfl) h)
def vQce (w_ : Int) (x_ : Int) (H : Heap) (k : Int → Heap → Prop) : Prop :=
 Lt (IntKind.wrap .i64 (w_ - x_)) fun t1 =>
 k t1 H
def h_machine_deedOf_2 : Hint := .no
theorem cQce (w_ : Int) (x_ : Int) {H : Heap} {k : Int → Heap → Prop} (h : vQce w_ x_ H k) : CallT Pg fQcf [.int .i64 w_, .int .i64 x_] (.one (.c (.int .i64))) H k :=
 call_of_E (h := h_machine_deedOf_2) Pg_mixed Tryz.func103 (by kernel_rfl) (by kernel_rfl) (by kernel_rfl) (by kernel_rfl) (Eq.mpr (by kernel_rfl) h)
def vQcf (w_ : Int) (x_ : Int) (H : Heap) (k : Int → Heap → Prop) : Prop :=
 Lt (IntKind.wrap .i64 (w_ * x_)) fun t1 =>
 k t1 H
def h_machine_deedOf_3 : Hint := .no
theorem cQcf (w_ : Int) (x_ : Int) {H : Heap} {k : Int → Heap → Prop} (h : vQcf w_ x_ H k) : CallT Pg fQcg [.int .i64 w_, .int .i64 x_] (.one (.c (.int .i64))) H k :=
 call_of_E (h := h_machine_deedOf_3) Pg_mixed Tryz.func104 (by kernel_rfl) (by kernel_rfl) (by kernel_rfl) (by kernel_rfl) (Eq.mpr (by kernel_rfl) h)
def vQcg (w_ : Int) (x_ : Int) (H : Heap) (k : Int → Heap → Prop) : Prop :=
 Br (x_ == 0) (
 k 0 H) (
 Br (x_ == (-1)) (
 k (IntKind.wrap .i64 (0 - w_)) H) (
 Quo .i64 w_ x_ fun t1 =>
 k t1 H))
def h_machine_div : Hint := .no
theorem cQcg (w_ : Int) (x_ : Int) {H : Heap} {k : Int → Heap → Prop} (h : vQcg w_ x_ H k) : CallT Pg fQch [.int .i64 w_, .int .i64 x_] (.one (.c (.int .i64))) H k :=
 call_of_E (h := h_machine_div) Pg_mixed Tryz.func105 (by kernel_rfl) (by kernel_rfl) (by kernel_rfl) (by kernel_rfl) (Eq.mpr (by kernel_rfl) h)
def vQch (w_ : Int) (x_ : Int) (H : Heap) (k : Int → Heap → Prop) : Prop :=
 Jn (σ := Bool) (fun kk1 =>
 Br (x_ == 0) (
 kk1 true H) (
 kk1 (x_ == (-1)) H)) fun j1 H1 =>
 Br j1 (
 k 0 H1) (
 Rem w_ x_ fun t1 =>
 k t1 H1)
def h_machine_rem : Hint := (.two .no (.two (.two (.join [(10, (.c .bool))] .no) .no) .no))
theorem cQch (w_ : Int) (x_ : Int) {H : Heap} {k : Int → Heap → Prop} (h : vQch w_ x_ H k) : CallT Pg fQci [.int .i64 w_, .int .i64 x_] (.one (.c (.int .i64))) H k :=
 call_of_E (h := h_machine_rem) Pg_mixed Tryz.func106 (by kernel_rfl) (by kernel_rfl) (by kernel_rfl) (by kernel_rfl) (Eq.mpr (by kernel_rfl) h)
def vQci (w_ : Int) (x_ : Int) (H : Heap) (k : Int → Heap → Prop) : Prop :=
 k (if x_ < w_ then x_ else w_) H
def h_machine_deedOf_4 : Hint := .no
theorem cQci (w_ : Int) (x_ : Int) {H : Heap} {k : Int → Heap → Prop} (h : vQci w_ x_ H k) : CallT Pg fQcj [.int .i64 w_, .int .i64 x_] (.one (.c (.int .i64))) H k :=
 call_of_E (h := h_machine_deedOf_4) Pg_mixed Tryz.func107 (by kernel_rfl) (by kernel_rfl) (by kernel_rfl) (by kernel_rfl) (Eq.mpr (by kernel_rfl) h)
def vQcj (w_ : Int) (x_ : Int) (H : Heap) (k : Int → Heap → Prop) : Prop :=
 k (if w_ < x_ then x_ else w_) H
def h_machine_deedOf_5 : Hint := .no
theorem cQcj (w_ : Int) (x_ : Int) {H : Heap} {k : Int → Heap → Prop} (h : vQcj w_ x_ H k) : CallT Pg fQck [.int .i64 w_, .int .i64 x_] (.one (.c (.int .i64))) H k :=
 call_of_E (h := h_machine_deedOf_5) Pg_mixed Tryz.func108 (by kernel_rfl) (by kernel_rfl) (by kernel_rfl) (by kernel_rfl) (Eq.mpr (by kernel_rfl) h)
def vQck (x_ : Int) (H : Heap) (k : Int → Heap → Prop) : Prop :=
 k (IntKind.wrap .i64 (0 - x_)) H
def h_machine_deedOf_6 : Hint := .no
theorem cQck (x_ : Int) {H : Heap} {k : Int → Heap → Prop} (h : vQck x_ H k) : CallT Pg fQcl [.int .i64 x_] (.one (.c (.int .i64))) H k :=
 call_of_E (h := h_machine_deedOf_6) Pg_mixed Tryz.func110 (by kernel_rfl) (by kernel_rfl) (by kernel_rfl) (by kernel_rfl) (Eq.mpr (by kernel_rfl) h)
def vQcl (x_ : Int) (H : Heap) (k : Int → Heap → Prop) : Prop :=
 CallT Pg fQa4 [.bool (x_ == 0)] (.one (.c (.int .i64))) H fun (r1 : Int) H1 =>
 k r1 H1
def h_machine_deedOf_7 : Hint := .no
theorem cQcl (x_ : Int) {H : Heap} {k : Int → Heap → Prop} (h : vQcl x_ H k) : CallT Pg fQcm [.int .i64 x_] (.one (.c (.int .i64))) H k :=
 call_of_E (h := h_machine_deedOf_7) Pg_mixed Tryz.func111 (by kernel_rfl) (by kernel_rfl) (by kernel_rfl) (by kernel_rfl) (Eq.mpr (by kernel_rfl) h)
def vQcm (x_ : Int) (H : Heap) (k : Int → Heap → Prop) : Prop :=
 Br (decide (x_ < 0)) (
 k (IntKind.wrap .i64 (0 - x_)) H) (
 k x_ H)
def h_machine_deedOf_8 : Hint := .no
theorem cQcm (x_ : Int) {H : Heap} {k : Int → Heap → Prop} (h : vQcm x_ H k) : CallT Pg fQcn [.int .i64 x_] (.one (.c (.int .i64))) H k :=
 call_of_E (h := h_machine_deedOf_8) Pg_mixed Tryz.func113 (by kernel_rfl) (by kernel_rfl) (by kernel_rfl) (by kernel_rfl) (Eq.mpr (by kernel_rfl) h)
def vQcn (w_ : Int) (x_ : Int) (H : Heap) (k : Int → Heap → Prop) : Prop :=
 CallT Pg fQa4 [.bool (w_ == x_)] (.one (.c (.int .i64))) H fun (r1 : Int) H1 =>
 k r1 H1
def h_machine_compared_1 : Hint := .no
theorem cQcn (w_ : Int) (x_ : Int) {H : Heap} {k : Int → Heap → Prop} (h : vQcn w_ x_ H k) : CallT Pg fQcu [.int .i64 w_, .int .i64 x_] (.one (.c (.int .i64))) H k :=
 call_of_E (h := h_machine_compared_1) Pg_mixed Tryz.func154 (by kernel_rfl) (by kernel_rfl) (by kernel_rfl) (by kernel_rfl) (Eq.mpr (by kernel_rfl) h)
def vQco (w_ : Int) (x_ : Int) (H : Heap) (k : Int → Heap → Prop) : Prop :=
 CallT Pg fQa4 [.bool (w_ != x_)] (.one (.c (.int .i64))) H fun (r1 : Int) H1 =>
 k r1 H1
def h_machine_compared_2 : Hint := .no
theorem cQco (w_ : Int) (x_ : Int) {H : Heap} {k : Int → Heap → Prop} (h : vQco w_ x_ H k) : CallT Pg fQcv [.int .i64 w_, .int .i64 x_] (.one (.c (.int .i64))) H k :=
 call_of_E (h := h_machine_compared_2) Pg_mixed Tryz.func155 (by kernel_rfl) (by kernel_rfl) (by kernel_rfl) (by kernel_rfl) (Eq.mpr (by kernel_rfl) h)
def vQcp (w_ : Int) (x_ : Int) (H : Heap) (k : Int → Heap → Prop) : Prop :=
 CallT Pg fQa4 [.bool (decide (w_ < x_))] (.one (.c (.int .i64))) H fun (r1 : Int) H1 =>
 k r1 H1
def h_machine_compared_3 : Hint := .no
theorem cQcp (w_ : Int) (x_ : Int) {H : Heap} {k : Int → Heap → Prop} (h : vQcp w_ x_ H k) : CallT Pg fQcw [.int .i64 w_, .int .i64 x_] (.one (.c (.int .i64))) H k :=
 call_of_E (h := h_machine_compared_3) Pg_mixed Tryz.func156 (by kernel_rfl) (by kernel_rfl) (by kernel_rfl) (by kernel_rfl) (Eq.mpr (by kernel_rfl) h)
def vQcq (w_ : Int) (x_ : Int) (H : Heap) (k : Int → Heap → Prop) : Prop :=
 CallT Pg fQa4 [.bool (decide (w_ ≤ x_))] (.one (.c (.int .i64))) H fun (r1 : Int) H1 =>
 k r1 H1
def h_machine_compared_4 : Hint := .no
theorem cQcq (w_ : Int) (x_ : Int) {H : Heap} {k : Int → Heap → Prop} (h : vQcq w_ x_ H k) : CallT Pg fQcx [.int .i64 w_, .int .i64 x_] (.one (.c (.int .i64))) H k :=
 call_of_E (h := h_machine_compared_4) Pg_mixed Tryz.func157 (by kernel_rfl) (by kernel_rfl) (by kernel_rfl) (by kernel_rfl) (Eq.mpr (by kernel_rfl) h)
def vQcr (w_ : Int) (x_ : Int) (H : Heap) (k : Int → Heap → Prop) : Prop :=
 CallT Pg fQa4 [.bool (decide (w_ > x_))] (.one (.c (.int .i64))) H fun (r1 : Int) H1 =>
 k r1 H1
def h_machine_compared_5 : Hint := .no
theorem cQcr (w_ : Int) (x_ : Int) {H : Heap} {k : Int → Heap → Prop} (h : vQcr w_ x_ H k) : CallT Pg fQcy [.int .i64 w_, .int .i64 x_] (.one (.c (.int .i64))) H k :=
 call_of_E (h := h_machine_compared_5) Pg_mixed Tryz.func158 (by kernel_rfl) (by kernel_rfl) (by kernel_rfl) (by kernel_rfl) (Eq.mpr (by kernel_rfl) h)
def vQcs (w_ : Int) (x_ : Int) (H : Heap) (k : Int → Heap → Prop) : Prop :=
 CallT Pg fQa4 [.bool (decide (w_ ≥ x_))] (.one (.c (.int .i64))) H fun (r1 : Int) H1 =>
 k r1 H1
def h_machine_compared_6 : Hint := .no
theorem cQcs (w_ : Int) (x_ : Int) {H : Heap} {k : Int → Heap → Prop} (h : vQcs w_ x_ H k) : CallT Pg fQcz [.int .i64 w_, .int .i64 x_] (.one (.c (.int .i64))) H k :=
 call_of_E (h := h_machine_compared_6) Pg_mixed Tryz.func159 (by kernel_rfl) (by kernel_rfl) (by kernel_rfl) (by kernel_rfl) (Eq.mpr (by kernel_rfl) h)
def vQct (a_ : Int × Sl) (b_ : Int × Sl) (H : Heap) (k : Int → Heap → Prop) : Prop :=
 Nw #[.int .i64 a_.1, slV a_.2] TQai H fun b1 H1 =>
 Nw #[.int .i64 b_.1, slV b_.2] TQai H1 fun b2 H2 =>
 Ld (.int .i64) (adr b1) H2 fun (x1 : Int) =>
 Ld (.int .i64) (adr b2) H2 fun (x2 : Int) =>
 CallT Pg fQcp [.int .i64 x1, .int .i64 x2] (.one (.c (.int .i64))) H2 fun (r1 : Int) H3 =>
 k r1 H3
def h_machine_run_spawn_1 : Hint := .no
theorem cQct (a_ : Int × Sl) (b_ : Int × Sl) {H : Heap} {k : Int → Heap → Prop} (h : vQct a_ b_ H k) : CallT Pg fQco [.agg #[.int .i64 a_.1, slV a_.2], .agg #[.int .i64 b_.1, slV b_.2]] (.one (.c (.int .i64))) H k :=
 call_of_E (h := h_machine_run_spawn_1) Pg_mixed Tryz.func121 (by kernel_rfl) (by kernel_rfl) (by kernel_rfl) (by kernel_rfl) (Eq.mpr (by kernel_rfl) h)
def vQcu (x_ : Int) (y_ : Int) (H : Heap) (k : Int → Heap → Prop) : Prop :=
 CallT Pg fQc0 [.int .i64 x_] (.one (.c .bool)) H fun (r1 : Bool) H1 =>
 CallT Pg fQc0 [.int .i64 y_] (.one (.c .bool)) H1 fun (r2 : Bool) H2 =>
 Br r1 (
 Br r2 (
 k 0 H2) (
 k (-1) H2)) (
 Br r2 (
 k 1 H2) (
 Br (decide (x_ < y_)) (
 k (-1) H2) (
 Br (decide (x_ > y_)) (
 k 1 H2) (
 k 0 H2))))
def h_cmp_Compare_int : Hint := .no
theorem cQcu (x_ : Int) (y_ : Int) {H : Heap} {k : Int → Heap → Prop} (h : vQcu x_ y_ H k) : CallT Pg fQcp [.int .i64 x_, .int .i64 y_] (.one (.c (.int .i64))) H k :=
 call_of_E (h := h_cmp_Compare_int) Pg_mixed Tryz.func122 (by kernel_rfl) (by kernel_rfl) (by kernel_rfl) (by kernel_rfl) (Eq.mpr (by kernel_rfl) h)
def vQcv (x_ : Int) (H : Heap) (k : Bool → Heap → Prop) : Prop :=
 k (x_ != x_) H
def h_cmp_isNaN_int : Hint := .no
theorem cQcv (x_ : Int) {H : Heap} {k : Bool → Heap → Prop} (h : vQcv x_ H k) : CallT Pg fQc0 [.int .i64 x_] (.one (.c .bool)) H k :=
 call_of_E (h := h_cmp_isNaN_int) Pg_mixed Tryz.func164 (by kernel_rfl) (by kernel_rfl) (by kernel_rfl) (by kernel_rfl) (Eq.mpr (by kernel_rfl) h)
end
end Go.Proofs.YtfpmgpblhhcpgaaGreat
