import Derived.Test.YtfpmgpblhhcpgaaGreatVMacB
import Derived.Test.YtfpmgpblhhcpgaaGreatHcLists
import Derived.KernelRfl
import Derived.Test.YtfpmgpblhhcpgaaGreatProg
namespace Go.Proofs.YtfpmgpblhhcpgaaGreat
set_option linter.unusedVariables false
set_option linter.unusedSimpArgs false
set_option maxRecDepth 100000
section
open Hc
abbrev TQa1 : TypeId := 170
abbrev TQa2 : TypeId := 181
abbrev TQa3 : TypeId := 112
abbrev TQa4 : TypeId := 117
abbrev TQa5 : TypeId := 183
abbrev TQa6 : TypeId := 166
abbrev TQa7 : TypeId := 70
abbrev TQa8 : TypeId := 4
abbrev TQa9 : TypeId := 180
abbrev TQba : TypeId := 122
abbrev TQbb : TypeId := 219
abbrev TQbc : TypeId := 9
abbrev TQbd : TypeId := 5
abbrev TQbe : TypeId := 121
abbrev TQbf : TypeId := 188
abbrev TQbg : TypeId := 175
abbrev TQbh : TypeId := 259
abbrev TQbi : TypeId := 164
abbrev fQc2 : FuncId := 19
abbrev fQc3 : FuncId := 39
abbrev fQc4 : FuncId := 40
abbrev fQc5 : FuncId := 41
abbrev fQc6 : FuncId := 42
abbrev fQc7 : FuncId := 43
abbrev fQc8 : FuncId := 44
abbrev fQc9 : FuncId := 45
abbrev fQda : FuncId := 46
abbrev fQdb : FuncId := 72
abbrev fQdc : FuncId := 73
abbrev fQdd : FuncId := 74
abbrev fQde : FuncId := 75
abbrev fQdf : FuncId := 76
abbrev fQdg : FuncId := 77
abbrev fQdh : FuncId := 78
abbrev fQdi : FuncId := 79
abbrev fQdj : FuncId := 80
abbrev fQdk : FuncId := 81
abbrev fQdl : FuncId := 82
abbrev fQdm : FuncId := 83
abbrev fQdn : FuncId := 84
abbrev fQdo : FuncId := 85
abbrev fQdp : FuncId := 86
abbrev fQdq : FuncId := 87
abbrev fQdr : FuncId := 125
abbrev fQds : FuncId := 126
abbrev fQdt : FuncId := 127
abbrev fQdu : FuncId := 128
abbrev fQdv : FuncId := 129
abbrev fQdw : FuncId := 130
abbrev fQdx : FuncId := 131
abbrev fQdy : FuncId := 132
abbrev fQdz : FuncId := 133
abbrev fQd0 : FuncId := 134
abbrev fQd1 : FuncId := 135
abbrev fQd2 : FuncId := 136
abbrev fQd3 : FuncId := 137
abbrev fQd4 : FuncId := 138
abbrev fQd5 : FuncId := 139
abbrev fQd6 : FuncId := 140
abbrev fQd7 : FuncId := 141
abbrev fQd8 : FuncId := 176
abbrev fQd9 : FuncId := 177
abbrev fQea : FuncId := 178
abbrev fQeb : FuncId := 179
abbrev fQec : FuncId := 180
abbrev fQed : FuncId := 181
abbrev fQee : FuncId := 182
abbrev fQef : FuncId := 183
abbrev fQeg : FuncId := 184
abbrev fQeh : FuncId := 185
abbrev fQei : FuncId := 186
abbrev fQej : FuncId := 199
abbrev fQek : FuncId := 200
abbrev fQel : FuncId := 203
def vQcw (p_ : Sl × Sl) (kinds_ : Sl) (H : Heap) (k : Value → Heap → Prop) : Prop :=
 Nw #[slV p_.1, slV p_.2] TQaj H fun b1 H1 =>
 CallT Pg fQc3 [slV kinds_] (.tup [(.c .ptr), (.c (.int .i64))]) H1 fun (r1 : Option Addr × Int) H2 =>
 Br (r1.2 != 0) (
 CallT Pg fQc4 [.int .i64 0, .int .i64 65] (.one (.c .ptr)) H2 fun (r2 : Option Addr) H3 =>
 k ((.iface TQa3 (.pointer r2))) H3) (
 LdC [.sl, .sl] (adr b1) H2 fun (c1 : Sl × Sl) =>
 CallT Pg fQc5 [.agg #[slV c1.1, slV c1.2]] (.tup [(.c .sl), (.c (.int .i64))]) H2 fun (r3 : Sl × Int) H4 =>
 Br (r3.2 != 0) (
 CallT Pg fQc4 [.int .i64 0, .int .i64 130] (.one (.c .ptr)) H4 fun (r4 : Option Addr) H5 =>
 k ((.iface TQa3 (.pointer r4))) H5) (
 LdC [.sl, .sl] (adr b1) H4 fun (c2 : Sl × Sl) =>
 LdC [.sl, .sl] (adr b1) H4 fun (c3 : Sl × Sl) =>
 CallT Pg fQc6 [.agg #[slV c3.1, slV c3.2]] (.one (.c .sl)) H4 fun (r5 : Sl) H6 =>
 Stab [((adr b1).add 0, slV c2.1), ((adr b1).add 1, slV c2.2)] H6 <|
 Nw #[slV c2.1, slV c2.2, slV kinds_, slV r5] TQbe H6 fun b2 H7 =>
 Stab [((adr b1).add 0, slV c3.1), ((adr b1).add 1, slV c3.2), ((adr b1).add 0, slV c2.1), ((adr b1).add 1, slV c2.2)] H7 <|
 Nw #[.func (.func 43) #[] #[], .func (.func 44) #[] #[], .func (.func 45) #[] #[], .func (.func 46) #[] #[]] TQba H7 fun b3 H8 =>
 LoopT (σ := Int) (fun next1 s1 H9 =>
 Br (decide (s1 < 4)) (
 IxA 1 ⟨some (adr b3), 4, 4⟩ s1 fun a1 =>
 Ld .raw a1 H9 fun (x1 : Value) =>
 CallX Pg x1 [.pointer (some (adr b2))] (.one (.c .ptr)) H9 fun (r6 : Option Addr) H10 =>
 Br (!r6.isNone) (
 k ((.iface TQa3 (.pointer r6))) H10) (
 Lt (IntKind.wrap .i64 (s1 + 1)) fun t1 =>
 next1 t1 H10)) (
 k (.nilIface) H9)) 0 H8))
def h_verify_Verify : Hint := (.two .no (.two .no (.two .no (.two .no (.two (.two .no (.one (.loop [(39, (.c (.int .i64)))] .no))) .no)))))
theorem cQcw (p_ : Sl × Sl) (kinds_ : Sl) {H : Heap} {k : Value → Heap → Prop} (h : vQcw p_ kinds_ H k) : CallT Pg fQc2 [.agg #[slV p_.1, slV p_.2], slV kinds_] (.one (.c .raw)) H k :=
 call_of_E (h := h_verify_Verify) Pg_mixed Tryz.func19 (by kernel_rfl) (by kernel_rfl) (by kernel_rfl) (by kernel_rfl) (Eq.mpr (by kernel_rfl) h)
def vQcx (kinds_ : Sl) (H : Heap) (k : Option Addr × Int → Heap → Prop) : Prop :=
 CallT Pg fQdb [slV kinds_] (.one (.c .bool)) H fun (r1 : Bool) H1 =>
 Br (!r1) (
 k (none, 65) H1) (
 CallT Pg fQdc [.int .i64 200] (.tup [(.c .ptr), (.c (.int .i64))]) H1 fun (r2 : Option Addr × Int) H2 =>
 Br (r2.2 != 0) (
 k (none, r2.2) H2) (
 CallT Pg fQdd [slV kinds_] (.one (.c .sl)) H2 fun (r3 : Sl) H3 =>
 MkM H3 fun m1 H4 =>
 MkM H4 fun m2 H5 =>
 Nw #[slV r3, .pointer r2.1, m1, m2] TQbi H5 fun b1 H6 =>
 k ((some (adr b1), 0)) H6))
def h_world_New : Hint := .no
theorem cQcx (kinds_ : Sl) {H : Heap} {k : Option Addr × Int → Heap → Prop} (h : vQcx kinds_ H k) : CallT Pg fQc3 [slV kinds_] (.tup [(.c .ptr), (.c (.int .i64))]) H k :=
 call_of_E (h := h_world_New) Pg_mixed Tryz.func39 (by kernel_rfl) (by kernel_rfl) (by kernel_rfl) (by kernel_rfl) (Eq.mpr (by kernel_rfl) h)
def vQcy (at_ : Int) (e_ : Int) (H : Heap) (k : Option Addr → Heap → Prop) : Prop :=
 Nw #[.int .i64 at_, .int .i64 e_] TQa6 H fun b1 H1 =>
 k (some (adr b1)) H1
def h_verify_fault : Hint := .no
theorem cQcy (at_ : Int) (e_ : Int) {H : Heap} {k : Option Addr → Heap → Prop} (h : vQcy at_ e_ H k) : CallT Pg fQc4 [.int .i64 at_, .int .i64 e_] (.one (.c .ptr)) H k :=
 call_of_E (h := h_verify_fault) Pg_mixed Tryz.func40 (by kernel_rfl) (by kernel_rfl) (by kernel_rfl) (by kernel_rfl) (Eq.mpr (by kernel_rfl) h)
def vQcz (p_ : Sl × Sl) (H : Heap) (k : Sl × Int → Heap → Prop) : Prop :=
 Nw #[slV p_.1, slV p_.2] TQaj H fun b1 H1 =>
 LdC [.sl, .sl] (adr b1) H1 fun (c1 : Sl × Sl) =>
 CallT Pg fQde [.agg #[slV c1.1, slV c1.2]] (.one (.c .bool)) H1 fun (r1 : Bool) H2 =>
 Br (!r1) (
 k (⟨none, 0, 0⟩, 130) H2) (
 Ld .sl (adr b1) H2 fun (x1 : Sl) =>
 CallT Pg fQdf [.slice none 0 0, .int .i64 (x1.len : Int)] (.one (.c .sl)) H2 fun (r2 : Sl) H3 =>
 Ld .sl (adr b1) H3 fun (x2 : Sl) =>
 LoopT (σ := Sl × Int) (fun next1 s1 H4 =>
 Br (decide (s1.2 < (x2.len : Int))) (
 IxA 8 x2 s1.2 fun a1 =>
 LdC [.sl, .sl, .sl, .sl, .str, (.int .i64), (.int .i64), .sl] a1 H4 fun (c2 : Sl × Sl × Sl × Sl × ByteArray × Int × Int × Sl) =>
 Nw #[.slice none 0 0, .slice none 0 0, .slice none 0 0, .slice none 0 0, .string ByteArray.empty, .int .i64 0, .int .i64 0, .slice none 0 0] TQaw H4 fun b2 H5 =>
 St ((adr b2).add 0) (slV c2.1) H5 fun H6 =>
 St ((adr b2).add 1) (slV c2.2.1) H6 fun H7 =>
 St ((adr b2).add 2) (slV c2.2.2.1) H7 fun H8 =>
 St ((adr b2).add 3) (slV c2.2.2.2.1) H8 fun H9 =>
 St ((adr b2).add 4) (.string c2.2.2.2.2.1) H9 fun H10 =>
 St ((adr b2).add 5) (.int .i64 c2.2.2.2.2.2.1) H10 fun H11 =>
 St ((adr b2).add 6) (.int .i64 c2.2.2.2.2.2.2.1) H11 fun H12 =>
 St ((adr b2).add 7) (slV c2.2.2.2.2.2.2.2) H12 fun H13 =>
 CallT Pg fQdg [.pointer (some (adr b2))] (.one (.agg [.ptr, .ptr, .ptr, .ptr])) H13 fun (r3 : Option Addr × Option Addr × Option Addr × Option Addr) H14 =>
 LoopT (σ := Sl × Int) (fun next2 s2 H15 =>
 Br (decide (s2.2 < 4)) (
 ArI .ptr 4 #[.pointer r3.1, .pointer r3.2.1, .pointer r3.2.2.1, .pointer r3.2.2.2] s2.2 fun (b3 : Option Addr) =>
 NilCk b3 fun a2 =>
 Ld .sl a2 H15 fun (x3 : Sl) =>
 CallT Pg fQdf [slV s2.1, .int .i64 (x3.len : Int)] (.one (.c .sl)) H15 fun (r4 : Sl) H16 =>
 NilCk b3 fun a3 =>
 Ld .sl a3 H16 fun (x4 : Sl) =>
 LoopT (σ := Sl × Int) (fun next3 s3 H17 =>
 Br (decide (s3.2 < (x4.len : Int))) (
 IxA 1 x4 s3.2 fun a4 =>
 Ld (.int .i64) a4 H17 fun (x5 : Int) =>
 CallT Pg fQdf [slV s3.1, .int .i64 x5] (.one (.c .sl)) H17 fun (r5 : Sl) H18 =>
 Lt (IntKind.wrap .i64 (s3.2 + 1)) fun t1 =>
 next3 (r5, t1) H18) (
 Lt (IntKind.wrap .i64 (s2.2 + 1)) fun t2 =>
 next2 (s3.1, t2) H17)) (r4, 0) H16) (
 LdC [.str, (.int .i64), (.int .i64), .sl] ((adr b2).add 4) H15 fun (c3 : ByteArray × Int × Int × Sl) =>
 CallT Pg fQdh [slV s2.1, .agg #[.string c3.1, .int .i64 c3.2.1, .int .i64 c3.2.2.1, slV c3.2.2.2]] (.one (.c .sl)) H15 fun (r6 : Sl) H19 =>
 Lt (IntKind.wrap .i64 (s1.2 + 1)) fun t3 =>
 next1 (r6, t3) H19)) (s1.1, 0) H14) (
 Ld .sl ((adr b1).add 1) H4 fun (x6 : Sl) =>
 CallT Pg fQdf [slV s1.1, .int .i64 (x6.len : Int)] (.one (.c .sl)) H4 fun (r7 : Sl) H20 =>
 Ld .sl ((adr b1).add 1) H20 fun (x7 : Sl) =>
 LoopT (σ := Sl × Int) (fun next4 s4 H21 =>
 Br (decide (s4.2 < (x7.len : Int))) (
 IxA 4 x7 s4.2 fun a5 =>
 LdC [.str, (.int .i64), (.int .i64), .sl] a5 H21 fun (c4 : ByteArray × Int × Int × Sl) =>
 Nw #[.string ByteArray.empty, .int .i64 0, .int .i64 0, .slice none 0 0] TQak H21 fun b4 H22 =>
 St ((adr b4).add 0) (.string c4.1) H22 fun H23 =>
 St ((adr b4).add 1) (.int .i64 c4.2.1) H23 fun H24 =>
 St ((adr b4).add 2) (.int .i64 c4.2.2.1) H24 fun H25 =>
 St ((adr b4).add 3) (slV c4.2.2.2) H25 fun H26 =>
 LdC [.str, (.int .i64), (.int .i64), .sl] (adr b4) H26 fun (c5 : ByteArray × Int × Int × Sl) =>
 CallT Pg fQdh [slV s4.1, .agg #[.string c5.1, .int .i64 c5.2.1, .int .i64 c5.2.2.1, slV c5.2.2.2]] (.one (.c .sl)) H26 fun (r8 : Sl) H27 =>
 Lt (IntKind.wrap .i64 (s4.2 + 1)) fun t4 =>
 next4 (r8, t4) H27) (
 k (s4.1, 0) H21)) (r7, 0) H20)) (r2, 0) H3)
def h_code_Encode : Hint := (.two .no (.two .no (.two .no (.two (.two .no (.one (.loop [(4, (.c .sl)), (23, (.c (.int .i64)))] (.two .no (.two .no (.two (.one (.two .no (.two (.two .no (.one (.loop [(4, (.c .sl)), (28, (.c (.int .i64)))] (.two .no (.two .no (.two (.one (.two .no (.two .no (.two .no (.one (.loop [(4, (.c .sl)), (41, (.c (.int .i64)))] .no)))))) .no)))))) .no))) .no)))))) (.two .no (.two (.two .no (.one (.loop [(4, (.c .sl)), (63, (.c (.int .i64)))] .no))) .no))))))
theorem cQcz (p_ : Sl × Sl) {H : Heap} {k : Sl × Int → Heap → Prop} (h : vQcz p_ H k) : CallT Pg fQc5 [.agg #[slV p_.1, slV p_.2]] (.tup [(.c .sl), (.c (.int .i64))]) H k :=
 call_of_E (h := h_code_Encode) Pg_mixed Tryz.func41 (by kernel_rfl) (by kernel_rfl) (by kernel_rfl) (by kernel_rfl) (Eq.mpr (by kernel_rfl) h)
def vQc0 (p_ : Sl × Sl) (H : Heap) (k : Sl → Heap → Prop) : Prop :=
 Nw #[slV p_.1, slV p_.2] TQaj H fun b1 H1 =>
 Ld .sl (adr b1) H1 fun (x1 : Sl) =>
 LoopT (σ := Sl × Int × Int) (fun next1 s1 H2 =>
 Br (decide (s1.2.2 < (x1.len : Int))) (
 Ld .sl (adr b1) H2 fun (x2 : Sl) =>
 IxA 8 x2 s1.2.2 fun a1 =>
 NilCk (some a1) fun a2 =>
 LdC [.str, (.int .i64), (.int .i64), .sl] (a2.add 4) H2 fun (c1 : ByteArray × Int × Int × Sl) =>
 Nw #[.int .i64 s1.2.1, .string c1.1, .int .i64 c1.2.1, .int .i64 c1.2.2.1, slV c1.2.2.2, .pointer (some a1)] TQbg H2 fun b2 H3 =>
 App TQbg 6 72 #[.int .i64 0, .string ByteArray.empty, .int .i64 0, .int .i64 0, .slice none 0 0, .pointer none] s1.1 ⟨some (adr b2), 1, 1⟩ H3 fun l1 H4 =>
 NilCk (some a1) fun a3 =>
 Ld .sl ((a3.add 4).add 3) H4 fun (x3 : Sl) =>
 Lt (IntKind.wrap .i64 (s1.2.1 + (x3.len : Int))) fun t1 =>
 Lt (IntKind.wrap .i64 (s1.2.2 + 1)) fun t2 =>
 next1 (l1, t1, t2) H4) (
 Ld .sl ((adr b1).add 1) H2 fun (x4 : Sl) =>
 LoopT (σ := Sl × Int × Int) (fun next2 s2 H5 =>
 Br (decide (s2.2.2 < (x4.len : Int))) (
 IxA 4 x4 s2.2.2 fun a4 =>
 LdC [.str, (.int .i64), (.int .i64), .sl] a4 H5 fun (c2 : ByteArray × Int × Int × Sl) =>
 Nw #[.string ByteArray.empty, .int .i64 0, .int .i64 0, .slice none 0 0] TQak H5 fun b3 H6 =>
 St ((adr b3).add 0) (.string c2.1) H6 fun H7 =>
 St ((adr b3).add 1) (.int .i64 c2.2.1) H7 fun H8 =>
 St ((adr b3).add 2) (.int .i64 c2.2.2.1) H8 fun H9 =>
 St ((adr b3).add 3) (slV c2.2.2.2) H9 fun H10 =>
 LdC [.str, (.int .i64), (.int .i64), .sl] (adr b3) H10 fun (c3 : ByteArray × Int × Int × Sl) =>
 Nw #[.int .i64 s2.2.1, .string c3.1, .int .i64 c3.2.1, .int .i64 c3.2.2.1, slV c3.2.2.2, .pointer none] TQbg H10 fun b4 H11 =>
 App TQbg 6 72 #[.int .i64 0, .string ByteArray.empty, .int .i64 0, .int .i64 0, .slice none 0 0, .pointer none] s2.1 ⟨some (adr b4), 1, 1⟩ H11 fun l2 H12 =>
 Ld .sl ((adr b3).add 3) H12 fun (x5 : Sl) =>
 Lt (IntKind.wrap .i64 (s2.2.1 + (x5.len : Int))) fun t3 =>
 Lt (IntKind.wrap .i64 (s2.2.2 + 1)) fun t4 =>
 next2 (l2, t3, t4) H12) (
 k s2.1 H5)) (s1.1, s1.2.1, 0) H2)) (⟨none, 0, 0⟩, 0, 0) H1
def h_verify_routines : Hint := (.two .no (.two .no (.two .no (.two (.two .no (.one (.loop [(3, (.c .sl)), (4, (.c (.int .i64))), (12, (.c (.int .i64)))] .no))) (.two (.two .no (.one (.loop [(3, (.c .sl)), (4, (.c (.int .i64))), (41, (.c (.int .i64)))] .no))) .no)))))
theorem cQc0 (p_ : Sl × Sl) {H : Heap} {k : Sl → Heap → Prop} (h : vQc0 p_ H k) : CallT Pg fQc6 [.agg #[slV p_.1, slV p_.2]] (.one (.c .sl)) H k :=
 call_of_E (h := h_verify_routines) Pg_mixed Tryz.func42 (by kernel_rfl) (by kernel_rfl) (by kernel_rfl) (by kernel_rfl) (Eq.mpr (by kernel_rfl) h)
def vQc1 (c_ : Option Addr) (H : Heap) (k : Option Addr → Heap → Prop) : Prop :=
 Nw #[.pointer c_] TQa4 H fun b1 H1 =>
 Ld .ptr (adr b1) H1 fun (x1 : Option Addr) =>
 NilCk x1 fun a1 =>
 Ld .sl a1 H1 fun (x2 : Sl) =>
 LoopT (σ := Int) (fun next1 s1 H2 =>
 Br (decide (s1 < (x2.len : Int))) (
 IxA 8 x2 s1 fun a2 =>
 LdC [.sl, .sl, .sl, .sl, .str, (.int .i64), (.int .i64), .sl] a2 H2 fun (c1 : Sl × Sl × Sl × Sl × ByteArray × Int × Int × Sl) =>
 Nw #[.slice none 0 0, .slice none 0 0, .slice none 0 0, .slice none 0 0, .string ByteArray.empty, .int .i64 0, .int .i64 0, .slice none 0 0] TQaw H2 fun b2 H3 =>
 St ((adr b2).add 0) (slV c1.1) H3 fun H4 =>
 St ((adr b2).add 1) (slV c1.2.1) H4 fun H5 =>
 St ((adr b2).add 2) (slV c1.2.2.1) H5 fun H6 =>
 St ((adr b2).add 3) (slV c1.2.2.2.1) H6 fun H7 =>
 St ((adr b2).add 4) (.string c1.2.2.2.2.1) H7 fun H8 =>
 St ((adr b2).add 5) (.int .i64 c1.2.2.2.2.2.1) H8 fun H9 =>
 St ((adr b2).add 6) (.int .i64 c1.2.2.2.2.2.2.1) H9 fun H10 =>
 St ((adr b2).add 7) (slV c1.2.2.2.2.2.2.2) H10 fun H11 =>
 Ld .sl (adr b2) H11 fun (x3 : Sl) =>
 Ld .sl ((adr b2).add 1) H11 fun (x4 : Sl) =>
 Ld .sl ((adr b2).add 2) H11 fun (x5 : Sl) =>
 Ld .sl ((adr b2).add 3) H11 fun (x6 : Sl) =>
 Nw #[slV x3, slV x4, slV x5, slV x6] TQab H11 fun b3 H12 =>
 LoopT (σ := Int) (fun next2 s2 H13 =>
 Br (decide (s2 < 4)) (
 IxA 1 ⟨some (adr b3), 4, 4⟩ s2 fun a3 =>
 Ld .sl a3 H13 fun (x7 : Sl) =>
 CallT Pg fQdi [slV x7, .func (.func 80) #[] #[.pointer (some (adr b1))]] (.one (.c .bool)) H13 fun (r1 : Bool) H14 =>
 Br r1 (
 Ld .ptr (adr b1) H14 fun (x8 : Option Addr) =>
 NilCk x8 fun a4 =>
 Ld .sl (a4.add 3) H14 fun (x9 : Sl) =>
 IxA 6 x9 s1 fun a5 =>
 Ld (.int .i64) a5 H14 fun (x10 : Int) =>
 CallT Pg fQc4 [.int .i64 x10, .int .i64 60] (.one (.c .ptr)) H14 fun (r2 : Option Addr) H15 =>
 k r2 H15) (
 Lt (IntKind.wrap .i64 (s2 + 1)) fun t1 =>
 next2 t1 H14)) (
 Lt (IntKind.wrap .i64 (s1 + 1)) fun t2 =>
 next1 t2 H13)) 0 H12) (
 k none H2)) 0 H1
def h_verify_checker_sets : Hint := (.two .no (.two (.two .no (.one (.loop [(13, (.c (.int .i64)))] (.two .no (.two .no (.two (.one (.two .no (.two .no (.one (.loop [(28, (.c (.int .i64)))] .no))))) .no)))))) .no))
theorem cQc1 (c_ : Option Addr) {H : Heap} {k : Option Addr → Heap → Prop} (h : vQc1 c_ H k) : CallT Pg fQc7 [.pointer c_] (.one (.c .ptr)) H k :=
 call_of_E (h := h_verify_checker_sets) Pg_mixed Tryz.func43 (by kernel_rfl) (by kernel_rfl) (by kernel_rfl) (by kernel_rfl) (Eq.mpr (by kernel_rfl) h)
def vQc2 (c_ : Option Addr) (H : Heap) (k : Option Addr → Heap → Prop) : Prop :=
 NilCk c_ fun a1 =>
 Ld .sl (a1.add 3) H fun (x1 : Sl) =>
 LoopT (σ := Int) (fun next1 s1 H1 =>
 Br (decide (s1 < (x1.len : Int))) (
 IxA 6 x1 s1 fun a2 =>
 LdC [(.int .i64), .str, (.int .i64), (.int .i64), .sl, .ptr] a2 H1 fun (c1 : Int × ByteArray × Int × Int × Sl × Option Addr) =>
 Nw #[.int .i64 0, .string ByteArray.empty, .int .i64 0, .int .i64 0, .slice none 0 0, .pointer none] TQbg H1 fun b1 H2 =>
 St ((adr b1).add 0) (.int .i64 c1.1) H2 fun H3 =>
 St ((adr b1).add 1) (.string c1.2.1) H3 fun H4 =>
 St ((adr b1).add 2) (.int .i64 c1.2.2.1) H4 fun H5 =>
 St ((adr b1).add 3) (.int .i64 c1.2.2.2.1) H5 fun H6 =>
 St ((adr b1).add 4) (slV c1.2.2.2.2.1) H6 fun H7 =>
 St ((adr b1).add 5) (.pointer c1.2.2.2.2.2) H7 fun H8 =>
 Ld .sl (((adr b1).add 1).add 3) H8 fun (x2 : Sl) =>
 LoopT (σ := Int) (fun next2 s2 H9 =>
 Br (decide (s2 < (x2.len : Int))) (
 IxA 2 x2 s2 fun a3 =>
 LdC [(.int .i64), (.int .i64)] a3 H9 fun (c2 : Int × Int) =>
 Nw #[.int .i64 0, .int .i64 0] TQag H9 fun b2 H10 =>
 St ((adr b2).add 0) (.int .i64 c2.1) H10 fun H11 =>
 St ((adr b2).add 1) (.int .i64 c2.2) H11 fun H12 =>
 LdC [(.int .i64), .str, (.int .i64), (.int .i64), .sl, .ptr] (adr b1) H12 fun (c3 : Int × ByteArray × Int × Int × Sl × Option Addr) =>
 CallT Pg fQdk [.pointer c_, .agg #[.int .i64 c3.1, .string c3.2.1, .int .i64 c3.2.2.1, .int .i64 c3.2.2.2.1, slV c3.2.2.2.2.1, .pointer c3.2.2.2.2.2], .int .i64 s2] (.one (.c .bool)) H12 fun (r1 : Bool) H13 =>
 Br (!r1) (
 Ld (.int .i64) (adr b1) H13 fun (x3 : Int) =>
 Lt (IntKind.wrap .i64 (x3 + s2)) fun t1 =>
 CallT Pg fQc4 [.int .i64 t1, .int .i64 152] (.one (.c .ptr)) H13 fun (r2 : Option Addr) H14 =>
 k r2 H14) (
 Jn (σ := Bool) (fun kk1 =>
 LdC [(.int .i64), (.int .i64)] (adr b2) H13 fun (c4 : Int × Int) =>
 CallT Pg fQdl [.agg #[.int .i64 c4.1, .int .i64 c4.2]] (.one (.c .bool)) H13 fun (r3 : Bool) H16 =>
 Br r3 (
 Ld (.int .i64) ((adr b2).add 1) H16 fun (x4 : Int) =>
 Br (decide (x4 ≥ 1)) (
 Ld (.int .i64) ((adr b2).add 1) H16 fun (x5 : Int) =>
 Ld .sl (((adr b1).add 1).add 3) H16 fun (x6 : Sl) =>
 Br (decide (x5 < (x6.len : Int))) (
 LdC [.str, (.int .i64), (.int .i64), .sl] ((adr b1).add 1) H16 fun (c5 : ByteArray × Int × Int × Sl) =>
 Ld (.int .i64) ((adr b2).add 1) H16 fun (x7 : Int) =>
 Lt (IntKind.wrap .i64 (x7 - 1)) fun t2 =>
 CallT Pg fQdm [.agg #[.string c5.1, .int .i64 c5.2.1, .int .i64 c5.2.2.1, slV c5.2.2.2], .int .i64 t2] (.one (.c (.int .i64))) H16 fun (r4 : Int) H17 =>
 kk1 (r4 == 26) H17) (
 kk1 false H16)) (
 kk1 false H16)) (
 kk1 false H16)) fun j1 H15 =>
 Br j1 (
 Ld (.int .i64) (adr b1) H15 fun (x8 : Int) =>
 Lt (IntKind.wrap .i64 (x8 + s2)) fun t3 =>
 CallT Pg fQc4 [.int .i64 t3, .int .i64 150] (.one (.c .ptr)) H15 fun (r5 : Option Addr) H18 =>
 k r5 H18) (
 Lt (IntKind.wrap .i64 (s2 + 1)) fun t4 =>
 next2 t4 H15))) (
 Lt (IntKind.wrap .i64 (s1 + 1)) fun t5 =>
 next1 t5 H9)) 0 H8) (
 k none H1)) 0 H
def h_verify_checker_touches : Hint := (.two .no (.two (.two .no (.one (.loop [(12, (.c (.int .i64)))] (.two .no (.two .no (.two (.one (.two .no (.two .no (.one (.loop [(20, (.c (.int .i64)))] (.two .no (.two .no (.two (.one (.two .no (.two .no (.two (.join [(59, (.c .bool))] .no) .no)))) .no)))))))) .no)))))) .no))
theorem cQc2 (c_ : Option Addr) {H : Heap} {k : Option Addr → Heap → Prop} (h : vQc2 c_ H k) : CallT Pg fQc8 [.pointer c_] (.one (.c .ptr)) H k :=
 call_of_E (h := h_verify_checker_touches) Pg_mixed Tryz.func44 (by kernel_rfl) (by kernel_rfl) (by kernel_rfl) (by kernel_rfl) (Eq.mpr (by kernel_rfl) h)
def vQc3 (c_ : Option Addr) (H : Heap) (k : Option Addr → Heap → Prop) : Prop :=
 Nw #[.pointer c_] TQa4 H fun b1 H1 =>
 Nw #[.nilFunc] TQa9 H1 fun b2 H2 =>
 StV (adr b2) ((.func (.func 84) #[] #[.pointer (some (adr b1)), .pointer (some (adr b2))])) H2 fun H3 =>
 Ld .ptr (adr b1) H3 fun (x1 : Option Addr) =>
 NilCk x1 fun a1 =>
 Ld .sl (a1.add 1) H3 fun (x2 : Sl) =>
 LoopT (σ := Int) (fun next1 s1 H4 =>
 Br (decide (s1 < (x2.len : Int))) (
 Ld .raw (adr b2) H4 fun (x3 : Value) =>
 MkM H4 fun m1 H5 =>
 CallX Pg x3 [.int .i64 s1, .int .i64 s1, m1] (.one (.c .bool)) H5 fun (r1 : Bool) H6 =>
 Br r1 (
 Ld .ptr (adr b1) H6 fun (x4 : Option Addr) =>
 NilCk x4 fun a2 =>
 Ld .sl (a2.add 3) H6 fun (x5 : Sl) =>
 Ld .ptr (adr b1) H6 fun (x6 : Option Addr) =>
 NilCk x6 fun a3 =>
 Ld .sl a3 H6 fun (x7 : Sl) =>
 Lt (IntKind.wrap .i64 ((x7.len : Int) + s1)) fun t1 =>
 IxA 6 x5 t1 fun a4 =>
 Ld (.int .i64) a4 H6 fun (x8 : Int) =>
 CallT Pg fQc4 [.int .i64 x8, .int .i64 115] (.one (.c .ptr)) H6 fun (r2 : Option Addr) H7 =>
 Stab [(a3, slV x7), (adr b1, .pointer x6), (a2.add 3, slV x5), (adr b1, .pointer x4)] H7 <|
 k r2 H7) (
 Lt (IntKind.wrap .i64 (s1 + 1)) fun t2 =>
 next1 t2 H6)) (
 k none H4)) 0 H3
def h_verify_checker_calls : Hint := (.two .no (.two .no (.two .no (.two (.two .no (.one (.loop [(12, (.c (.int .i64)))] .no))) .no))))
theorem cQc3 (c_ : Option Addr) {H : Heap} {k : Option Addr → Heap → Prop} (h : vQc3 c_ H k) : CallT Pg fQc9 [.pointer c_] (.one (.c .ptr)) H k :=
 call_of_E (h := h_verify_checker_calls) Pg_mixed Tryz.func45 (by kernel_rfl) (by kernel_rfl) (by kernel_rfl) (by kernel_rfl) (Eq.mpr (by kernel_rfl) h)
def vQc4 (c_ : Option Addr) (H : Heap) (k : Option Addr → Heap → Prop) : Prop :=
 NilCk c_ fun a1 =>
 Ld .sl (a1.add 3) H fun (x1 : Sl) =>
 LoopT (σ := Sl × Int) (fun next1 s1 H1 =>
 Br (decide (s1.2 < (x1.len : Int))) (
 IxA 6 x1 s1.2 fun a2 =>
 LdC [(.int .i64), .str, (.int .i64), (.int .i64), .sl, .ptr] a2 H1 fun (c1 : Int × ByteArray × Int × Int × Sl × Option Addr) =>
 Nw #[.int .i64 0, .string ByteArray.empty, .int .i64 0, .int .i64 0, .slice none 0 0, .pointer none] TQbg H1 fun b1 H2 =>
 St ((adr b1).add 0) (.int .i64 c1.1) H2 fun H3 =>
 St ((adr b1).add 1) (.string c1.2.1) H3 fun H4 =>
 St ((adr b1).add 2) (.int .i64 c1.2.2.1) H4 fun H5 =>
 St ((adr b1).add 3) (.int .i64 c1.2.2.2.1) H5 fun H6 =>
 St ((adr b1).add 4) (slV c1.2.2.2.2.1) H6 fun H7 =>
 St ((adr b1).add 5) (.pointer c1.2.2.2.2.2) H7 fun H8 =>
 LdC [.str, (.int .i64), (.int .i64), .sl] ((adr b1).add 1) H8 fun (c2 : ByteArray × Int × Int × Sl) =>
 NilCk c_ fun a3 =>
 Ld .sl (a3.add 1) H8 fun (x2 : Sl) =>
 CallT Pg fQdo [.agg #[.string c2.1, .int .i64 c2.2.1, .int .i64 c2.2.2.1, slV c2.2.2.2], slV x2] (.tup [(.c .ptr), (.c .ptr)]) H8 fun (r1 : Option Addr × Option Addr) H9 =>
 Br (!r1.2.isNone) (
 Ld (.int .i64) (adr b1) H9 fun (x3 : Int) =>
 NilCk r1.2 fun a4 =>
 Ld (.int .i64) a4 H9 fun (x4 : Int) =>
 Lt (IntKind.wrap .i64 (x3 + x4)) fun t1 =>
 NilCk r1.2 fun a5 =>
 Ld (.int .i64) (a5.add 1) H9 fun (x5 : Int) =>
 CallT Pg fQc4 [.int .i64 t1, .int .i64 x5] (.one (.c .ptr)) H9 fun (r2 : Option Addr) H10 =>
 Stab [(a4, .int .i64 x4), (adr b1, .int .i64 x3)] H10 <|
 k r2 H10) (
 Nw #[.pointer r1.1] TQa5 H9 fun b2 H11 =>
 App TQa5 1 8 #[.pointer none] s1.1 ⟨some (adr b2), 1, 1⟩ H11 fun l1 H12 =>
 Lt (IntKind.wrap .i64 (s1.2 + 1)) fun t2 =>
 next1 (l1, t2) H12)) (
 LoopT (σ := Int) (fun next2 s2 H13 =>
 Br (decide (s2 < (s1.1.len : Int))) (
 IxA 1 s1.1 s2 fun a6 =>
 Ld .ptr a6 H13 fun (x6 : Option Addr) =>
 NilCk x6 fun a7 =>
 Ld .sl (a7.add 3) H13 fun (x7 : Sl) =>
 LoopT (σ := Int) (fun next3 s3 H14 =>
 Br (decide (s3 < (x7.len : Int))) (
 Jn (σ := Bool) (fun kk1 =>
 CallT Pg fQdp [.pointer x6, .int .i64 s3] (.one (.c .bool)) H14 fun (r3 : Bool) H16 =>
 Br r3 (
 CallT Pg fQdq [.pointer x6, .int .i64 s3] (.one (.c .bool)) H16 fun (r4 : Bool) H17 =>
 kk1 r4 H17) (
 kk1 false H16)) fun j1 H15 =>
 Br j1 (
 NilCk c_ fun a8 =>
 Ld .sl (a8.add 3) H15 fun (x8 : Sl) =>
 IxA 6 x8 s2 fun a9 =>
 Ld (.int .i64) a9 H15 fun (x9 : Int) =>
 Lt (IntKind.wrap .i64 (x9 + s3)) fun t3 =>
 CallT Pg fQc4 [.int .i64 t3, .int .i64 153] (.one (.c .ptr)) H15 fun (r5 : Option Addr) H18 =>
 k r5 H18) (
 Lt (IntKind.wrap .i64 (s3 + 1)) fun t4 =>
 next3 t4 H15)) (
 Lt (IntKind.wrap .i64 (s2 + 1)) fun t5 =>
 next2 t5 H14)) 0 H13) (
 k none H13)) 0 H1)) (⟨none, 0, 0⟩, 0) H
def h_verify_checker_ways : Hint := (.two .no (.two .no (.two (.two .no (.one (.loop [(3, (.c .sl)), (16, (.c (.int .i64)))] .no))) (.two (.two .no (.one (.loop [(52, (.c (.int .i64)))] (.two .no (.two .no (.two (.one (.two .no (.two .no (.one (.loop [(63, (.c (.int .i64)))] (.two .no (.two .no (.two (.one (.two .no (.two (.join [(73, (.c .bool))] .no) .no))) .no)))))))) .no)))))) .no))))
theorem cQc4 (c_ : Option Addr) {H : Heap} {k : Option Addr → Heap → Prop} (h : vQc4 c_ H k) : CallT Pg fQda [.pointer c_] (.one (.c .ptr)) H k :=
 call_of_E (h := h_verify_checker_ways) Pg_mixed Tryz.func46 (by kernel_rfl) (by kernel_rfl) (by kernel_rfl) (by kernel_rfl) (Eq.mpr (by kernel_rfl) h)
def vQc5 (kinds_ : Sl) (H : Heap) (k : Bool → Heap → Prop) : Prop :=
 LoopT (σ := Sl × Int) (fun next1 s1 H1 =>
 Br (decide (s1.2 < (kinds_.len : Int))) (
 IxA 2 kinds_ s1.2 fun a1 =>
 LdC [.str, .sl] a1 H1 fun (c1 : ByteArray × Sl) =>
 Nw #[.string ByteArray.empty, .slice none 0 0] TQa7 H1 fun b1 H2 =>
 St ((adr b1).add 0) (.string c1.1) H2 fun H3 =>
 St ((adr b1).add 1) (slV c1.2) H3 fun H4 =>
 Jn (σ := Bool) (fun kk1 =>
 Ld .sl ((adr b1).add 1) H4 fun (x1 : Sl) =>
 Br (decide ((x1.len : Int) > 4)) (
 kk1 true H4) (
 Ld .sl ((adr b1).add 1) H4 fun (x2 : Sl) =>
 CallT Pg fQdr [slV x2] (.one (.c .bool)) H4 fun (r1 : Bool) H6 =>
 kk1 (!r1) H6)) fun j1 H5 =>
 Br j1 (
 k false H5) (
 Ld .str (adr b1) H5 fun (x3 : ByteArray) =>
 Nw #[.string x3] TQbc H5 fun b2 H7 =>
 App TQbc 1 16 #[.string ByteArray.empty] s1.1 ⟨some (adr b2), 1, 1⟩ H7 fun l1 H8 =>
 Lt (IntKind.wrap .i64 (s1.2 + 1)) fun t1 =>
 next1 (l1, t1) H8)) (
 Jn (σ := Bool) (fun kk2 =>
 Br (decide ((kinds_.len : Int) ≥ 1)) (
 Br (decide ((kinds_.len : Int) ≤ 12)) (
 CallT Pg fQdr [slV s1.1] (.one (.c .bool)) H1 fun (r2 : Bool) H10 =>
 kk2 r2 H10) (
 kk2 false H1)) (
 kk2 false H1)) fun j2 H9 =>
 k j2 H9)) (⟨none, 0, 0⟩, 0) H
def h_world_may : Hint := (.two .no (.two .no (.two (.two .no (.one (.loop [(3, (.c .sl)), (8, (.c (.int .i64)))] (.two .no (.two .no (.two (.one (.two .no (.two (.two (.join [(21, (.c .bool))] .no) .no) .no))) .no)))))) (.two (.join [(2, (.c .bool))] .no) .no))))
theorem cQc5 (kinds_ : Sl) {H : Heap} {k : Bool → Heap → Prop} (h : vQc5 kinds_ H k) : CallT Pg fQdb [slV kinds_] (.one (.c .bool)) H k :=
 call_of_E (h := h_world_may) Pg_mixed Tryz.func72 (by kernel_rfl) (by kernel_rfl) (by kernel_rfl) (by kernel_rfl) (Eq.mpr (by kernel_rfl) h)
def vQc6 (most_ : Int) (H : Heap) (k : Option Addr × Int → Heap → Prop) : Prop :=
 Jn (σ := Bool) (fun kk1 =>
 Br (decide (most_ < 1)) (
 kk1 true H) (
 kk1 (decide (most_ > 200)) H)) fun j1 H1 =>
 Br j1 (
 k (none, 1) H1) (
 Nw #[.int .i64 most_, .slice none 0 0, .slice none 0 0, .slice none 0 0] TQbb H1 fun b1 H2 =>
 k ((some (adr b1), 0)) H2)
def h_ids_New : Hint := (.two .no (.two (.two (.join [(9, (.c .bool))] .no) .no) .no))
theorem cQc6 (most_ : Int) {H : Heap} {k : Option Addr × Int → Heap → Prop} (h : vQc6 most_ H k) : CallT Pg fQdc [.int .i64 most_] (.tup [(.c .ptr), (.c (.int .i64))]) H k :=
 call_of_E (h := h_ids_New) Pg_mixed Tryz.func73 (by kernel_rfl) (by kernel_rfl) (by kernel_rfl) (by kernel_rfl) (Eq.mpr (by kernel_rfl) h)
def vQc7 (kinds_ : Sl) (H : Heap) (k : Sl → Heap → Prop) : Prop :=
 CallT Pg fQds [slV kinds_] (.one (.c .sl)) H fun (r1 : Sl) H1 =>
 LoopT (σ := Int) (fun next1 s1 H2 =>
 Br (decide (s1 < (r1.len : Int))) (
 IxA 2 r1 s1 fun a1 =>
 Ld .sl (a1.add 1) H2 fun (x1 : Sl) =>
 CallT Pg fQdt [slV x1] (.one (.c .sl)) H2 fun (r2 : Sl) H3 =>
 IxA 2 r1 s1 fun a2 =>
 St (a2.add 1) (slV r2) H3 fun H4 =>
 Lt (IntKind.wrap .i64 (s1 + 1)) fun t1 =>
 next1 t1 H4) (
 k r1 H2)) 0 H1
def h_world_copied : Hint := (.two .no (.two .no (.two (.two .no (.one (.loop [(9, (.c (.int .i64)))] .no))) .no)))
theorem cQc7 (kinds_ : Sl) {H : Heap} {k : Sl → Heap → Prop} (h : vQc7 kinds_ H k) : CallT Pg fQdd [slV kinds_] (.one (.c .sl)) H k :=
 call_of_E (h := h_world_copied) Pg_mixed Tryz.func74 (by kernel_rfl) (by kernel_rfl) (by kernel_rfl) (by kernel_rfl) (Eq.mpr (by kernel_rfl) h)
def vQc8 (p_ : Sl × Sl) (H : Heap) (k : Bool → Heap → Prop) : Prop :=
 Nw #[slV p_.1, slV p_.2] TQaj H fun b1 H1 =>
 Nw #[.int .i64 0] TQap H1 fun b2 H2 =>
 St (adr b2) (.int .i64 2000) H2 fun H3 =>
 Jn (σ := Bool) (fun kk1 =>
 Ld .sl (adr b1) H3 fun (x1 : Sl) =>
 Br (decide ((x1.len : Int) > 16)) (
 kk1 true H3) (
 Ld .sl ((adr b1).add 1) H3 fun (x2 : Sl) =>
 kk1 (decide ((x2.len : Int) > 16)) H3)) fun j1 H4 =>
 Br j1 (
 k false H4) (
 Ld .sl (adr b1) H4 fun (x3 : Sl) =>
 LoopT (σ := Int) (fun next1 s1 H5 =>
 Br (decide (s1 < (x3.len : Int))) (
 IxA 8 x3 s1 fun a1 =>
 LdC [.sl, .sl, .sl, .sl, .str, (.int .i64), (.int .i64), .sl] a1 H5 fun (c1 : Sl × Sl × Sl × Sl × ByteArray × Int × Int × Sl) =>
 Nw #[.slice none 0 0, .slice none 0 0, .slice none 0 0, .slice none 0 0, .string ByteArray.empty, .int .i64 0, .int .i64 0, .slice none 0 0] TQaw H5 fun b3 H6 =>
 St ((adr b3).add 0) (slV c1.1) H6 fun H7 =>
 St ((adr b3).add 1) (slV c1.2.1) H7 fun H8 =>
 St ((adr b3).add 2) (slV c1.2.2.1) H8 fun H9 =>
 St ((adr b3).add 3) (slV c1.2.2.2.1) H9 fun H10 =>
 St ((adr b3).add 4) (.string c1.2.2.2.2.1) H10 fun H11 =>
 St ((adr b3).add 5) (.int .i64 c1.2.2.2.2.2.1) H11 fun H12 =>
 St ((adr b3).add 6) (.int .i64 c1.2.2.2.2.2.2.1) H12 fun H13 =>
 St ((adr b3).add 7) (slV c1.2.2.2.2.2.2.2) H13 fun H14 =>
 CallT Pg fQdg [.pointer (some (adr b3))] (.one (.agg [.ptr, .ptr, .ptr, .ptr])) H14 fun (r1 : Option Addr × Option Addr × Option Addr × Option Addr) H15 =>
 LoopT (σ := Int) (fun next2 s2 H16 =>
 Br (decide (s2 < 4)) (
 ArI .ptr 4 #[.pointer r1.1, .pointer r1.2.1, .pointer r1.2.2.1, .pointer r1.2.2.2] s2 fun (b4 : Option Addr) =>
 NilCk b4 fun a2 =>
 Ld .sl a2 H16 fun (x4 : Sl) =>
 CallT Pg fQdu [slV x4] (.one (.c .bool)) H16 fun (r2 : Bool) H17 =>
 Br (!r2) (
 k false H17) (
 Lt (IntKind.wrap .i64 (s2 + 1)) fun t1 =>
 next2 t1 H17)) (
 LdC [.str, (.int .i64), (.int .i64), .sl] ((adr b3).add 4) H16 fun (c2 : ByteArray × Int × Int × Sl) =>
 CallT Pg fQdv [.agg #[.string c2.1, .int .i64 c2.2.1, .int .i64 c2.2.2.1, slV c2.2.2.2], .pointer (some (adr b2))] (.one (.c .bool)) H16 fun (r3 : Bool) H18 =>
 Br (!r3) (
 k false H18) (
 Lt (IntKind.wrap .i64 (s1 + 1)) fun t2 =>
 next1 t2 H18))) 0 H15) (
 Ld .sl ((adr b1).add 1) H5 fun (x5 : Sl) =>
 LoopT (σ := Int) (fun next3 s3 H19 =>
 Br (decide (s3 < (x5.len : Int))) (
 IxA 4 x5 s3 fun a3 =>
 LdC [.str, (.int .i64), (.int .i64), .sl] a3 H19 fun (c3 : ByteArray × Int × Int × Sl) =>
 Nw #[.string ByteArray.empty, .int .i64 0, .int .i64 0, .slice none 0 0] TQak H19 fun b5 H20 =>
 St ((adr b5).add 0) (.string c3.1) H20 fun H21 =>
 St ((adr b5).add 1) (.int .i64 c3.2.1) H21 fun H22 =>
 St ((adr b5).add 2) (.int .i64 c3.2.2.1) H22 fun H23 =>
 St ((adr b5).add 3) (slV c3.2.2.2) H23 fun H24 =>
 LdC [.str, (.int .i64), (.int .i64), .sl] (adr b5) H24 fun (c4 : ByteArray × Int × Int × Sl) =>
 CallT Pg fQdv [.agg #[.string c4.1, .int .i64 c4.2.1, .int .i64 c4.2.2.1, slV c4.2.2.2], .pointer (some (adr b2))] (.one (.c .bool)) H24 fun (r4 : Bool) H25 =>
 Br (!r4) (
 k false H25) (
 Lt (IntKind.wrap .i64 (s3 + 1)) fun t3 =>
 next3 t3 H25)) (
 k true H19)) 0 H5)) 0 H4)
def h_code_may : Hint := (.two .no (.two .no (.two (.two (.join [(19, (.c .bool))] .no) .no) (.two (.two .no (.one (.loop [(23, (.c (.int .i64)))] (.two .no (.two .no (.two (.one (.two .no (.two (.two .no (.one (.loop [(28, (.c (.int .i64)))] .no))) .no))) .no)))))) (.two (.two .no (.one (.loop [(45, (.c (.int .i64)))] .no))) .no)))))
theorem cQc8 (p_ : Sl × Sl) {H : Heap} {k : Bool → Heap → Prop} (h : vQc8 p_ H k) : CallT Pg fQde [.agg #[slV p_.1, slV p_.2]] (.one (.c .bool)) H k :=
 call_of_E (h := h_code_may) Pg_mixed Tryz.func75 (by kernel_rfl) (by kernel_rfl) (by kernel_rfl) (by kernel_rfl) (Eq.mpr (by kernel_rfl) h)
def vQc9 (b_ : Sl) (n_ : Int) (H : Heap) (k : Sl → Heap → Prop) : Prop :=
 CallT Pg fQdw [slV b_, .int .u64 (IntKind.wrap .u64 n_)] (.one (.c .sl)) H fun (r1 : Sl) H1 =>
 k r1 H1
def h_code_put : Hint := .no
theorem cQc9 (b_ : Sl) (n_ : Int) {H : Heap} {k : Sl → Heap → Prop} (h : vQc9 b_ n_ H k) : CallT Pg fQdf [slV b_, .int .i64 n_] (.one (.c .sl)) H k :=
 call_of_E (h := h_code_put) Pg_mixed Tryz.func76 (by kernel_rfl) (by kernel_rfl) (by kernel_rfl) (by kernel_rfl) (Eq.mpr (by kernel_rfl) h)
def vQda (s_ : Option Addr) (H : Heap) (k : Option Addr × Option Addr × Option Addr × Option Addr → Heap → Prop) : Prop :=
 Nw #[.pointer none, .pointer none, .pointer none, .pointer none] TQa1 H fun b1 H1 =>
 NilCk s_ fun a1 =>
 NilCk s_ fun a2 =>
 NilCk s_ fun a3 =>
 NilCk s_ fun a4 =>
 St ((adr b1).add 0) (.pointer (some a1)) H1 fun H2 =>
 St ((adr b1).add 1) (.pointer (some (a2.add 1))) H2 fun H3 =>
 St ((adr b1).add 2) (.pointer (some (a3.add 2))) H3 fun H4 =>
 St ((adr b1).add 3) (.pointer (some (a4.add 3))) H4 fun H5 =>
 LdC [.ptr, .ptr, .ptr, .ptr] (adr b1) H5 fun (c1 : Option Addr × Option Addr × Option Addr × Option Addr) =>
 k (c1.1, c1.2.1, c1.2.2.1, c1.2.2.2) H5
def h_code_sets : Hint := .no
theorem cQda (s_ : Option Addr) {H : Heap} {k : Option Addr × Option Addr × Option Addr × Option Addr → Heap → Prop} (h : vQda s_ H k) : CallT Pg fQdg [.pointer s_] (.one (.agg [.ptr, .ptr, .ptr, .ptr])) H k :=
 call_of_E (h := h_code_sets) Pg_mixed Tryz.func77 (by kernel_rfl) (by kernel_rfl) (by kernel_rfl) (by kernel_rfl) (Eq.mpr (by kernel_rfl) h)
def vQdb (b_ : Sl) (r_ : ByteArray × Int × Int × Sl) (H : Heap) (k : Sl → Heap → Prop) : Prop :=
 Nw #[.string r_.1, .int .i64 r_.2.1, .int .i64 r_.2.2.1, slV r_.2.2.2] TQak H fun b1 H1 =>
 Ld .str (adr b1) H1 fun (x1 : ByteArray) =>
 Ld (.int .i64) ((adr b1).add 1) H1 fun (x2 : Int) =>
 Ld (.int .i64) ((adr b1).add 2) H1 fun (x3 : Int) =>
 Ld .sl ((adr b1).add 3) H1 fun (x4 : Sl) =>
 CallT Pg fQdx [slV b_, .string x1] (.one (.c .sl)) H1 fun (r1 : Sl) H2 =>
 Stab [((adr b1).add 3, slV x4), ((adr b1).add 2, .int .i64 x3), ((adr b1).add 1, .int .i64 x2)] H2 <|
 CallT Pg fQdf [slV r1, .int .i64 x2] (.one (.c .sl)) H2 fun (r2 : Sl) H3 =>
 Stab [((adr b1).add 3, slV x4), ((adr b1).add 2, .int .i64 x3), (adr b1, .string x1)] H3 <|
 CallT Pg fQdf [slV r2, .int .i64 x3] (.one (.c .sl)) H3 fun (r3 : Sl) H4 =>
 Stab [((adr b1).add 3, slV x4), ((adr b1).add 1, .int .i64 x2), (adr b1, .string x1)] H4 <|
 CallT Pg fQdf [slV r3, .int .i64 (x4.len : Int)] (.one (.c .sl)) H4 fun (r4 : Sl) H5 =>
 Stab [((adr b1).add 3, slV x4), ((adr b1).add 2, .int .i64 x3), ((adr b1).add 1, .int .i64 x2), (adr b1, .string x1)] H5 <|
 Ld .sl ((adr b1).add 3) H5 fun (x5 : Sl) =>
 LoopT (σ := Sl × Int) (fun next1 s1 H6 =>
 Br (decide (s1.2 < (x5.len : Int))) (
 Jn (σ := Sl) (fun kk1 =>
 IxA 2 x5 s1.2 fun a1 =>
 LdC [(.int .i64), (.int .i64)] a1 H6 fun (c1 : Int × Int) =>
 Nw #[.int .i64 0, .int .i64 0] TQag H6 fun b2 H8 =>
 St ((adr b2).add 0) (.int .i64 c1.1) H8 fun H9 =>
 St ((adr b2).add 1) (.int .i64 c1.2) H9 fun H10 =>
 Ld (.int .i64) (adr b2) H10 fun (x6 : Int) =>
 CallT Pg fQdf [slV s1.1, .int .i64 x6] (.one (.c .sl)) H10 fun (r5 : Sl) H11 =>
 Ld (.int .i64) (adr b2) H11 fun (x7 : Int) =>
 CallT Pg fQay [.int .i64 x7] (.one (.agg [.str, .bool, (.int .i64), (.int .i64), (.int .i64)])) H11 fun (r6 : ByteArray × Bool × Int × Int × Int) H12 =>
 Jn (σ := Sl) (fun kk2 =>
 Br r6.2.1 (
 Ld (.int .i64) ((adr b2).add 1) H12 fun (x8 : Int) =>
 CallT Pg fQdy [slV r5, .int .i64 x8] (.one (.c .sl)) H12 fun (r7 : Sl) H14 =>
 kk2 r7 H14) (
 kk2 r5 H12)) fun j2 H13 =>
 kk1 j2 H13) fun j1 H7 =>
 Lt (IntKind.wrap .i64 (s1.2 + 1)) fun t1 =>
 next1 (j1, t1) H7) (
 k s1.1 H6)) (r4, 0) H5
def h_code_putRoutine : Hint := (.two .no (.two .no (.two (.two .no (.one (.loop [(0, (.c .sl)), (24, (.c (.int .i64)))] (.two .no (.two .no (.two (.join [(0, (.c .sl))] (.one (.two .no (.two .no (.two .no (.join [(0, (.c .sl))] .no)))))) .no)))))) .no)))
theorem cQdb (b_ : Sl) (r_ : ByteArray × Int × Int × Sl) {H : Heap} {k : Sl → Heap → Prop} (h : vQdb b_ r_ H k) : CallT Pg fQdh [slV b_, .agg #[.string r_.1, .int .i64 r_.2.1, .int .i64 r_.2.2.1, slV r_.2.2.2]] (.one (.c .sl)) H k :=
 call_of_E (h := h_code_putRoutine) Pg_mixed Tryz.func78 (by kernel_rfl) (by kernel_rfl) (by kernel_rfl) (by kernel_rfl) (Eq.mpr (by kernel_rfl) h)
def vQdc (s_ : Sl) (f_ : Value) (H : Heap) (k : Bool → Heap → Prop) : Prop :=
 CallT Pg fQdz [slV s_, f_] (.one (.c (.int .i64))) H fun (r1 : Int) H1 =>
 k (decide (r1 ≥ 0)) H1
def h_slices_ContainsFunc_Sl_int_int : Hint := .no
theorem cQdc (s_ : Sl) (f_ : Value) {H : Heap} {k : Bool → Heap → Prop} (h : vQdc s_ f_ H k) : CallT Pg fQdi [slV s_, f_] (.one (.c .bool)) H k :=
 call_of_E (h := h_slices_ContainsFunc_Sl_int_int) Pg_mixed Tryz.func79 (by kernel_rfl) (by kernel_rfl) (by kernel_rfl) (by kernel_rfl) (Eq.mpr (by kernel_rfl) h)
def vQdd (k_ : Int) (free0_ : Addr) (H : Heap) (k : Bool → Heap → Prop) : Prop :=
 Ld .ptr free0_ H fun (x1 : Option Addr) =>
 NilCk x1 fun a1 =>
 Ld .sl (a1.add 2) H fun (x2 : Sl) =>
 k (decide (k_ > (x2.len : Int))) H
def h_verify_checker_sets_1 : Hint := .no
theorem cQdd (k_ : Int) (free0_ : Addr) {H : Heap} {k : Bool → Heap → Prop} (h : vQdd k_ free0_ H k) : CallT Pg fQdj [.int .i64 k_, .pointer (some free0_)] (.one (.c .bool)) H k :=
 call_of_E (h := h_verify_checker_sets_1) Pg_mixed Tryz.func80 (by kernel_rfl) (by kernel_rfl) (by kernel_rfl) (by kernel_rfl) (Eq.mpr (by kernel_rfl) h)
def vQde (c_ : Option Addr) (x_ : Int × ByteArray × Int × Int × Sl × Option Addr) (at_ : Int) (H : Heap) (k : Bool → Heap → Prop) : Prop :=
 Nw #[.int .i64 x_.1, .string x_.2.1, .int .i64 x_.2.2.1, .int .i64 x_.2.2.2.1, slV x_.2.2.2.2.1, .pointer x_.2.2.2.2.2] TQbg H fun b1 H1 =>
 Ld .sl (((adr b1).add 1).add 3) H1 fun (x1 : Sl) =>
 IxA 2 x1 at_ fun a1 =>
 LdC [(.int .i64), (.int .i64)] a1 H1 fun (c1 : Int × Int) =>
 Nw #[.int .i64 0, .int .i64 0] TQag H1 fun b2 H2 =>
 St ((adr b2).add 0) (.int .i64 c1.1) H2 fun H3 =>
 St ((adr b2).add 1) (.int .i64 c1.2) H3 fun H4 =>
 Jn (σ := Bool) (fun kk1 =>
 Ld .ptr ((adr b1).add 5) H4 fun (x2 : Option Addr) =>
 Br x2.isNone (
 Ld (.int .i64) (adr b2) H4 fun (x3 : Int) =>
 CallT Pg fQd0 [.int .i64 x3] (.one (.c .bool)) H4 fun (r1 : Bool) H6 =>
 kk1 r1 H6) (
 kk1 false H4)) fun j1 H5 =>
 Br j1 (
 k false H5) (
 Ld (.int .i64) (adr b2) H5 fun (x4 : Int) =>
 Jn (σ := Bool) (fun kk2 =>
 Br (x4 == 2) (
 kk2 true H5) (
 kk2 (x4 == 3) H5)) fun j2 H7 =>
 Br j2 (
 Jn (σ := Bool) (fun kk3 =>
 Ld (.int .i64) ((adr b2).add 1) H7 fun (x5 : Int) =>
 Br (decide (x5 ≥ 0)) (
 Ld (.int .i64) ((adr b2).add 1) H7 fun (x6 : Int) =>
 Ld (.int .i64) (((adr b1).add 1).add 2) H7 fun (x7 : Int) =>
 kk3 (decide (x6 < x7)) H7) (
 kk3 false H7)) fun j3 H8 =>
 k j3 H8) (
 Br (x4 == 4) (
 Ld (.int .i64) ((adr b2).add 1) H7 fun (x8 : Int) =>
 Ld .ptr ((adr b1).add 5) H7 fun (x9 : Option Addr) =>
 NilCk x9 fun a2 =>
 Ld .sl (a2.add 2) H7 fun (x10 : Sl) =>
 Ld .ptr ((adr b1).add 5) H7 fun (x11 : Option Addr) =>
 NilCk x11 fun a3 =>
 Ld .sl (a3.add 3) H7 fun (x12 : Sl) =>
 Nw #[slV x10, slV x12] TQab H7 fun b3 H9 =>
 Stab [((adr b1).add 5, .pointer x11), ((adr b1).add 5, .pointer x9), ((adr b2).add 1, .int .i64 x8)] H9 <|
 CallT Pg fQd1 [.pointer c_, .int .i64 x8, .slice (some (adr b3)) 2 2] (.one (.c .bool)) H9 fun (r2 : Bool) H10 =>
 Stab [(a3.add 3, slV x12), ((adr b1).add 5, .pointer x11), (a2.add 2, slV x10), ((adr b1).add 5, .pointer x9)] H10 <|
 k r2 H10) (
 Br (x4 == 5) (
 Ld (.int .i64) ((adr b2).add 1) H7 fun (x13 : Int) =>
 Ld .ptr ((adr b1).add 5) H7 fun (x14 : Option Addr) =>
 NilCk x14 fun a4 =>
 Ld .sl (a4.add 3) H7 fun (x15 : Sl) =>
 Nw #[slV x15] TQab H7 fun b4 H11 =>
 Stab [((adr b1).add 5, .pointer x14), ((adr b2).add 1, .int .i64 x13)] H11 <|
 CallT Pg fQd1 [.pointer c_, .int .i64 x13, .slice (some (adr b4)) 1 1] (.one (.c .bool)) H11 fun (r3 : Bool) H12 =>
 Stab [(a4.add 3, slV x15), ((adr b1).add 5, .pointer x14)] H12 <|
 k r3 H12) (
 Br (x4 == 21) (
 Jn (σ := Bool) (fun kk4 =>
 Ld (.int .i64) ((adr b2).add 1) H7 fun (x16 : Int) =>
 Br (decide (x16 ≥ 0)) (
 Ld (.int .i64) ((adr b2).add 1) H7 fun (x17 : Int) =>
 NilCk c_ fun a5 =>
 Ld .sl (a5.add 1) H7 fun (x18 : Sl) =>
 kk4 (decide (x17 < (x18.len : Int))) H7) (
 kk4 false H7)) fun j4 H13 =>
 k j4 H13) (
 Br (x4 == 22) (
 Ld .ptr ((adr b1).add 5) H7 fun (x19 : Option Addr) =>
 k x19.isNone H7) (
 Br (x4 == 26) (
 Jn (σ := Bool) (fun kk5 =>
 Ld (.int .i64) ((adr b2).add 1) H7 fun (x20 : Int) =>
 CallT Pg fQd2 [.pointer c_, .int .i64 x20] (.one (.c .bool)) H7 fun (r4 : Bool) H15 =>
 Br r4 (
 LdC [.str, (.int .i64), (.int .i64), .sl] ((adr b1).add 1) H15 fun (c2 : ByteArray × Int × Int × Sl) =>
 CallT Pg fQd3 [.agg #[.string c2.1, .int .i64 c2.2.1, .int .i64 c2.2.2.1, slV c2.2.2.2], .int .i64 at_] (.one (.c .bool)) H15 fun (r5 : Bool) H16 =>
 kk5 r5 H16) (
 kk5 false H15)) fun j5 H14 =>
 k j5 H14) (
 Br (x4 == 28) (
 Ld (.int .i64) ((adr b2).add 1) H7 fun (x21 : Int) =>
 CallT Pg fQd2 [.pointer c_, .int .i64 x21] (.one (.c .bool)) H7 fun (r6 : Bool) H17 =>
 k r6 H17) (
 Jn (σ := Bool) (fun kk6 =>
 Br (x4 == 29) (
 kk6 true H7) (
 kk6 (x4 == 35) H7)) fun j6 H18 =>
 Br j6 (
 Ld (.int .i64) ((adr b2).add 1) H18 fun (x22 : Int) =>
 CallT Pg fQd4 [.pointer c_, .int .i64 x22] (.one (.c (.int .i64))) H18 fun (r7 : Int) H19 =>
 k (decide (r7 ≥ 0)) H19) (
 k true H18)))))))))
def h_verify_checker_access : Hint := (.two .no (.two .no (.two (.two (.join [(21, (.c .bool))] .no) .no) (.two (.two .no (.one (.two (.two .no (.join [(24, (.c .bool))] .no)) (.two (.two (.join [(6, (.c .bool))] .no) .no) (.two .no (.two .no (.two .no (.two .no (.two .no (.two (.two (.join [(6, (.c .bool))] .no) .no) (.two .no (.two .no (.two .no (.two (.two (.join [(6, (.c .bool))] .no) .no) (.two .no (.two .no (.two (.two .no (.join [(106, (.c .bool))] .no)) .no))))))))))))))))) .no))))
theorem cQde (c_ : Option Addr) (x_ : Int × ByteArray × Int × Int × Sl × Option Addr) (at_ : Int) {H : Heap} {k : Bool → Heap → Prop} (h : vQde c_ x_ at_ H k) : CallT Pg fQdk [.pointer c_, .agg #[.int .i64 x_.1, .string x_.2.1, .int .i64 x_.2.2.1, .int .i64 x_.2.2.2.1, slV x_.2.2.2.2.1, .pointer x_.2.2.2.2.2], .int .i64 at_] (.one (.c .bool)) H k :=
 call_of_E (h := h_verify_checker_access) Pg_mixed Tryz.func81 (by kernel_rfl) (by kernel_rfl) (by kernel_rfl) (by kernel_rfl) (Eq.mpr (by kernel_rfl) h)
def vQdf (i_ : Int × Int) (H : Heap) (k : Bool → Heap → Prop) : Prop :=
 Nw #[.int .i64 i_.1, .int .i64 i_.2] TQag H fun b1 H1 =>
 Jn (σ := Bool) (fun kk1 =>
 Ld (.int .i64) (adr b1) H1 fun (x1 : Int) =>
 Br (x1 == 19) (
 kk1 true H1) (
 Ld (.int .i64) (adr b1) H1 fun (x2 : Int) =>
 kk1 (x2 == 20) H1)) fun j1 H2 =>
 k j1 H2
def h_verify_jumps : Hint := (.two .no (.two (.join [(2, (.c .bool))] .no) .no))
theorem cQdf (i_ : Int × Int) {H : Heap} {k : Bool → Heap → Prop} (h : vQdf i_ H k) : CallT Pg fQdl [.agg #[.int .i64 i_.1, .int .i64 i_.2]] (.one (.c .bool)) H k :=
 call_of_E (h := h_verify_jumps) Pg_mixed Tryz.func82 (by kernel_rfl) (by kernel_rfl) (by kernel_rfl) (by kernel_rfl) (Eq.mpr (by kernel_rfl) h)
def vQdg (r_ : ByteArray × Int × Int × Sl) (at_ : Int) (H : Heap) (k : Int → Heap → Prop) : Prop :=
 Nw #[.string r_.1, .int .i64 r_.2.1, .int .i64 r_.2.2.1, slV r_.2.2.2] TQak H fun b1 H1 =>
 Jn (σ := Bool) (fun kk1 =>
 Br (decide (at_ < 0)) (
 kk1 true H1) (
 Ld .sl ((adr b1).add 3) H1 fun (x1 : Sl) =>
 kk1 (decide (at_ ≥ (x1.len : Int))) H1)) fun j1 H2 =>
 Br j1 (
 k 0 H2) (
 Ld .sl ((adr b1).add 3) H2 fun (x2 : Sl) =>
 IxA 2 x2 at_ fun a1 =>
 Ld (.int .i64) a1 H2 fun (x3 : Int) =>
 k x3 H2)
def h_verify_op : Hint := (.two .no (.two (.two (.join [(13, (.c .bool))] .no) .no) .no))
theorem cQdg (r_ : ByteArray × Int × Int × Sl) (at_ : Int) {H : Heap} {k : Int → Heap → Prop} (h : vQdg r_ at_ H k) : CallT Pg fQdm [.agg #[.string r_.1, .int .i64 r_.2.1, .int .i64 r_.2.2.1, slV r_.2.2.2], .int .i64 at_] (.one (.c (.int .i64))) H k :=
 call_of_E (h := h_verify_op) Pg_mixed Tryz.func83 (by kernel_rfl) (by kernel_rfl) (by kernel_rfl) (by kernel_rfl) (Eq.mpr (by kernel_rfl) h)
def vQdh (from_ : Int) (to_ : Int) (seen_ : Value) (free0_ : Addr) (free1_ : Addr) (H : Heap) (k : Bool → Heap → Prop) : Prop :=
 Ld .ptr free0_ H fun (x1 : Option Addr) =>
 NilCk x1 fun a1 =>
 Ld .sl (a1.add 1) H fun (x2 : Sl) =>
 IxA 4 x2 from_ fun a2 =>
 Ld .sl (a2.add 3) H fun (x3 : Sl) =>
 LoopT (σ := Int) (fun next1 s1 H1 =>
 Br (decide (s1 < (x3.len : Int))) (
 Jn (σ := Unit) (fun kk1 =>
 IxA 2 x3 s1 fun a3 =>
 LdC [(.int .i64), (.int .i64)] a3 H1 fun (c1 : Int × Int) =>
 Nw #[.int .i64 0, .int .i64 0] TQag H1 fun b1 H3 =>
 St ((adr b1).add 0) (.int .i64 c1.1) H3 fun H4 =>
 St ((adr b1).add 1) (.int .i64 c1.2) H4 fun H5 =>
 Jn (σ := Bool) (fun kk2 =>
 Ld (.int .i64) (adr b1) H5 fun (x4 : Int) =>
 Br (x4 != 21) (
 kk2 true H5) (
 Ld (.int .i64) ((adr b1).add 1) H5 fun (x5 : Int) =>
 MpL (.int .i64) (.c .bool) false seen_ (.int .i64 x5) H5 fun (x6 : Bool) e1 =>
 kk2 x6 H5)) fun j2 H6 =>
 Br j2 (
 kk1 () H6) (
 Ld (.int .i64) ((adr b1).add 1) H6 fun (x7 : Int) =>
 MpU (.int .i64) seen_ (.int .i64 x7) (.bool true) H6 fun H7 =>
 Jn (σ := Bool) (fun kk3 =>
 Ld (.int .i64) ((adr b1).add 1) H7 fun (x8 : Int) =>
 Br (x8 == to_) (
 kk3 true H7) (
 Ld .raw free1_ H7 fun (x9 : Value) =>
 Ld (.int .i64) ((adr b1).add 1) H7 fun (x10 : Int) =>
 CallX Pg x9 [.int .i64 x10, .int .i64 to_, seen_] (.one (.c .bool)) H7 fun (r1 : Bool) H9 =>
 kk3 r1 H9)) fun j3 H8 =>
 Br j3 (
 k true H8) (
 kk1 () H8))) fun j1 H2 =>
 Lt (IntKind.wrap .i64 (s1 + 1)) fun t1 =>
 next1 t1 H2) (
 k false H1)) 0 H
def h_verify_checker_calls_1 : Hint := (.two .no (.two (.two .no (.one (.loop [(21, (.c (.int .i64)))] (.two .no (.two .no (.two (.join [] (.one (.two .no (.two (.two (.join [(33, (.c .bool))] .no) .no) (.two .no (.two (.join [(48, (.c .bool))] .no) .no)))))) .no)))))) .no))
theorem cQdh (from_ : Int) (to_ : Int) (seen_ : Value) (free0_ : Addr) (free1_ : Addr) {H : Heap} {k : Bool → Heap → Prop} (h : vQdh from_ to_ seen_ free0_ free1_ H k) : CallT Pg fQdn [.int .i64 from_, .int .i64 to_, seen_, .pointer (some free0_), .pointer (some free1_)] (.one (.c .bool)) H k :=
 call_of_E (h := h_verify_checker_calls_1) Pg_mixed Tryz.func84 (by kernel_rfl) (by kernel_rfl) (by kernel_rfl) (by kernel_rfl) (Eq.mpr (by kernel_rfl) h)
def vQdi (r_ : ByteArray × Int × Int × Sl) (funcs_ : Sl) (H : Heap) (k : Option Addr × Option Addr → Heap → Prop) : Prop :=
 Nw #[.string r_.1, .int .i64 r_.2.1, .int .i64 r_.2.2.1, slV r_.2.2.2] TQak H fun b1 H1 =>
 Ld .sl ((adr b1).add 3) H1 fun (x1 : Sl) =>
 Br ((x1.len : Int) == 0) (
 CallT Pg fQc4 [.int .i64 0, .int .i64 153] (.one (.c .ptr)) H1 fun (r1 : Option Addr) H2 =>
 k (none, r1) H2) (
 LdC [.str, (.int .i64), (.int .i64), .sl] (adr b1) H1 fun (c1 : ByteArray × Int × Int × Sl) =>
 CallT Pg fQd5 [.agg #[.string c1.1, .int .i64 c1.2.1, .int .i64 c1.2.2.1, slV c1.2.2.2], slV funcs_] (.one (.c .ptr)) H1 fun (r2 : Option Addr) H3 =>
 CallT Pg fQd6 [.pointer r2] (.one (.c .ptr)) H3 fun (r3 : Option Addr) H4 =>
 Br (!r3.isNone) (
 k (none, r3) H4) (
 k (r2, none) H4))
def h_verify_whole : Hint := .no
theorem cQdi (r_ : ByteArray × Int × Int × Sl) (funcs_ : Sl) {H : Heap} {k : Option Addr × Option Addr → Heap → Prop} (h : vQdi r_ funcs_ H k) : CallT Pg fQdo [.agg #[.string r_.1, .int .i64 r_.2.1, .int .i64 r_.2.2.1, slV r_.2.2.2], slV funcs_] (.tup [(.c .ptr), (.c .ptr)]) H k :=
 call_of_E (h := h_verify_whole) Pg_mixed Tryz.func85 (by kernel_rfl) (by kernel_rfl) (by kernel_rfl) (by kernel_rfl) (Eq.mpr (by kernel_rfl) h)
def vQdj (f_ : Option Addr) (at_ : Int) (H : Heap) (k : Bool → Heap → Prop) : Prop :=
 NilCk f_ fun a1 =>
 Ld .sl (a1.add 3) H fun (x1 : Sl) =>
 IxA 2 x1 at_ fun a2 =>
 LdC [(.int .i64), (.int .i64)] a2 H fun (c1 : Int × Int) =>
 Nw #[.int .i64 0, .int .i64 0] TQag H fun b1 H1 =>
 St ((adr b1).add 0) (.int .i64 c1.1) H1 fun H2 =>
 St ((adr b1).add 1) (.int .i64 c1.2) H2 fun H3 =>
 Jn (σ := Bool) (fun kk1 =>
 NilCk f_ fun a3 =>
 Ld .sl (a3.add 5) H3 fun (x2 : Sl) =>
 IxA 1 x2 at_ fun a4 =>
 Ld .raw a4 H3 fun (x3 : Value) =>
 MpN x3 H3 fun n1 =>
 Br (decide (n1 > 0)) (
 Ld (.int .i64) (adr b1) H3 fun (x4 : Int) =>
 Br (x4 != 24) (
 Ld (.int .i64) (adr b1) H3 fun (x5 : Int) =>
 kk1 (x5 != 21) H3) (
 kk1 false H3)) (
 kk1 false H3)) fun j1 H4 =>
 k j1 H4
def h_verify_flow_idle : Hint := (.two .no (.two .no (.two (.join [(4, (.c .bool))] .no) .no)))
theorem cQdj (f_ : Option Addr) (at_ : Int) {H : Heap} {k : Bool → Heap → Prop} (h : vQdj f_ at_ H k) : CallT Pg fQdp [.pointer f_, .int .i64 at_] (.one (.c .bool)) H k :=
 call_of_E (h := h_verify_flow_idle) Pg_mixed Tryz.func86 (by kernel_rfl) (by kernel_rfl) (by kernel_rfl) (by kernel_rfl) (Eq.mpr (by kernel_rfl) h)
def vQdk (f_ : Option Addr) (at_ : Int) (H : Heap) (k : Bool → Heap → Prop) : Prop :=
 NilCk f_ fun a1 =>
 Ld .sl (a1.add 3) H fun (x1 : Sl) =>
 Mks TQa8 1 1 #[.bool false] (x1.len : Int) (x1.len : Int) H fun l1 H1 =>
 Nw #[.int .i64 at_] TQap H1 fun b1 H2 =>
 LoopT (σ := Sl) (fun next1 s1 H3 =>
 Br (decide ((s1.len : Int) > 0)) (
 Jn (σ := Sl) (fun kk1 =>
 Lt (IntKind.wrap .i64 ((s1.len : Int) - 1)) fun t1 =>
 IxA 1 s1 t1 fun a2 =>
 Ld (.int .i64) a2 H3 fun (x2 : Int) =>
 Lt (IntKind.wrap .i64 ((s1.len : Int) - 1)) fun t2 =>
 SlA 1 s1 0 t2 (s1.cap : Nat) fun l2 =>
 CallT Pg fQdp [.pointer f_, .int .i64 x2] (.one (.c .bool)) H3 fun (r1 : Bool) H5 =>
 Br (!r1) (
 kk1 l2 H5) (
 NilCk f_ fun a3 =>
 LdC [.str, (.int .i64), (.int .i64), .sl] a3 H5 fun (c1 : ByteArray × Int × Int × Sl) =>
 CallT Pg fQd7 [.agg #[.string c1.1, .int .i64 c1.2.1, .int .i64 c1.2.2.1, slV c1.2.2.2], .int .i64 x2] (.one (.c .sl)) H5 fun (r2 : Sl) H6 =>
 LoopT (σ := Sl × Int) (fun next2 s2 H7 =>
 Br (decide (s2.2 < (r2.len : Int))) (
 Jn (σ := Sl) (fun kk2 =>
 IxA 1 r2 s2.2 fun a4 =>
 Ld (.int .i64) a4 H7 fun (x3 : Int) =>
 Br (x3 == at_) (
 k true H7) (
 IxA 1 l1 x3 fun a5 =>
 Ld .bool a5 H7 fun (x4 : Bool) =>
 Jn (σ := Sl) (fun kk3 =>
 Br (!x4) (
 IxA 1 l1 x3 fun a6 =>
 St a6 (.bool true) H7 fun H10 =>
 Nw #[.int .i64 x3] TQap H10 fun b2 H11 =>
 App TQap 1 8 #[.int .i64 0] s2.1 ⟨some (adr b2), 1, 1⟩ H11 fun l3 H12 =>
 kk3 l3 H12) (
 kk3 s2.1 H7)) fun j3 H9 =>
 kk2 j3 H9)) fun j2 H8 =>
 Lt (IntKind.wrap .i64 (s2.2 + 1)) fun t3 =>
 next2 (j2, t3) H8) (
 kk1 s2.1 H7)) (l2, 0) H6)) fun j1 H4 =>
 next1 j1 H4) (
 k false H3)) ⟨some (adr b1), 1, 1⟩ H2
def h_verify_flow_round : Hint := (.two .no (.two .no (.two .no (.two (.one (.loop [(6, (.c .sl))] (.two .no (.join [(6, (.c .sl))] (.one (.two .no (.two .no (.two .no (.two .no (.one (.loop [(6, (.c .sl)), (44, (.c (.int .i64)))] (.two .no (.two .no (.two (.join [(6, (.c .sl))] (.one (.two .no (.two .no (.two .no (.join [(6, (.c .sl))] .no)))))) .no)))))))))))))) .no))))
theorem cQdk (f_ : Option Addr) (at_ : Int) {H : Heap} {k : Bool → Heap → Prop} (h : vQdk f_ at_ H k) : CallT Pg fQdq [.pointer f_, .int .i64 at_] (.one (.c .bool)) H k :=
 call_of_E (h := h_verify_flow_round) Pg_mixed Tryz.func87 (by kernel_rfl) (by kernel_rfl) (by kernel_rfl) (by kernel_rfl) (Eq.mpr (by kernel_rfl) h)
def vQdl (l_ : Sl) (H : Heap) (k : Bool → Heap → Prop) : Prop :=
 LoopT (σ := Int) (fun next1 s1 H1 =>
 Br (decide (s1 < (l_.len : Int))) (
 IxA 1 l_ s1 fun a1 =>
 Ld .str a1 H1 fun (x1 : ByteArray) =>
 Jn (σ := Bool) (fun kk1 =>
 CallT Pg fQd8 [.string x1] (.one (.c .bool)) H1 fun (r1 : Bool) H3 =>
 Br (!r1) (
 kk1 true H3) (
 SlA 1 l_ 0 s1 (l_.cap : Nat) fun l1 =>
 CallT Pg fQd9 [slV l1, .string x1] (.one (.c .bool)) H3 fun (r2 : Bool) H4 =>
 kk1 r2 H4)) fun j1 H2 =>
 Br j1 (
 k false H2) (
 Lt (IntKind.wrap .i64 (s1 + 1)) fun t1 =>
 next1 t1 H2)) (
 k true H1)) 0 H
def h_world_words : Hint := (.two .no (.two (.two .no (.one (.loop [(7, (.c (.int .i64)))] (.two .no (.two .no (.two (.one (.two .no (.two (.join [(21, (.c .bool))] .no) .no))) .no)))))) .no))
theorem cQdl (l_ : Sl) {H : Heap} {k : Bool → Heap → Prop} (h : vQdl l_ H k) : CallT Pg fQdr [slV l_] (.one (.c .bool)) H k :=
 call_of_E (h := h_world_words) Pg_mixed Tryz.func125 (by kernel_rfl) (by kernel_rfl) (by kernel_rfl) (by kernel_rfl) (Eq.mpr (by kernel_rfl) h)
def vQdm (s_ : Sl) (H : Heap) (k : Sl → Heap → Prop) : Prop :=
 Br s_.a.isNone (
 k ⟨none, 0, 0⟩ H) (
 Nw #[] TQa7 H fun b1 H1 =>
 App TQa7 2 40 #[.string ByteArray.empty, .slice none 0 0] ⟨some (adr b1), 0, 0⟩ s_ H1 fun l1 H2 =>
 k l1 H2)
def h_slices_Clone_Sl_api_Kind_api_Kind : Hint := .no
theorem cQdm (s_ : Sl) {H : Heap} {k : Sl → Heap → Prop} (h : vQdm s_ H k) : CallT Pg fQds [slV s_] (.one (.c .sl)) H k :=
 call_of_E (h := h_slices_Clone_Sl_api_Kind_api_Kind) Pg_mixed Tryz.func126 (by kernel_rfl) (by kernel_rfl) (by kernel_rfl) (by kernel_rfl) (Eq.mpr (by kernel_rfl) h)
def vQdn (s_ : Sl) (H : Heap) (k : Sl → Heap → Prop) : Prop :=
 Br s_.a.isNone (
 k ⟨none, 0, 0⟩ H) (
 Nw #[] TQbc H fun b1 H1 =>
 App TQbc 1 16 #[.string ByteArray.empty] ⟨some (adr b1), 0, 0⟩ s_ H1 fun l1 H2 =>
 k l1 H2)
def h_slices_Clone_Sl_string_string : Hint := .no
theorem cQdn (s_ : Sl) {H : Heap} {k : Sl → Heap → Prop} (h : vQdn s_ H k) : CallT Pg fQdt [slV s_] (.one (.c .sl)) H k :=
 call_of_E (h := h_slices_Clone_Sl_string_string) Pg_mixed Tryz.func127 (by kernel_rfl) (by kernel_rfl) (by kernel_rfl) (by kernel_rfl) (Eq.mpr (by kernel_rfl) h)
def vQdo (l_ : Sl) (H : Heap) (k : Bool → Heap → Prop) : Prop :=
 LoopT (σ := Int × Int) (fun next1 s1 H1 =>
 Br (decide (s1.2 < (l_.len : Int))) (
 IxA 1 l_ s1.2 fun a1 =>
 Ld (.int .i64) a1 H1 fun (x1 : Int) =>
 Jn (σ := Bool) (fun kk1 =>
 Br (decide (x1 ≤ s1.1)) (
 kk1 true H1) (
 kk1 (decide (x1 > 12)) H1)) fun j1 H2 =>
 Br j1 (
 k false H2) (
 Lt (IntKind.wrap .i64 (s1.2 + 1)) fun t1 =>
 next1 (x1, t1) H2)) (
 k true H1)) (0, 0) H
def h_code_rises : Hint := (.two .no (.two .no (.two (.two .no (.one (.loop [(3, (.c (.int .i64))), (8, (.c (.int .i64)))] (.two .no (.two .no (.two (.one (.two .no (.two (.two (.join [(18, (.c .bool))] .no) .no) .no))) .no)))))) .no)))
theorem cQdo (l_ : Sl) {H : Heap} {k : Bool → Heap → Prop} (h : vQdo l_ H k) : CallT Pg fQdu [slV l_] (.one (.c .bool)) H k :=
 call_of_E (h := h_code_rises) Pg_mixed Tryz.func128 (by kernel_rfl) (by kernel_rfl) (by kernel_rfl) (by kernel_rfl) (Eq.mpr (by kernel_rfl) h)
def vQdp (r_ : ByteArray × Int × Int × Sl) (left_ : Option Addr) (H : Heap) (k : Bool → Heap → Prop) : Prop :=
 Nw #[.string r_.1, .int .i64 r_.2.1, .int .i64 r_.2.2.1, slV r_.2.2.2] TQak H fun b1 H1 =>
 NilCk left_ fun a1 =>
 Ld (.int .i64) a1 H1 fun (x1 : Int) =>
 Ld .sl ((adr b1).add 3) H1 fun (x2 : Sl) =>
 Lt (IntKind.wrap .i64 (x1 - (x2.len : Int))) fun t1 =>
 NilCk left_ fun a2 =>
 St a2 (.int .i64 t1) H1 fun H2 =>
 Jn (σ := Bool) (fun kk1 =>
 Ld .str (adr b1) H2 fun (x3 : ByteArray) =>
 Br (decide ((x3.size : Int) < 1)) (
 kk1 true H2) (
 Ld .str (adr b1) H2 fun (x4 : ByteArray) =>
 Br (decide ((x4.size : Int) > 16)) (
 kk1 true H2) (
 LdC [.str, (.int .i64), (.int .i64), .sl] (adr b1) H2 fun (c1 : ByteArray × Int × Int × Sl) =>
 CallT Pg fQea [.agg #[.string c1.1, .int .i64 c1.2.1, .int .i64 c1.2.2.1, slV c1.2.2.2]] (.one (.c .bool)) H2 fun (r1 : Bool) H4 =>
 Br (!r1) (
 kk1 true H4) (
 NilCk left_ fun a3 =>
 Ld (.int .i64) a3 H4 fun (x5 : Int) =>
 kk1 (decide (x5 < 0)) H4)))) fun j1 H3 =>
 Br j1 (
 k false H3) (
 Ld .sl ((adr b1).add 3) H3 fun (x6 : Sl) =>
 LoopT (σ := Int) (fun next1 s1 H5 =>
 Br (decide (s1 < (x6.len : Int))) (
 IxA 2 x6 s1 fun a4 =>
 LdC [(.int .i64), (.int .i64)] a4 H5 fun (c2 : Int × Int) =>
 Nw #[.int .i64 0, .int .i64 0] TQag H5 fun b2 H6 =>
 St ((adr b2).add 0) (.int .i64 c2.1) H6 fun H7 =>
 St ((adr b2).add 1) (.int .i64 c2.2) H7 fun H8 =>
 LdC [(.int .i64), (.int .i64)] (adr b2) H8 fun (c3 : Int × Int) =>
 CallT Pg fQeb [.agg #[.int .i64 c3.1, .int .i64 c3.2]] (.one (.c .bool)) H8 fun (r2 : Bool) H9 =>
 Br (!r2) (
 k false H9) (
 Lt (IntKind.wrap .i64 (s1 + 1)) fun t2 =>
 next1 t2 H9)) (
 k true H5)) 0 H3)
def h_code_written : Hint := (.two .no (.two .no (.two (.two (.join [(35, (.c .bool))] .no) .no) (.two (.two .no (.one (.loop [(39, (.c (.int .i64)))] .no))) .no))))
theorem cQdp (r_ : ByteArray × Int × Int × Sl) (left_ : Option Addr) {H : Heap} {k : Bool → Heap → Prop} (h : vQdp r_ left_ H k) : CallT Pg fQdv [.agg #[.string r_.1, .int .i64 r_.2.1, .int .i64 r_.2.2.1, slV r_.2.2.2], .pointer left_] (.one (.c .bool)) H k :=
 call_of_E (h := h_code_written) Pg_mixed Tryz.func129 (by kernel_rfl) (by kernel_rfl) (by kernel_rfl) (by kernel_rfl) (Eq.mpr (by kernel_rfl) h)
def vQdq (b_ : Sl) (n_ : Int) (H : Heap) (k : Sl → Heap → Prop) : Prop :=
 CallT Pg fQed [slV b_] (.one (.c .sl)) H fun (r1 : Sl) H1 =>
 CallT Pg fQec [slV r1, .int .u64 n_] (.one (.c .sl)) H1 fun (r2 : Sl) H2 =>
 k r2 H2
def h_pack_Put : Hint := .no
theorem cQdq (b_ : Sl) (n_ : Int) {H : Heap} {k : Sl → Heap → Prop} (h : vQdq b_ n_ H k) : CallT Pg fQdw [slV b_, .int .u64 n_] (.one (.c .sl)) H k :=
 call_of_E (h := h_pack_Put) Pg_mixed Tryz.func130 (by kernel_rfl) (by kernel_rfl) (by kernel_rfl) (by kernel_rfl) (Eq.mpr (by kernel_rfl) h)
def vQdr (b_ : Sl) (s_ : ByteArray) (H : Heap) (k : Sl → Heap → Prop) : Prop :=
 CallT Pg fQdw [slV b_, .int .u64 (IntKind.wrap .u64 (s_.size : Int))] (.one (.c .sl)) H fun (r1 : Sl) H1 =>
 AppStr TQbd 1 #[.int .u8 0] r1 s_ H1 fun l1 H2 =>
 k l1 H2
def h_pack_PutText : Hint := .no
theorem cQdr (b_ : Sl) (s_ : ByteArray) {H : Heap} {k : Sl → Heap → Prop} (h : vQdr b_ s_ H k) : CallT Pg fQdx [slV b_, .string s_] (.one (.c .sl)) H k :=
 call_of_E (h := h_pack_PutText) Pg_mixed Tryz.func131 (by kernel_rfl) (by kernel_rfl) (by kernel_rfl) (by kernel_rfl) (Eq.mpr (by kernel_rfl) h)
def vQds (b_ : Sl) (n_ : Int) (H : Heap) (k : Sl → Heap → Prop) : Prop :=
 CallT Pg fQee [.int .i64 n_] (.one (.c (.int .u64))) H fun (r1 : Int) H1 =>
 CallT Pg fQdw [slV b_, .int .u64 r1] (.one (.c .sl)) H1 fun (r2 : Sl) H2 =>
 k r2 H2
def h_pack_PutInt : Hint := .no
theorem cQds (b_ : Sl) (n_ : Int) {H : Heap} {k : Sl → Heap → Prop} (h : vQds b_ n_ H k) : CallT Pg fQdy [slV b_, .int .i64 n_] (.one (.c .sl)) H k :=
 call_of_E (h := h_pack_PutInt) Pg_mixed Tryz.func132 (by kernel_rfl) (by kernel_rfl) (by kernel_rfl) (by kernel_rfl) (Eq.mpr (by kernel_rfl) h)
def vQdt (s_ : Sl) (f_ : Value) (H : Heap) (k : Int → Heap → Prop) : Prop :=
 LoopT (σ := Int) (fun next1 s1 H1 =>
 Br (decide (s1 < (s_.len : Int))) (
 IxA 1 s_ s1 fun a1 =>
 Ld (.int .i64) a1 H1 fun (x1 : Int) =>
 CallX Pg f_ [.int .i64 x1] (.one (.c .bool)) H1 fun (r1 : Bool) H2 =>
 Br r1 (
 k s1 H2) (
 Lt (IntKind.wrap .i64 (s1 + 1)) fun t1 =>
 next1 t1 H2)) (
 k (-1) H1)) 0 H
def h_slices_IndexFunc_Sl_int_int : Hint := (.two .no (.two (.two .no (.one (.loop [(8, (.c (.int .i64)))] .no))) .no))
theorem cQdt (s_ : Sl) (f_ : Value) {H : Heap} {k : Int → Heap → Prop} (h : vQdt s_ f_ H k) : CallT Pg fQdz [slV s_, f_] (.one (.c (.int .i64))) H k :=
 call_of_E (h := h_slices_IndexFunc_Sl_int_int) Pg_mixed Tryz.func133 (by kernel_rfl) (by kernel_rfl) (by kernel_rfl) (by kernel_rfl) (Eq.mpr (by kernel_rfl) h)
def vQdu (op_ : Int) (H : Heap) (k : Bool → Heap → Prop) : Prop :=
 Nw #[.int .i64 4, .int .i64 5, .int .i64 25, .int .i64 26, .int .i64 27, .int .i64 28, .int .i64 29, .int .i64 30, .int .i64 35, .int .i64 23] TQap H fun b1 H1 =>
 CallT Pg fQcr [.slice (some (adr b1)) 10 10, .int .i64 op_] (.one (.c .bool)) H1 fun (r1 : Bool) H2 =>
 k r1 H2
def h_verify_outer : Hint := .no
theorem cQdu (op_ : Int) {H : Heap} {k : Bool → Heap → Prop} (h : vQdu op_ H k) : CallT Pg fQd0 [.int .i64 op_] (.one (.c .bool)) H k :=
 call_of_E (h := h_verify_outer) Pg_mixed Tryz.func134 (by kernel_rfl) (by kernel_rfl) (by kernel_rfl) (by kernel_rfl) (Eq.mpr (by kernel_rfl) h)
def vQdv (c_ : Option Addr) (a_ : Int) (sets_ : Sl) (H : Heap) (k : Bool → Heap → Prop) : Prop :=
 Nw #[.int .i64 a_] TQaq H fun b1 H1 =>
 Jn (σ := Bool) (fun kk1 =>
 Ld (.int .i64) (adr b1) H1 fun (x1 : Int) =>
 Br (decide (x1 < 0)) (
 kk1 true H1) (
 Ld (.int .i64) (adr b1) H1 fun (x2 : Int) =>
 Rem x2 8 fun t1 =>
 Ld (.int .i64) (adr b1) H1 fun (x3 : Int) =>
 Quo .i64 x3 8 fun t2 =>
 CallT Pg fQd4 [.pointer c_, .int .i64 t2] (.one (.c (.int .i64))) H1 fun (r1 : Int) H3 =>
 Stab [(adr b1, .int .i64 x3), (adr b1, .int .i64 x2), (adr b1, .int .i64 x1)] H3 <|
 kk1 (decide (t1 ≥ r1)) H3)) fun j1 H2 =>
 Br j1 (
 k false H2) (
 CallT Pg fQbe [slV sets_, .func (.func 183) #[] #[.pointer (some (adr b1))]] (.one (.c .bool)) H2 fun (r2 : Bool) H4 =>
 k r2 H4)
def h_verify_checker_declared : Hint := (.two .no (.two (.two (.join [(17, (.c .bool))] .no) .no) .no))
theorem cQdv (c_ : Option Addr) (a_ : Int) (sets_ : Sl) {H : Heap} {k : Bool → Heap → Prop} (h : vQdv c_ a_ sets_ H k) : CallT Pg fQd1 [.pointer c_, .int .i64 a_, slV sets_] (.one (.c .bool)) H k :=
 call_of_E (h := h_verify_checker_declared) Pg_mixed Tryz.func135 (by kernel_rfl) (by kernel_rfl) (by kernel_rfl) (by kernel_rfl) (Eq.mpr (by kernel_rfl) h)
def vQdw (c_ : Option Addr) (a_ : Int) (H : Heap) (k : Bool → Heap → Prop) : Prop :=
 Jn (σ := Bool) (fun kk1 =>
 Br (decide (a_ ≥ 0)) (
 Rem a_ 8 fun t1 =>
 Quo .i64 a_ 8 fun t2 =>
 CallT Pg fQd4 [.pointer c_, .int .i64 t2] (.one (.c (.int .i64))) H fun (r1 : Int) H2 =>
 kk1 (t1 == r1) H2) (
 kk1 false H)) fun j1 H1 =>
 k j1 H1
def h_verify_checker_whole : Hint := (.two .no (.two (.join [(4, (.c .bool))] .no) .no))
theorem cQdw (c_ : Option Addr) (a_ : Int) {H : Heap} {k : Bool → Heap → Prop} (h : vQdw c_ a_ H k) : CallT Pg fQd2 [.pointer c_, .int .i64 a_] (.one (.c .bool)) H k :=
 call_of_E (h := h_verify_checker_whole) Pg_mixed Tryz.func136 (by kernel_rfl) (by kernel_rfl) (by kernel_rfl) (by kernel_rfl) (Eq.mpr (by kernel_rfl) h)
def vQdx (r_ : ByteArray × Int × Int × Sl) (at_ : Int) (H : Heap) (k : Bool → Heap → Prop) : Prop :=
 Nw #[.string r_.1, .int .i64 r_.2.1, .int .i64 r_.2.2.1, slV r_.2.2.2] TQak H fun b1 H1 =>
 LdC [.str, (.int .i64), (.int .i64), .sl] (adr b1) H1 fun (c1 : ByteArray × Int × Int × Sl) =>
 Lt (IntKind.wrap .i64 (at_ + 1)) fun t1 =>
 CallT Pg fQdm [.agg #[.string c1.1, .int .i64 c1.2.1, .int .i64 c1.2.2.1, slV c1.2.2.2], .int .i64 t1] (.one (.c (.int .i64))) H1 fun (r1 : Int) H2 =>
 Jn (σ := Bool) (fun kk1 =>
 Br (r1 != 26) (
 kk1 (r1 != 27) H2) (
 kk1 false H2)) fun j1 H3 =>
 Br j1 (
 k false H3) (
 LoopT (σ := Int) (fun next1 s1 H4 =>
 Br (decide (s1 ≤ 12)) (
 LdC [.str, (.int .i64), (.int .i64), .sl] (adr b1) H4 fun (c2 : ByteArray × Int × Int × Sl) =>
 Lt (IntKind.wrap .i64 (at_ - s1)) fun t2 =>
 CallT Pg fQdm [.agg #[.string c2.1, .int .i64 c2.2.1, .int .i64 c2.2.2.1, slV c2.2.2.2], .int .i64 t2] (.one (.c (.int .i64))) H4 fun (r2 : Int) H5 =>
 Br (r2 != 26) (
 k true H5) (
 Lt (IntKind.wrap .i64 (s1 + 1)) fun t3 =>
 next1 t3 H5)) (
 k false H4)) 1 H3)
def h_verify_row : Hint := (.two .no (.two (.two .no (.two (.join [(16, (.c .bool))] .no) .no)) (.two (.two .no (.one (.loop [(6, (.c (.int .i64)))] .no))) .no)))
theorem cQdx (r_ : ByteArray × Int × Int × Sl) (at_ : Int) {H : Heap} {k : Bool → Heap → Prop} (h : vQdx r_ at_ H k) : CallT Pg fQd3 [.agg #[.string r_.1, .int .i64 r_.2.1, .int .i64 r_.2.2.1, slV r_.2.2.2], .int .i64 at_] (.one (.c .bool)) H k :=
 call_of_E (h := h_verify_row) Pg_mixed Tryz.func137 (by kernel_rfl) (by kernel_rfl) (by kernel_rfl) (by kernel_rfl) (Eq.mpr (by kernel_rfl) h)
def vQdy (c_ : Option Addr) (kind_ : Int) (H : Heap) (k : Int → Heap → Prop) : Prop :=
 Jn (σ := Bool) (fun kk1 =>
 Br (decide (kind_ < 1)) (
 kk1 true H) (
 NilCk c_ fun a1 =>
 Ld .sl (a1.add 2) H fun (x1 : Sl) =>
 kk1 (decide (kind_ > (x1.len : Int))) H)) fun j1 H1 =>
 Br j1 (
 k (-1) H1) (
 NilCk c_ fun a2 =>
 Ld .sl (a2.add 2) H1 fun (x2 : Sl) =>
 Lt (IntKind.wrap .i64 (kind_ - 1)) fun t1 =>
 IxA 2 x2 t1 fun a3 =>
 Ld .sl (a3.add 1) H1 fun (x3 : Sl) =>
 k (x3.len : Int) H1)
def h_verify_checker_fields : Hint := (.two .no (.two (.two (.join [(15, (.c .bool))] .no) .no) .no))
theorem cQdy (c_ : Option Addr) (kind_ : Int) {H : Heap} {k : Int → Heap → Prop} (h : vQdy c_ kind_ H k) : CallT Pg fQd4 [.pointer c_, .int .i64 kind_] (.one (.c (.int .i64))) H k :=
 call_of_E (h := h_verify_checker_fields) Pg_mixed Tryz.func138 (by kernel_rfl) (by kernel_rfl) (by kernel_rfl) (by kernel_rfl) (Eq.mpr (by kernel_rfl) h)
def vQdz (r_ : ByteArray × Int × Int × Sl) (funcs_ : Sl) (H : Heap) (k : Option Addr → Heap → Prop) : Prop :=
 Nw #[.string r_.1, .int .i64 r_.2.1, .int .i64 r_.2.2.1, slV r_.2.2.2] TQak H fun b1 H1 =>
 LdC [.str, (.int .i64), (.int .i64), .sl] (adr b1) H1 fun (c1 : ByteArray × Int × Int × Sl) =>
 Ld .sl ((adr b1).add 3) H1 fun (x1 : Sl) =>
 Mks TQa2 1 8 #[(.map none)] (x1.len : Int) (x1.len : Int) H1 fun l1 H2 =>
 Stab [((adr b1).add 3, slV x1), ((adr b1).add 0, .string c1.1), ((adr b1).add 1, .int .i64 c1.2.1), ((adr b1).add 2, .int .i64 c1.2.2.1), ((adr b1).add 3, slV c1.2.2.2)] H2 <|
 Nw #[.string c1.1, .int .i64 c1.2.1, .int .i64 c1.2.2.1, slV c1.2.2.2, slV funcs_, slV l1] TQbf H2 fun b2 H3 =>
 Stab [((adr b1).add 3, slV x1), ((adr b1).add 0, .string c1.1), ((adr b1).add 1, .int .i64 c1.2.1), ((adr b1).add 2, .int .i64 c1.2.2.1), ((adr b1).add 3, slV c1.2.2.2)] H3 <|
 Nw #[.int .i64 0, .int .i64 0] TQbh H3 fun b3 H4 =>
 LoopT (σ := Sl) (fun next1 s1 H5 =>
 Br (decide ((s1.len : Int) > 0)) (
 Jn (σ := Sl) (fun kk1 =>
 Lt (IntKind.wrap .i64 ((s1.len : Int) - 1)) fun t1 =>
 IxA 2 s1 t1 fun a1 =>
 LdC [(.int .i64), (.int .i64)] a1 H5 fun (c2 : Int × Int) =>
 Nw #[.int .i64 0, .int .i64 0] TQbh H5 fun b4 H7 =>
 St ((adr b4).add 0) (.int .i64 c2.1) H7 fun H8 =>
 St ((adr b4).add 1) (.int .i64 c2.2) H8 fun H9 =>
 Lt (IntKind.wrap .i64 ((s1.len : Int) - 1)) fun t2 =>
 SlA 2 s1 0 t2 (s1.cap : Nat) fun l2 =>
 NilCk (some (adr b2)) fun a2 =>
 Ld .sl (a2.add 5) H9 fun (x2 : Sl) =>
 Ld (.int .i64) (adr b4) H9 fun (x3 : Int) =>
 IxA 1 x2 x3 fun a3 =>
 Ld .raw a3 H9 fun (x4 : Value) =>
 Ld (.int .i64) ((adr b4).add 1) H9 fun (x5 : Int) =>
 MpL (.int .i64) (.c .bool) false x4 (.int .i64 x5) H9 fun (x6 : Bool) e1 =>
 Stab [(adr b4, .int .i64 x3), (a2.add 5, slV x2)] H9 <|
 Br x6 (
 kk1 l2 H9) (
 NilCk (some (adr b2)) fun a4 =>
 Ld .sl (a4.add 5) H9 fun (x7 : Sl) =>
 Ld (.int .i64) (adr b4) H9 fun (x8 : Int) =>
 IxA 1 x7 x8 fun a5 =>
 Ld .raw a5 H9 fun (x9 : Value) =>
 MpNil x9 fun e2 =>
 Jn (σ := Unit) (fun kk2 =>
 Br e2 (
 NilCk (some (adr b2)) fun a6 =>
 Ld .sl (a6.add 5) H9 fun (x10 : Sl) =>
 Ld (.int .i64) (adr b4) H9 fun (x11 : Int) =>
 MkM H9 fun m1 H11 =>
 Stab [(adr b4, .int .i64 x11), (a6.add 5, slV x10)] H11 <|
 IxA 1 x10 x11 fun a7 =>
 StV a7 m1 H11 fun H12 =>
 kk2 () H12) (
 kk2 () H9)) fun j2 H10 =>
 NilCk (some (adr b2)) fun a8 =>
 Ld .sl (a8.add 5) H10 fun (x12 : Sl) =>
 Ld (.int .i64) (adr b4) H10 fun (x13 : Int) =>
 IxA 1 x12 x13 fun a9 =>
 Ld .raw a9 H10 fun (x14 : Value) =>
 Ld (.int .i64) ((adr b4).add 1) H10 fun (x15 : Int) =>
 MpU (.int .i64) x14 (.int .i64 x15) (.bool true) H10 fun H13 =>
 Ld (.int .i64) (adr b4) H13 fun (x16 : Int) =>
 Ld (.int .i64) ((adr b4).add 1) H13 fun (x17 : Int) =>
 CallT Pg fQeg [.pointer (some (adr b2)), .int .i64 x16, .int .i64 x17] (.tup [(.c (.int .i64)), (.c .bool)]) H13 fun (r1 : Int × Bool) H14 =>
 Br (!r1.2) (
 kk1 l2 H14) (
 LdC [.str, (.int .i64), (.int .i64), .sl] (adr b1) H14 fun (c3 : ByteArray × Int × Int × Sl) =>
 Ld (.int .i64) (adr b4) H14 fun (x18 : Int) =>
 CallT Pg fQd7 [.agg #[.string c3.1, .int .i64 c3.2.1, .int .i64 c3.2.2.1, slV c3.2.2.2], .int .i64 x18] (.one (.c .sl)) H14 fun (r2 : Sl) H15 =>
 LoopT (σ := Sl × Int) (fun next2 s2 H16 =>
 Br (decide (s2.2 < (r2.len : Int))) (
 Jn (σ := Sl) (fun kk3 =>
 IxA 1 r2 s2.2 fun a10 =>
 Ld (.int .i64) a10 H16 fun (x19 : Int) =>
 LdC [.str, (.int .i64), (.int .i64), .sl] (adr b1) H16 fun (c4 : ByteArray × Int × Int × Sl) =>
 CallT Pg fQeh [.agg #[.string c4.1, .int .i64 c4.2.1, .int .i64 c4.2.2.1, slV c4.2.2.2], .int .i64 x19] (.one (.c .bool)) H16 fun (r3 : Bool) H18 =>
 Jn (σ := Sl) (fun kk4 =>
 Br r3 (
 Nw #[.int .i64 x19, .int .i64 r1.1] TQbh H18 fun b5 H20 =>
 App TQbh 2 16 #[.int .i64 0, .int .i64 0] s2.1 ⟨some (adr b5), 1, 1⟩ H20 fun l3 H21 =>
 kk4 l3 H21) (
 kk4 s2.1 H18)) fun j4 H19 =>
 kk3 j4 H19) fun j3 H17 =>
 Lt (IntKind.wrap .i64 (s2.2 + 1)) fun t3 =>
 next2 (j3, t3) H17) (
 kk1 s2.1 H16)) (l2, 0) H15))) fun j1 H6 =>
 next1 j1 H6) (
 k (some (adr b2)) H5)) ⟨some (adr b3), 1, 1⟩ H4
def h_verify_reach : Hint := (.two .no (.two .no (.two .no (.two (.one (.loop [(6, (.c .sl))] (.two .no (.join [(6, (.c .sl))] (.one (.two .no (.two .no (.two .no (.two (.two .no (.join [] .no)) (.two .no (.two .no (.two .no (.two .no (.one (.loop [(6, (.c .sl)), (90, (.c (.int .i64)))] (.two .no (.two .no (.two (.join [(6, (.c .sl))] (.one (.two .no (.two .no (.join [(6, (.c .sl))] .no))))) .no)))))))))))))))))) .no))))
theorem cQdz (r_ : ByteArray × Int × Int × Sl) (funcs_ : Sl) {H : Heap} {k : Option Addr → Heap → Prop} (h : vQdz r_ funcs_ H k) : CallT Pg fQd5 [.agg #[.string r_.1, .int .i64 r_.2.1, .int .i64 r_.2.2.1, slV r_.2.2.2], slV funcs_] (.one (.c .ptr)) H k :=
 call_of_E (h := h_verify_reach) Pg_mixed Tryz.func139 (by kernel_rfl) (by kernel_rfl) (by kernel_rfl) (by kernel_rfl) (Eq.mpr (by kernel_rfl) h)
def vQd0 (f_ : Option Addr) (H : Heap) (k : Option Addr → Heap → Prop) : Prop :=
 NilCk f_ fun a1 =>
 Ld .sl (a1.add 3) H fun (x1 : Sl) =>
 LoopT (σ := Int) (fun next1 s1 H1 =>
 Br (decide (s1 < (x1.len : Int))) (
 Jn (σ := Unit) (fun kk1 =>
 NilCk f_ fun a2 =>
 Ld .sl (a2.add 5) H1 fun (x2 : Sl) =>
 IxA 1 x2 s1 fun a3 =>
 Ld .raw a3 H1 fun (x3 : Value) =>
 MpN x3 H1 fun n1 =>
 Br (n1 == 0) (
 kk1 () H1) (
 CallT Pg fQei [.pointer f_, .int .i64 s1] (.one (.c (.int .i64))) H1 fun (r1 : Int) H3 =>
 Br (r1 != 0) (
 CallT Pg fQc4 [.int .i64 s1, .int .i64 r1] (.one (.c .ptr)) H3 fun (r2 : Option Addr) H4 =>
 k r2 H4) (
 kk1 () H3))) fun j1 H2 =>
 Lt (IntKind.wrap .i64 (s1 + 1)) fun t1 =>
 next1 t1 H2) (
 k none H1)) 0 H
def h_verify_flow_first : Hint := (.two .no (.two (.two .no (.one (.loop [(11, (.c (.int .i64)))] (.two .no (.two .no (.two (.join [] .no) .no)))))) .no))
theorem cQd0 (f_ : Option Addr) {H : Heap} {k : Option Addr → Heap → Prop} (h : vQd0 f_ H k) : CallT Pg fQd6 [.pointer f_] (.one (.c .ptr)) H k :=
 call_of_E (h := h_verify_flow_first) Pg_mixed Tryz.func140 (by kernel_rfl) (by kernel_rfl) (by kernel_rfl) (by kernel_rfl) (Eq.mpr (by kernel_rfl) h)
def vQd1 (r_ : ByteArray × Int × Int × Sl) (at_ : Int) (H : Heap) (k : Sl → Heap → Prop) : Prop :=
 Nw #[.string r_.1, .int .i64 r_.2.1, .int .i64 r_.2.2.1, slV r_.2.2.2] TQak H fun b1 H1 =>
 Ld .sl ((adr b1).add 3) H1 fun (x1 : Sl) =>
 IxA 2 x1 at_ fun a1 =>
 LdC [(.int .i64), (.int .i64)] a1 H1 fun (c1 : Int × Int) =>
 Nw #[.int .i64 0, .int .i64 0] TQag H1 fun b2 H2 =>
 St ((adr b2).add 0) (.int .i64 c1.1) H2 fun H3 =>
 St ((adr b2).add 1) (.int .i64 c1.2) H3 fun H4 =>
 Ld (.int .i64) (adr b2) H4 fun (x2 : Int) =>
 Jn (σ := Sl) (fun kk1 =>
 Jn (σ := Sl) (fun kk2 =>
 Jn (σ := Bool) (fun kk3 =>
 Br (x2 == 22) (
 kk3 true H4) (
 kk3 (x2 == 23) H4)) fun j3 H7 =>
 Br j3 (
 kk1 ⟨none, 0, 0⟩ H7) (
 Br (x2 == 19) (
 Ld (.int .i64) ((adr b2).add 1) H7 fun (x3 : Int) =>
 Nw #[.int .i64 x3] TQaq H7 fun b3 H8 =>
 App TQaq 1 8 #[.int .i64 0] ⟨none, 0, 0⟩ ⟨some (adr b3), 1, 1⟩ H8 fun l1 H9 =>
 kk1 l1 H9) (
 Br (x2 == 20) (
 Ld (.int .i64) ((adr b2).add 1) H7 fun (x4 : Int) =>
 Nw #[.int .i64 x4] TQaq H7 fun b4 H10 =>
 App TQaq 1 8 #[.int .i64 0] ⟨none, 0, 0⟩ ⟨some (adr b4), 1, 1⟩ H10 fun l2 H11 =>
 kk2 l2 H11) (
 kk2 ⟨none, 0, 0⟩ H7)))) fun j2 H6 =>
 Lt (IntKind.wrap .i64 (at_ + 1)) fun t1 =>
 Nw #[.int .i64 t1] TQaq H6 fun b5 H12 =>
 App TQaq 1 8 #[.int .i64 0] j2 ⟨some (adr b5), 1, 1⟩ H12 fun l3 H13 =>
 kk1 l3 H13) fun j1 H5 =>
 k j1 H5
def h_verify_next : Hint := (.two .no (.two .no (.two (.two .no (.two .no (.join [(5, (.c .sl))] (.one (.two (.join [(5, (.c .sl))] (.one (.two (.one (.two (.one (.two (.one (.two (.two (.two (.two .no (.join [(14, (.c .bool))] .no)) .no) .no) .no)) .no)) .no)) .no))) .no))))) .no)))
theorem cQd1 (r_ : ByteArray × Int × Int × Sl) (at_ : Int) {H : Heap} {k : Sl → Heap → Prop} (h : vQd1 r_ at_ H k) : CallT Pg fQd7 [.agg #[.string r_.1, .int .i64 r_.2.1, .int .i64 r_.2.2.1, slV r_.2.2.2], .int .i64 at_] (.one (.c .sl)) H k :=
 call_of_E (h := h_verify_next) Pg_mixed Tryz.func141 (by kernel_rfl) (by kernel_rfl) (by kernel_rfl) (by kernel_rfl) (Eq.mpr (by kernel_rfl) h)
def vQd2 (s_ : ByteArray) (H : Heap) (k : Bool → Heap → Prop) : Prop :=
 S2B TQbd s_ H fun l1 H1 =>
 LoopT (σ := Int) (fun next1 s1 H2 =>
 Br (decide (s1 < (l1.len : Int))) (
 IxA 1 l1 s1 fun a1 =>
 Ld (.int .u8) a1 H2 fun (x1 : Int) =>
 Jn (σ := Bool) (fun kk1 =>
 Br (decide (x1 ≥ 97)) (
 Br (decide (x1 ≤ 122)) (
 kk1 true H2) (
 Br (decide (x1 ≥ 65)) (
 kk1 (decide (x1 ≤ 90)) H2) (
 kk1 false H2))) (
 Br (decide (x1 ≥ 65)) (
 kk1 (decide (x1 ≤ 90)) H2) (
 kk1 false H2))) fun j1 H3 =>
 Jn (σ := Bool) (fun kk2 =>
 Br (!j1) (
 Br (s1 == 0) (
 kk2 true H3) (
 Br (x1 != 95) (
 Br (decide (x1 < 48)) (
 kk2 true H3) (
 kk2 (decide (x1 > 57)) H3)) (
 kk2 false H3))) (
 kk2 false H3)) fun j2 H4 =>
 Br j2 (
 k false H4) (
 Lt (IntKind.wrap .i64 (s1 + 1)) fun t1 =>
 next1 t1 H4)) (
 Jn (σ := Bool) (fun kk3 =>
 Br (!(s_.toList == (⟨#[]⟩ : ByteArray).toList)) (
 kk3 (decide ((s_.size : Int) ≤ 16)) H2) (
 kk3 false H2)) fun j3 H5 =>
 k j3 H5)) 0 H1
def h_world_word : Hint := (.two .no (.two (.two .no (.one (.loop [(9, (.c (.int .i64)))] (.two .no (.two .no (.two (.one (.two .no (.two (.join [(5, (.c .bool))] .no) (.two (.join [(45, (.c .bool))] .no) .no)))) .no)))))) (.two (.join [(2, (.c .bool))] .no) .no)))
theorem cQd2 (s_ : ByteArray) {H : Heap} {k : Bool → Heap → Prop} (h : vQd2 s_ H k) : CallT Pg fQd8 [.string s_] (.one (.c .bool)) H k :=
 call_of_E (h := h_world_word) Pg_mixed Tryz.func176 (by kernel_rfl) (by kernel_rfl) (by kernel_rfl) (by kernel_rfl) (Eq.mpr (by kernel_rfl) h)
def vQd3 (s_ : Sl) (v_ : ByteArray) (H : Heap) (k : Bool → Heap → Prop) : Prop :=
 CallT Pg fQej [slV s_, .string v_] (.one (.c (.int .i64))) H fun (r1 : Int) H1 =>
 k (decide (r1 ≥ 0)) H1
def h_slices_Contains_Sl_string_string : Hint := .no
theorem cQd3 (s_ : Sl) (v_ : ByteArray) {H : Heap} {k : Bool → Heap → Prop} (h : vQd3 s_ v_ H k) : CallT Pg fQd9 [slV s_, .string v_] (.one (.c .bool)) H k :=
 call_of_E (h := h_slices_Contains_Sl_string_string) Pg_mixed Tryz.func177 (by kernel_rfl) (by kernel_rfl) (by kernel_rfl) (by kernel_rfl) (Eq.mpr (by kernel_rfl) h)
def vQd4 (r_ : ByteArray × Int × Int × Sl) (H : Heap) (k : Bool → Heap → Prop) : Prop :=
 Nw #[.string r_.1, .int .i64 r_.2.1, .int .i64 r_.2.2.1, slV r_.2.2.2] TQak H fun b1 H1 =>
 Jn (σ := Bool) (fun kk1 =>
 Ld (.int .i64) ((adr b1).add 1) H1 fun (x1 : Int) =>
 Br (decide (x1 ≥ 0)) (
 Ld (.int .i64) ((adr b1).add 1) H1 fun (x2 : Int) =>
 Br (decide (x2 ≤ 4)) (
 Ld (.int .i64) ((adr b1).add 2) H1 fun (x3 : Int) =>
 Ld (.int .i64) ((adr b1).add 1) H1 fun (x4 : Int) =>
 Br (decide (x3 ≥ x4)) (
 Ld (.int .i64) ((adr b1).add 2) H1 fun (x5 : Int) =>
 kk1 (decide (x5 ≤ 32)) H1) (
 kk1 false H1)) (
 kk1 false H1)) (
 kk1 false H1)) fun j1 H2 =>
 k j1 H2
def h_code_sized : Hint := (.two .no (.two (.join [(2, (.c .bool))] .no) .no))
theorem cQd4 (r_ : ByteArray × Int × Int × Sl) {H : Heap} {k : Bool → Heap → Prop} (h : vQd4 r_ H k) : CallT Pg fQea [.agg #[.string r_.1, .int .i64 r_.2.1, .int .i64 r_.2.2.1, slV r_.2.2.2]] (.one (.c .bool)) H k :=
 call_of_E (h := h_code_sized) Pg_mixed Tryz.func178 (by kernel_rfl) (by kernel_rfl) (by kernel_rfl) (by kernel_rfl) (Eq.mpr (by kernel_rfl) h)
def vQd5 (i_ : Int × Int) (H : Heap) (k : Bool → Heap → Prop) : Prop :=
 Nw #[.int .i64 i_.1, .int .i64 i_.2] TQag H fun b1 H1 =>
 Jn (σ := Bool) (fun kk1 =>
 Ld (.int .i64) (adr b1) H1 fun (x1 : Int) =>
 CallT Pg fQax [.int .i64 x1] (.one (.c .bool)) H1 fun (r1 : Bool) H3 =>
 Br r1 (
 Ld (.int .i64) (adr b1) H3 fun (x2 : Int) =>
 CallT Pg fQay [.int .i64 x2] (.one (.agg [.str, .bool, (.int .i64), (.int .i64), (.int .i64)])) H3 fun (r2 : ByteArray × Bool × Int × Int × Int) H4 =>
 Br r2.2.1 (
 kk1 true H4) (
 Ld (.int .i64) ((adr b1).add 1) H4 fun (x3 : Int) =>
 kk1 (x3 == 0) H4)) (
 kk1 false H3)) fun j1 H2 =>
 k j1 H2
def h_code_instr : Hint := (.two .no (.two (.join [(2, (.c .bool))] .no) .no))
theorem cQd5 (i_ : Int × Int) {H : Heap} {k : Bool → Heap → Prop} (h : vQd5 i_ H k) : CallT Pg fQeb [.agg #[.int .i64 i_.1, .int .i64 i_.2]] (.one (.c .bool)) H k :=
 call_of_E (h := h_code_instr) Pg_mixed Tryz.func179 (by kernel_rfl) (by kernel_rfl) (by kernel_rfl) (by kernel_rfl) (Eq.mpr (by kernel_rfl) h)
def vQd6 (b_ : Sl) (n_ : Int) (H : Heap) (k : Sl → Heap → Prop) : Prop :=
 LoopT (σ := Sl × Int) (fun next1 s1 H1 =>
 Br (decide (s1.2 ≥ 128)) (
 Lt (bits .or .u8 (IntKind.wrap .u8 s1.2) 128) fun t1 =>
 Nw #[.int .u8 t1] TQbd H1 fun b1 H2 =>
 App TQbd 1 1 #[.int .u8 0] s1.1 ⟨some (adr b1), 1, 1⟩ H2 fun l1 H3 =>
 ShR .u64 s1.2 7 fun t2 =>
 next1 (l1, t2) H3) (
 Nw #[.int .u8 (IntKind.wrap .u8 s1.2)] TQbd H1 fun b2 H4 =>
 App TQbd 1 1 #[.int .u8 0] s1.1 ⟨some (adr b2), 1, 1⟩ H4 fun l2 H5 =>
 k l2 H5)) (b_, n_) H
def h_pack_add : Hint := (.two .no (.two (.one (.loop [(0, (.c .sl)), (1, (.c (.int .u64)))] .no)) .no))
theorem cQd6 (b_ : Sl) (n_ : Int) {H : Heap} {k : Sl → Heap → Prop} (h : vQd6 b_ n_ H k) : CallT Pg fQec [slV b_, .int .u64 n_] (.one (.c .sl)) H k :=
 call_of_E (h := h_pack_add) Pg_mixed Tryz.func180 (by kernel_rfl) (by kernel_rfl) (by kernel_rfl) (by kernel_rfl) (Eq.mpr (by kernel_rfl) h)
def vQd7 (b_ : Sl) (H : Heap) (k : Sl → Heap → Prop) : Prop :=
 App TQbd 1 1 #[.int .u8 0] ⟨none, 0, 0⟩ b_ H fun l1 H1 =>
 k l1 H1
def h_pack_fresh : Hint := .no
theorem cQd7 (b_ : Sl) {H : Heap} {k : Sl → Heap → Prop} (h : vQd7 b_ H k) : CallT Pg fQed [slV b_] (.one (.c .sl)) H k :=
 call_of_E (h := h_pack_fresh) Pg_mixed Tryz.func181 (by kernel_rfl) (by kernel_rfl) (by kernel_rfl) (by kernel_rfl) (Eq.mpr (by kernel_rfl) h)
def vQd8 (n_ : Int) (H : Heap) (k : Int → Heap → Prop) : Prop :=
 ShL .i64 n_ 1 fun t1 =>
 ShR .i64 n_ 63 fun t2 =>
 Lt (bits .xor .u64 (IntKind.wrap .u64 t1) (IntKind.wrap .u64 t2)) fun t3 =>
 k t3 H
def h_pack_signed : Hint := .no
theorem cQd8 (n_ : Int) {H : Heap} {k : Int → Heap → Prop} (h : vQd8 n_ H k) : CallT Pg fQee [.int .i64 n_] (.one (.c (.int .u64))) H k :=
 call_of_E (h := h_pack_signed) Pg_mixed Tryz.func182 (by kernel_rfl) (by kernel_rfl) (by kernel_rfl) (by kernel_rfl) (Eq.mpr (by kernel_rfl) h)
def vQd9 (l_ : Sl) (free0_ : Addr) (H : Heap) (k : Bool → Heap → Prop) : Prop :=
 Ld (.int .i64) free0_ H fun (x1 : Int) =>
 Quo .i64 x1 8 fun t1 =>
 CallT Pg fQcr [slV l_, .int .i64 t1] (.one (.c .bool)) H fun (r1 : Bool) H1 =>
 k r1 H1
def h_verify_checker_declared_1 : Hint := .no
theorem cQd9 (l_ : Sl) (free0_ : Addr) {H : Heap} {k : Bool → Heap → Prop} (h : vQd9 l_ free0_ H k) : CallT Pg fQef [slV l_, .pointer (some free0_)] (.one (.c .bool)) H k :=
 call_of_E (h := h_verify_checker_declared_1) Pg_mixed Tryz.func183 (by kernel_rfl) (by kernel_rfl) (by kernel_rfl) (by kernel_rfl) (Eq.mpr (by kernel_rfl) h)
def vQea (f_ : Option Addr) (at_ : Int) (depth_ : Int) (H : Heap) (k : Int × Bool → Heap → Prop) : Prop :=
 NilCk f_ fun a1 =>
 Ld .sl (a1.add 3) H fun (x1 : Sl) =>
 IxA 2 x1 at_ fun a2 =>
 LdC [(.int .i64), (.int .i64)] a2 H fun (c1 : Int × Int) =>
 NilCk f_ fun a3 =>
 Ld .sl (a3.add 4) H fun (x2 : Sl) =>
 CallT Pg fQaj [.agg #[.int .i64 c1.1, .int .i64 c1.2], slV x2] (.tup [(.c (.int .i64)), (.c (.int .i64))]) H fun (r1 : Int × Int) H1 =>
 Stab [(a1.add 3, slV x1)] H1 <|
 Lt (IntKind.wrap .i64 (depth_ - r1.1)) fun t1 =>
 Lt (IntKind.wrap .i64 (t1 + r1.2)) fun t2 =>
 Jn (σ := Int × Bool) (fun kk1 =>
 Br (decide (depth_ ≥ r1.1)) (
 kk1 ((t2, decide (t2 ≤ 64))) H1) (
 kk1 (t2, false) H1)) fun j1 H2 =>
 k (j1.1, j1.2) H2
def h_verify_flow_fits : Hint := (.two .no (.two .no (.two .no (.two (.join [(6, (.c (.int .i64))), (7, (.c .bool))] .no) .no))))
theorem cQea (f_ : Option Addr) (at_ : Int) (depth_ : Int) {H : Heap} {k : Int × Bool → Heap → Prop} (h : vQea f_ at_ depth_ H k) : CallT Pg fQeg [.pointer f_, .int .i64 at_, .int .i64 depth_] (.tup [(.c (.int .i64)), (.c .bool)]) H k :=
 call_of_E (h := h_verify_flow_fits) Pg_mixed Tryz.func184 (by kernel_rfl) (by kernel_rfl) (by kernel_rfl) (by kernel_rfl) (Eq.mpr (by kernel_rfl) h)
def vQeb (r_ : ByteArray × Int × Int × Sl) (at_ : Int) (H : Heap) (k : Bool → Heap → Prop) : Prop :=
 Nw #[.string r_.1, .int .i64 r_.2.1, .int .i64 r_.2.2.1, slV r_.2.2.2] TQak H fun b1 H1 =>
 Jn (σ := Bool) (fun kk1 =>
 Br (decide (at_ ≥ 0)) (
 Ld .sl ((adr b1).add 3) H1 fun (x1 : Sl) =>
 kk1 (decide (at_ < (x1.len : Int))) H1) (
 kk1 false H1)) fun j1 H2 =>
 k j1 H2
def h_verify_there : Hint := (.two .no (.two (.join [(4, (.c .bool))] .no) .no))
theorem cQeb (r_ : ByteArray × Int × Int × Sl) (at_ : Int) {H : Heap} {k : Bool → Heap → Prop} (h : vQeb r_ at_ H k) : CallT Pg fQeh [.agg #[.string r_.1, .int .i64 r_.2.1, .int .i64 r_.2.2.1, slV r_.2.2.2], .int .i64 at_] (.one (.c .bool)) H k :=
 call_of_E (h := h_verify_there) Pg_mixed Tryz.func185 (by kernel_rfl) (by kernel_rfl) (by kernel_rfl) (by kernel_rfl) (Eq.mpr (by kernel_rfl) h)
def vQec (f_ : Option Addr) (at_ : Int) (H : Heap) (k : Int → Heap → Prop) : Prop :=
 NilCk f_ fun a1 =>
 Ld .sl (a1.add 3) H fun (x1 : Sl) =>
 IxA 2 x1 at_ fun a2 =>
 LdC [(.int .i64), (.int .i64)] a2 H fun (c1 : Int × Int) =>
 Nw #[.int .i64 0, .int .i64 0] TQag H fun b1 H1 =>
 St ((adr b1).add 0) (.int .i64 c1.1) H1 fun H2 =>
 St ((adr b1).add 1) (.int .i64 c1.2) H2 fun H3 =>
 Jn (σ := Bool) (fun kk1 =>
 LdC [(.int .i64), (.int .i64)] (adr b1) H3 fun (c2 : Int × Int) =>
 CallT Pg fQdl [.agg #[.int .i64 c2.1, .int .i64 c2.2]] (.one (.c .bool)) H3 fun (r1 : Bool) H5 =>
 Br r1 (
 NilCk f_ fun a3 =>
 LdC [.str, (.int .i64), (.int .i64), .sl] a3 H5 fun (c3 : ByteArray × Int × Int × Sl) =>
 Ld (.int .i64) ((adr b1).add 1) H5 fun (x2 : Int) =>
 CallT Pg fQeh [.agg #[.string c3.1, .int .i64 c3.2.1, .int .i64 c3.2.2.1, slV c3.2.2.2], .int .i64 x2] (.one (.c .bool)) H5 fun (r2 : Bool) H6 =>
 Stab [((adr b1).add 0, .int .i64 c2.1), ((adr b1).add 1, .int .i64 c2.2)] H6 <|
 kk1 (!r2) H6) (
 kk1 false H5)) fun j1 H4 =>
 Br j1 (
 k 150 H4) (
 NilCk f_ fun a4 =>
 Ld .sl (a4.add 5) H4 fun (x3 : Sl) =>
 IxA 1 x3 at_ fun a5 =>
 Ld .raw a5 H4 fun (x4 : Value) =>
 MpR x4 H4 fun a6 H7 =>
 LoopT (σ := Unit) (fun next1 s1 H8 =>
 MpXk a6 H8 (fun H9 =>
 NilCk f_ fun a7 =>
 LdC [.str, (.int .i64), (.int .i64), .sl] a7 H9 fun (c4 : ByteArray × Int × Int × Sl) =>
 NilCk f_ fun a8 =>
 Ld .sl (a8.add 3) H9 fun (x6 : Sl) =>
 CallT Pg fQd7 [.agg #[.string c4.1, .int .i64 c4.2.1, .int .i64 c4.2.2.1, slV c4.2.2.2], .int .i64 at_] (.one (.c .sl)) H9 fun (r3 : Sl) H11 =>
 Stab [(a8.add 3, slV x6)] H11 <|
 CallT Pg fQek [slV r3, .int .i64 (x6.len : Int)] (.one (.c .bool)) H11 fun (r4 : Bool) H12 =>
 Stab [(a8.add 3, slV x6), (a7.add 0, .string c4.1), (a7.add 1, .int .i64 c4.2.1), (a7.add 2, .int .i64 c4.2.2.1), (a7.add 3, slV c4.2.2.2)] H12 <|
 Br r4 (
 k 153 H12) (
 k 0 H12)) fun (x5 : Value) (y1 : Value) H10 =>
 MpC a6 H10 fun (x7 : Value) (y2 : Value) =>
 AsI .i64 x7 fun n1 =>
 CallT Pg fQeg [.pointer f_, .int .i64 at_, .int .i64 n1] (.tup [(.c (.int .i64)), (.c .bool)]) H10 fun (r5 : Int × Bool) H13 =>
 Jn (σ := Bool) (fun kk2 =>
 Br (!r5.2) (
 kk2 true H13) (
 NilCk f_ fun a9 =>
 Ld .sl (a9.add 5) H13 fun (x8 : Sl) =>
 IxA 1 x8 at_ fun a10 =>
 Ld .raw a10 H13 fun (x9 : Value) =>
 MpN x9 H13 fun n2 =>
 kk2 (decide (n2 > 1)) H13)) fun j2 H14 =>
 Br j2 (
 k 151 H14) (
 next1 () H14)) () H7)
def h_verify_flow_wrong : Hint := (.two .no (.two .no (.two (.two (.join [(28, (.c .bool))] .no) .no) (.two (.two .no (.one (.loop [] (.two .no (.two .no (.one (.two .no (.two .no (.two (.join [(60, (.c .bool))] .no) .no))))))))) .no))))
theorem cQec (f_ : Option Addr) (at_ : Int) {H : Heap} {k : Int → Heap → Prop} (h : vQec f_ at_ H k) : CallT Pg fQei [.pointer f_, .int .i64 at_] (.one (.c (.int .i64))) H k :=
 call_of_E (h := h_verify_flow_wrong) Pg_mixed Tryz.func186 (by kernel_rfl) (by kernel_rfl) (by kernel_rfl) (by kernel_rfl) (Eq.mpr (by kernel_rfl) h)
def vQed (s_ : Sl) (v_ : ByteArray) (H : Heap) (k : Int → Heap → Prop) : Prop :=
 LoopT (σ := Int) (fun next1 s1 H1 =>
 Br (decide (s1 < (s_.len : Int))) (
 IxA 1 s_ s1 fun a1 =>
 Ld .str a1 H1 fun (x1 : ByteArray) =>
 Br (v_.toList == x1.toList) (
 k s1 H1) (
 Lt (IntKind.wrap .i64 (s1 + 1)) fun t1 =>
 next1 t1 H1)) (
 k (-1) H1)) 0 H
def h_slices_Index_Sl_string_string : Hint := (.two .no (.two (.two .no (.one (.loop [(8, (.c (.int .i64)))] .no))) .no))
theorem cQed (s_ : Sl) (v_ : ByteArray) {H : Heap} {k : Int → Heap → Prop} (h : vQed s_ v_ H k) : CallT Pg fQej [slV s_, .string v_] (.one (.c (.int .i64))) H k :=
 call_of_E (h := h_slices_Index_Sl_string_string) Pg_mixed Tryz.func199 (by kernel_rfl) (by kernel_rfl) (by kernel_rfl) (by kernel_rfl) (Eq.mpr (by kernel_rfl) h)
def vQee (s_ : Sl) (v_ : Int) (H : Heap) (k : Bool → Heap → Prop) : Prop :=
 CallT Pg fQel [slV s_, .int .i64 v_] (.one (.c (.int .i64))) H fun (r1 : Int) H1 =>
 k (decide (r1 ≥ 0)) H1
def h_slices_Contains_Sl_int64_int64 : Hint := .no
theorem cQee (s_ : Sl) (v_ : Int) {H : Heap} {k : Bool → Heap → Prop} (h : vQee s_ v_ H k) : CallT Pg fQek [slV s_, .int .i64 v_] (.one (.c .bool)) H k :=
 call_of_E (h := h_slices_Contains_Sl_int64_int64) Pg_mixed Tryz.func200 (by kernel_rfl) (by kernel_rfl) (by kernel_rfl) (by kernel_rfl) (Eq.mpr (by kernel_rfl) h)
def vQef (s_ : Sl) (v_ : Int) (H : Heap) (k : Int → Heap → Prop) : Prop :=
 LoopT (σ := Int) (fun next1 s1 H1 =>
 Br (decide (s1 < (s_.len : Int))) (
 IxA 1 s_ s1 fun a1 =>
 Ld (.int .i64) a1 H1 fun (x1 : Int) =>
 Br (v_ == x1) (
 k s1 H1) (
 Lt (IntKind.wrap .i64 (s1 + 1)) fun t1 =>
 next1 t1 H1)) (
 k (-1) H1)) 0 H
def h_slices_Index_Sl_int64_int64 : Hint := (.two .no (.two (.two .no (.one (.loop [(8, (.c (.int .i64)))] .no))) .no))
theorem cQef (s_ : Sl) (v_ : Int) {H : Heap} {k : Int → Heap → Prop} (h : vQef s_ v_ H k) : CallT Pg fQel [slV s_, .int .i64 v_] (.one (.c (.int .i64))) H k :=
 call_of_E (h := h_slices_Index_Sl_int64_int64) Pg_mixed Tryz.func203 (by kernel_rfl) (by kernel_rfl) (by kernel_rfl) (by kernel_rfl) (Eq.mpr (by kernel_rfl) h)
end
end Go.Proofs.YtfpmgpblhhcpgaaGreat
