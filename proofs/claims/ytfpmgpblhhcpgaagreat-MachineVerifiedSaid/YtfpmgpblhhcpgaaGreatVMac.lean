import Derived.Test.YtfpmgpblhhcpgaaGreatHcLists
import Derived.KernelRfl
import Derived.Test.YtfpmgpblhhcpgaaGreatProg
namespace Go.Proofs.YtfpmgpblhhcpgaaGreat
set_option linter.unusedVariables false
set_option linter.unusedSimpArgs false
set_option maxRecDepth 100000
section
open Hc
noncomputable abbrev Pg : Program := Tryz.prog
abbrev TQaa : TypeId := 95
abbrev TQab : TypeId := 53
abbrev TQac : TypeId := 104
abbrev TQad : TypeId := 28
abbrev TQae : TypeId := 33
abbrev TQaf : TypeId := 63
abbrev TQag : TypeId := 74
abbrev TQah : TypeId := 41
abbrev TQai : TypeId := 60
abbrev TQaj : TypeId := 25
abbrev TQak : TypeId := 52
abbrev TQal : TypeId := 201
abbrev TQam : TypeId := 141
abbrev TQan : TypeId := 208
abbrev TQao : TypeId := 206
abbrev TQap : TypeId := 3
abbrev TQaq : TypeId := 2
abbrev TQar : TypeId := 143
abbrev TQas : TypeId := 149
abbrev TQat : TypeId := 92
abbrev fQaa : FuncId := 12
abbrev fQab : FuncId := 28
abbrev fQac : FuncId := 29
abbrev fQad : FuncId := 30
abbrev fQae : FuncId := 31
abbrev fQaf : FuncId := 32
abbrev fQag : FuncId := 55
abbrev fQah : FuncId := 56
abbrev fQai : FuncId := 57
abbrev fQaj : FuncId := 58
abbrev fQak : FuncId := 59
abbrev fQal : FuncId := 60
abbrev fQam : FuncId := 61
abbrev fQan : FuncId := 62
abbrev fQao : FuncId := 63
abbrev fQap : FuncId := 64
abbrev fQaq : FuncId := 65
abbrev fQar : FuncId := 66
abbrev fQas : FuncId := 67
abbrev fQat : FuncId := 68
abbrev fQau : FuncId := 69
abbrev fQav : FuncId := 70
abbrev fQaw : FuncId := 71
abbrev fQax : FuncId := 96
abbrev fQay : FuncId := 97
abbrev fQaz : FuncId := 98
abbrev fQa0 : FuncId := 99
abbrev fQa1 : FuncId := 100
abbrev fQa2 : FuncId := 101
abbrev fQa3 : FuncId := 109
abbrev fQa4 : FuncId := 112
abbrev fQa5 : FuncId := 114
abbrev fQa6 : FuncId := 115
abbrev fQa7 : FuncId := 116
abbrev fQa8 : FuncId := 117
abbrev fQa9 : FuncId := 118
abbrev fQba : FuncId := 119
abbrev fQbb : FuncId := 120
abbrev fQbc : FuncId := 147
abbrev fQbd : FuncId := 148
abbrev fQbe : FuncId := 149
abbrev fQbf : FuncId := 160
abbrev fQbg : FuncId := 161
abbrev fQbh : FuncId := 163
abbrev fQbi : FuncId := 189
abbrev fQbj : FuncId := 192
abbrev fQbk : FuncId := 193
theorem Pg_mixed : Pg.follows .mixedOrders = true := by kernel_rfl
def vQaa (p_ : Sl × Sl) (system_ : Int) (e_ : Int × Int × Int × Sl × Int × Int × Sl) (H : Heap) (k : Sl × Sl × Sl × Int × Int → Heap → Prop) : Prop :=
 Nw #[slV p_.1, slV p_.2] TQaj H fun b1 H1 =>
 Nw #[.int .i64 e_.1, .int .i64 e_.2.1, .int .i64 e_.2.2.1, slV e_.2.2.2.1, .int .i64 e_.2.2.2.2.1, .int .i64 e_.2.2.2.2.2.1, slV e_.2.2.2.2.2.2] TQae H1 fun b2 H2 =>
 Nw #[.slice none 0 0, .slice none 0 0, .slice none 0 0, .int .i64 0, .int .i64 0] TQah H2 fun b3 H3 =>
 Jn (σ := Bool) (fun kk1 =>
 Br (decide (system_ < 0)) (
 kk1 true H3) (
 Ld .sl (adr b1) H3 fun (x1 : Sl) =>
 kk1 (decide (system_ ≥ (x1.len : Int))) H3)) fun j1 H4 =>
 Br j1 (
 St ((adr b3).add 0) (.slice none 0 0) H4 fun H5 =>
 St ((adr b3).add 1) (.slice none 0 0) H5 fun H6 =>
 St ((adr b3).add 2) (.slice none 0 0) H6 fun H7 =>
 St ((adr b3).add 3) (.int .i64 0) H7 fun H8 =>
 St ((adr b3).add 4) (.int .i64 190) H8 fun H9 =>
 LdC [.sl, .sl, .sl, (.int .i64), (.int .i64)] (adr b3) H9 fun (c1 : Sl × Sl × Sl × Int × Int) =>
 k (c1.1, c1.2.1, c1.2.2.1, c1.2.2.2.1, c1.2.2.2.2) H9) (
 LdC [.sl, .sl] (adr b1) H4 fun (c2 : Sl × Sl) =>
 Ld .sl (adr b1) H4 fun (x2 : Sl) =>
 IxA 8 x2 system_ fun a1 =>
 LdC [.sl, .sl, .sl, .sl, .str, (.int .i64), (.int .i64), .sl] a1 H4 fun (c3 : Sl × Sl × Sl × Sl × ByteArray × Int × Int × Sl) =>
 LdC [(.int .i64), (.int .i64), (.int .i64), .sl, (.int .i64), (.int .i64), .sl] (adr b2) H4 fun (c4 : Int × Int × Int × Sl × Int × Int × Sl) =>
 MkM H4 fun m1 H10 =>
 Stab [((adr b2).add 0, .int .i64 c4.1), ((adr b2).add 1, .int .i64 c4.2.1), ((adr b2).add 2, .int .i64 c4.2.2.1), ((adr b2).add 3, slV c4.2.2.2.1), ((adr b2).add 4, .int .i64 c4.2.2.2.2.1), ((adr b2).add 5, .int .i64 c4.2.2.2.2.2.1), ((adr b2).add 6, slV c4.2.2.2.2.2.2), (a1.add 0, slV c3.1), (a1.add 1, slV c3.2.1), (a1.add 2, slV c3.2.2.1), (a1.add 3, slV c3.2.2.2.1), (a1.add 4, .string c3.2.2.2.2.1), (a1.add 5, .int .i64 c3.2.2.2.2.2.1), (a1.add 6, .int .i64 c3.2.2.2.2.2.2.1), (a1.add 7, slV c3.2.2.2.2.2.2.2), (adr b1, slV x2), ((adr b1).add 0, slV c2.1), ((adr b1).add 1, slV c2.2)] H10 <|
 Nw #[slV c2.1, slV c2.2, slV c3.1, slV c3.2.1, slV c3.2.2.1, slV c3.2.2.2.1, .string c3.2.2.2.2.1, .int .i64 c3.2.2.2.2.2.1, .int .i64 c3.2.2.2.2.2.2.1, slV c3.2.2.2.2.2.2.2, .int .i64 system_, .int .i64 c4.1, .int .i64 c4.2.1, .int .i64 c4.2.2.1, slV c4.2.2.2.1, .int .i64 c4.2.2.2.2.1, .int .i64 c4.2.2.2.2.2.1, slV c4.2.2.2.2.2.2, m1, .slice none 0 0, .slice none 0 0, .slice none 0 0, .slice none 0 0, .slice none 0 0, .int .i64 0, .int .i64 0, .pointer none, .int .i64 0, .bool false] TQat H10 fun b4 H11 =>
 Stab [((adr b2).add 0, .int .i64 c4.1), ((adr b2).add 1, .int .i64 c4.2.1), ((adr b2).add 2, .int .i64 c4.2.2.1), ((adr b2).add 3, slV c4.2.2.2.1), ((adr b2).add 4, .int .i64 c4.2.2.2.2.1), ((adr b2).add 5, .int .i64 c4.2.2.2.2.2.1), ((adr b2).add 6, slV c4.2.2.2.2.2.2), (a1.add 0, slV c3.1), (a1.add 1, slV c3.2.1), (a1.add 2, slV c3.2.2.1), (a1.add 3, slV c3.2.2.2.1), (a1.add 4, .string c3.2.2.2.2.1), (a1.add 5, .int .i64 c3.2.2.2.2.2.1), (a1.add 6, .int .i64 c3.2.2.2.2.2.2.1), (a1.add 7, slV c3.2.2.2.2.2.2.2), (adr b1, slV x2), ((adr b1).add 0, slV c2.1), ((adr b1).add 1, slV c2.2)] H11 <|
 Ld (.int .i64) ((adr b2).add 1) H11 fun (x3 : Int) =>
 Ld (.int .i64) (adr b2) H11 fun (x4 : Int) =>
 Ld (.int .i64) ((adr b2).add 4) H11 fun (x5 : Int) =>
 CallT Pg fQab [.int .i64 x3, .int .i64 x4, .int .i64 system_, .int .i64 x5] (.one (.c .ptr)) H11 fun (r1 : Option Addr) H12 =>
 NilCk (some (adr b4)) fun a2 =>
 St (a2.add 26) (.pointer r1) H12 fun H13 =>
 Ld .sl (((adr b2).add 4).add 2) H13 fun (x6 : Sl) =>
 LoopT (σ := Int) (fun next1 s1 H14 =>
 Br (decide (s1 < (x6.len : Int))) (
 Jn (σ := Unit) (fun kk2 =>
 IxA 2 x6 s1 fun a3 =>
 LdC [(.int .i64), .sl] a3 H14 fun (c5 : Int × Sl) =>
 Nw #[.int .i64 0, .slice none 0 0] TQai H14 fun b5 H16 =>
 St ((adr b5).add 0) (.int .i64 c5.1) H16 fun H17 =>
 St ((adr b5).add 1) (slV c5.2) H17 fun H18 =>
 NilCk (some (adr b4)) fun a4 =>
 Ld .raw (a4.add 18) H18 fun (x7 : Value) =>
 Ld (.int .i64) (adr b5) H18 fun (x8 : Int) =>
 MpL (.int .i64) (.c .sl) ⟨none, 0, 0⟩ x7 (.int .i64 x8) H18 fun (x9 : Sl) e1 =>
 Jn (σ := Unit) (fun kk3 =>
 Br (!e1) (
 NilCk (some (adr b4)) fun a5 =>
 Ld .raw (a5.add 18) H18 fun (x10 : Value) =>
 Ld (.int .i64) (adr b5) H18 fun (x11 : Int) =>
 Ld .sl ((adr b5).add 1) H18 fun (x12 : Sl) =>
 Nw #[] TQaq H18 fun b6 H20 =>
 Stab [((adr b5).add 1, slV x12), (adr b5, .int .i64 x11), (a5.add 18, x10)] H20 <|
 App TQaq 1 8 #[.int .i64 0] ⟨some (adr b6), 0, 0⟩ x12 H20 fun l1 H21 =>
 Stab [(adr b5, .int .i64 x11), (a5.add 18, x10)] H21 <|
 MpU (.int .i64) x10 (.int .i64 x11) (slV l1) H21 fun H22 =>
 kk3 () H22) (
 kk3 () H18)) fun j3 H19 =>
 kk2 () H19) fun j2 H15 =>
 Lt (IntKind.wrap .i64 (s1 + 1)) fun t1 =>
 next1 t1 H15) (
 NilCk (some (adr b4)) fun a6 =>
 LdC [.str, (.int .i64), (.int .i64), .sl] ((a6.add 2).add 4) H14 fun (c6 : ByteArray × Int × Int × Sl) =>
 CallT Pg fQac [.agg #[.string c6.1, .int .i64 c6.2.1, .int .i64 c6.2.2.1, slV c6.2.2.2], .slice none 0 0, .int .i64 0] (.one (.c .ptr)) H14 fun (r2 : Option Addr) H23 =>
 Nw #[.pointer r2] TQaa H23 fun b7 H24 =>
 NilCk (some (adr b4)) fun a7 =>
 St (a7.add 19) (.slice (some (adr b7)) 1 1) H24 fun H25 =>
 LoopT (σ := Unit) (fun next2 s2 H26 =>
 NilCk (some (adr b4)) fun a8 =>
 Ld .bool (a8.add 28) H26 fun (x13 : Bool) =>
 Br (!x13) (
 CallT Pg fQad [.pointer (some (adr b4))] (.tup [(.agg [(.int .i64), (.int .i64)]), (.c (.int .i64))]) H26 fun (r3 : (Int × Int) × Int) H27 =>
 Nw #[.int .i64 0, .int .i64 0] TQag H27 fun b8 H28 =>
 St ((adr b8).add 0) (.int .i64 r3.1.1) H28 fun H29 =>
 St ((adr b8).add 1) (.int .i64 r3.1.2) H29 fun H30 =>
 Jn (σ := Int) (fun kk4 =>
 Br (r3.2 == 0) (
 LdC [(.int .i64), (.int .i64)] (adr b8) H30 fun (c7 : Int × Int) =>
 CallT Pg fQae [.pointer (some (adr b4)), .agg #[.int .i64 c7.1, .int .i64 c7.2]] (.tup []) H30 fun (r4 : Unit) H32 =>
 NilCk (some (adr b4)) fun a9 =>
 Ld (.int .i64) ((a9.add 21).add 4) H32 fun (x14 : Int) =>
 kk4 x14 H32) (
 kk4 r3.2 H30)) fun j4 H31 =>
 Br (j4 != 0) (
 NilCk (some (adr b4)) fun a10 =>
 Ld (.int .i64) ((a10.add 21).add 3) H31 fun (x15 : Int) =>
 St ((adr b3).add 0) (.slice none 0 0) H31 fun H33 =>
 St ((adr b3).add 1) (.slice none 0 0) H33 fun H34 =>
 St ((adr b3).add 2) (.slice none 0 0) H34 fun H35 =>
 St ((adr b3).add 3) (.int .i64 x15) H35 fun H36 =>
 St ((adr b3).add 4) (.int .i64 j4) H36 fun H37 =>
 LdC [.sl, .sl, .sl, (.int .i64), (.int .i64)] (adr b3) H37 fun (c8 : Sl × Sl × Sl × Int × Int) =>
 k (c8.1, c8.2.1, c8.2.2.1, c8.2.2.2.1, c8.2.2.2.2) H37) (
 next2 () H31)) (
 CallT Pg fQaf [.pointer (some (adr b4))] (.one (.c .sl)) H26 fun (r5 : Sl) H38 =>
 NilCk (some (adr b4)) fun a11 =>
 St (a11.add 21) (slV r5) H38 fun H39 =>
 NilCk (some (adr b4)) fun a12 =>
 LdC [.sl, .sl, .sl, (.int .i64), (.int .i64)] (a12.add 21) H39 fun (c9 : Sl × Sl × Sl × Int × Int) =>
 St ((adr b3).add 0) (slV c9.1) H39 fun H40 =>
 St ((adr b3).add 1) (slV c9.2.1) H40 fun H41 =>
 St ((adr b3).add 2) (slV c9.2.2.1) H41 fun H42 =>
 St ((adr b3).add 3) (.int .i64 c9.2.2.2.1) H42 fun H43 =>
 St ((adr b3).add 4) (.int .i64 c9.2.2.2.2) H43 fun H44 =>
 LdC [.sl, .sl, .sl, (.int .i64), (.int .i64)] (adr b3) H44 fun (c10 : Sl × Sl × Sl × Int × Int) =>
 k (c10.1, c10.2.1, c10.2.2.1, c10.2.2.2.1, c10.2.2.2.2) H44)) () H25)) 0 H13)
def h_machine_Run : Hint := (.two .no (.two (.two (.join [(22, (.c .bool))] .no) .no) (.two .no (.two .no (.two (.two .no (.one (.loop [(52, (.c (.int .i64)))] (.two .no (.two .no (.two (.join [] (.one (.two .no (.two .no (.two .no (.join [] .no)))))) .no)))))) (.two .no (.two (.one (.loop [] (.two .no (.one (.two .no (.two (.two .no (.join [(13, (.c (.int .i64)))] .no)) .no)))))) .no)))))))
theorem cQaa (p_ : Sl × Sl) (system_ : Int) (e_ : Int × Int × Int × Sl × Int × Int × Sl) {H : Heap} {k : Sl × Sl × Sl × Int × Int → Heap → Prop} (h : vQaa p_ system_ e_ H k) : CallT Pg fQaa [.agg #[slV p_.1, slV p_.2], .int .i64 system_, .agg #[.int .i64 e_.1, .int .i64 e_.2.1, .int .i64 e_.2.2.1, slV e_.2.2.2.1, .int .i64 e_.2.2.2.2.1, .int .i64 e_.2.2.2.2.2.1, slV e_.2.2.2.2.2.2]] (.one (.agg [.sl, .sl, .sl, (.int .i64), (.int .i64)])) H k :=
 call_of_E (h := h_machine_Run) Pg_mixed Tryz.func12 (by kernel_rfl) (by kernel_rfl) (by kernel_rfl) (by kernel_rfl) (Eq.mpr (by kernel_rfl) h)
def vQab (seed_ : Int) (frame_ : Int) (system_ : Int) (index_ : Int) (H : Heap) (k : Option Addr → Heap → Prop) : Prop :=
 CallT Pg fQag [.int .u64 (IntKind.wrap .u64 seed_)] (.one (.c (.int .u64))) H fun (r1 : Int) H1 =>
 LoopT (σ := Int × Int) (fun next1 s1 H2 =>
 Br (decide (s1.2 < 3)) (
 ArI (.int .i64) 3 #[.int .i64 frame_, .int .i64 system_, .int .i64 index_] s1.2 fun (b1 : Int) =>
 Lt (bits .xor .u64 s1.1 (IntKind.wrap .u64 b1)) fun t1 =>
 CallT Pg fQag [.int .u64 t1] (.one (.c (.int .u64))) H2 fun (r2 : Int) H3 =>
 Lt (IntKind.wrap .i64 (s1.2 + 1)) fun t2 =>
 next1 (r2, t2) H3) (
 Nw #[.int .u64 s1.1] TQam H2 fun b2 H4 =>
 k (some (adr b2)) H4)) (r1, 0) H1
def h_dice_New : Hint := (.two .no (.two .no (.two (.two .no (.one (.loop [(9, (.c (.int .u64))), (19, (.c (.int .i64)))] .no))) .no)))
theorem cQab (seed_ : Int) (frame_ : Int) (system_ : Int) (index_ : Int) {H : Heap} {k : Option Addr → Heap → Prop} (h : vQab seed_ frame_ system_ index_ H k) : CallT Pg fQab [.int .i64 seed_, .int .i64 frame_, .int .i64 system_, .int .i64 index_] (.one (.c .ptr)) H k :=
 call_of_E (h := h_dice_New) Pg_mixed Tryz.func28 (by kernel_rfl) (by kernel_rfl) (by kernel_rfl) (by kernel_rfl) (Eq.mpr (by kernel_rfl) h)
def vQac (r_ : ByteArray × Int × Int × Sl) (params_ : Sl) (locals_ : Int) (H : Heap) (k : Option Addr → Heap → Prop) : Prop :=
 Nw #[.string r_.1, .int .i64 r_.2.1, .int .i64 r_.2.2.1, slV r_.2.2.2] TQak H fun b1 H1 =>
 LdC [.str, (.int .i64), (.int .i64), .sl] (adr b1) H1 fun (c1 : ByteArray × Int × Int × Sl) =>
 Ld (.int .i64) ((adr b1).add 2) H1 fun (x1 : Int) =>
 Mks TQaq 1 8 #[.int .i64 0] ((if (if 32 < locals_ then locals_ else 32) < (if (if x1 < 0 then 0 else x1) < locals_ then locals_ else (if x1 < 0 then 0 else x1)) then (if 32 < locals_ then locals_ else 32) else (if (if x1 < 0 then 0 else x1) < locals_ then locals_ else (if x1 < 0 then 0 else x1)))) ((if (if 32 < locals_ then locals_ else 32) < (if (if x1 < 0 then 0 else x1) < locals_ then locals_ else (if x1 < 0 then 0 else x1)) then (if 32 < locals_ then locals_ else 32) else (if (if x1 < 0 then 0 else x1) < locals_ then locals_ else (if x1 < 0 then 0 else x1)))) H1 fun l1 H2 =>
 Stab [((adr b1).add 2, .int .i64 x1), ((adr b1).add 0, .string c1.1), ((adr b1).add 1, .int .i64 c1.2.1), ((adr b1).add 2, .int .i64 c1.2.2.1), ((adr b1).add 3, slV c1.2.2.2)] H2 <|
 Nw #[.string c1.1, .int .i64 c1.2.1, .int .i64 c1.2.2.1, slV c1.2.2.2, slV l1, .slice none 0 0, .int .i64 0] TQar H2 fun b2 H3 =>
 Stab [((adr b1).add 2, .int .i64 x1), ((adr b1).add 0, .string c1.1), ((adr b1).add 1, .int .i64 c1.2.1), ((adr b1).add 2, .int .i64 c1.2.2.1), ((adr b1).add 3, slV c1.2.2.2)] H3 <|
 NilCk (some (adr b2)) fun a1 =>
 Ld .sl (a1.add 4) H3 fun (x2 : Sl) =>
 Cpy 1 x2 params_ H3 fun n1 H4 =>
 k (some (adr b2)) H4
def h_machine_activate : Hint := .no
theorem cQac (r_ : ByteArray × Int × Int × Sl) (params_ : Sl) (locals_ : Int) {H : Heap} {k : Option Addr → Heap → Prop} (h : vQac r_ params_ locals_ H k) : CallT Pg fQac [.agg #[.string r_.1, .int .i64 r_.2.1, .int .i64 r_.2.2.1, slV r_.2.2.2], slV params_, .int .i64 locals_] (.one (.c .ptr)) H k :=
 call_of_E (h := h_machine_activate) Pg_mixed Tryz.func29 (by kernel_rfl) (by kernel_rfl) (by kernel_rfl) (by kernel_rfl) (Eq.mpr (by kernel_rfl) h)
def vQad (r_ : Option Addr) (H : Heap) (k : (Int × Int) × Int → Heap → Prop) : Prop :=
 Nw #[.int .i64 0, .int .i64 0] TQag H fun b1 H1 =>
 CallT Pg fQah [.pointer r_] (.one (.c .ptr)) H1 fun (r1 : Option Addr) H2 =>
 Jn (σ := Bool) (fun kk1 =>
 NilCk r1 fun a1 =>
 Ld (.int .i64) (a1.add 6) H2 fun (x1 : Int) =>
 Br (decide (x1 < 0)) (
 kk1 true H2) (
 NilCk r1 fun a2 =>
 Ld (.int .i64) (a2.add 6) H2 fun (x2 : Int) =>
 NilCk r1 fun a3 =>
 Ld .sl (a3.add 3) H2 fun (x3 : Sl) =>
 kk1 (decide (x2 ≥ (x3.len : Int))) H2)) fun j1 H3 =>
 Br j1 (
 St ((adr b1).add 0) (.int .i64 0) H3 fun H4 =>
 St ((adr b1).add 1) (.int .i64 0) H4 fun H5 =>
 LdC [(.int .i64), (.int .i64)] (adr b1) H5 fun (c1 : Int × Int) =>
 k (((c1.1, c1.2), 150)) H5) (
 NilCk r_ fun a4 =>
 Ld (.int .i64) (a4.add 27) H3 fun (x4 : Int) =>
 Br (decide (x4 ≥ 40000)) (
 St ((adr b1).add 0) (.int .i64 0) H3 fun H6 =>
 St ((adr b1).add 1) (.int .i64 0) H6 fun H7 =>
 LdC [(.int .i64), (.int .i64)] (adr b1) H7 fun (c2 : Int × Int) =>
 k (((c2.1, c2.2), 153)) H7) (
 NilCk r1 fun a5 =>
 Ld .sl (a5.add 3) H3 fun (x5 : Sl) =>
 NilCk r1 fun a6 =>
 Ld (.int .i64) (a6.add 6) H3 fun (x6 : Int) =>
 IxA 2 x5 x6 fun a7 =>
 LdC [(.int .i64), (.int .i64)] a7 H3 fun (c3 : Int × Int) =>
 Nw #[.int .i64 0, .int .i64 0] TQag H3 fun b2 H8 =>
 Stab [(a7.add 0, .int .i64 c3.1), (a7.add 1, .int .i64 c3.2), (a6.add 6, .int .i64 x6), (a5.add 3, slV x5)] H8 <|
 St ((adr b2).add 0) (.int .i64 c3.1) H8 fun H9 =>
 St ((adr b2).add 1) (.int .i64 c3.2) H9 fun H10 =>
 Ld (.int .i64) (adr b2) H10 fun (x7 : Int) =>
 CallT Pg fQai [.int .i64 x7] (.one (.c .str)) H10 fun (r2 : ByteArray) H11 =>
 Br ((r2.toList == (⟨#[]⟩ : ByteArray).toList)) (
 LdC [(.int .i64), (.int .i64)] (adr b2) H11 fun (c4 : Int × Int) =>
 St ((adr b1).add 0) (.int .i64 c4.1) H11 fun H12 =>
 St ((adr b1).add 1) (.int .i64 c4.2) H12 fun H13 =>
 LdC [(.int .i64), (.int .i64)] (adr b1) H13 fun (c5 : Int × Int) =>
 k (((c5.1, c5.2), 152)) H13) (
 LdC [(.int .i64), (.int .i64)] (adr b2) H11 fun (c6 : Int × Int) =>
 NilCk r_ fun a8 =>
 Ld .sl (a8.add 1) H11 fun (x8 : Sl) =>
 CallT Pg fQaj [.agg #[.int .i64 c6.1, .int .i64 c6.2], slV x8] (.tup [(.c (.int .i64)), (.c (.int .i64))]) H11 fun (r3 : Int × Int) H14 =>
 Jn (σ := Bool) (fun kk2 =>
 NilCk r1 fun a9 =>
 Ld .sl (a9.add 5) H14 fun (x9 : Sl) =>
 Br (decide ((x9.len : Int) < r3.1)) (
 kk2 true H14) (
 NilCk r1 fun a10 =>
 Ld .sl (a10.add 5) H14 fun (x10 : Sl) =>
 Lt (IntKind.wrap .i64 ((x10.len : Int) - r3.1)) fun t1 =>
 Lt (IntKind.wrap .i64 (t1 + r3.2)) fun t2 =>
 kk2 (decide (t2 > 64)) H14)) fun j2 H15 =>
 Br j2 (
 LdC [(.int .i64), (.int .i64)] (adr b2) H15 fun (c7 : Int × Int) =>
 St ((adr b1).add 0) (.int .i64 c7.1) H15 fun H16 =>
 St ((adr b1).add 1) (.int .i64 c7.2) H16 fun H17 =>
 LdC [(.int .i64), (.int .i64)] (adr b1) H17 fun (c8 : Int × Int) =>
 k (((c8.1, c8.2), 151)) H17) (
 LdC [(.int .i64), (.int .i64)] (adr b2) H15 fun (c9 : Int × Int) =>
 CallT Pg fQak [.pointer r_, .agg #[.int .i64 c9.1, .int .i64 c9.2]] (.one (.c .bool)) H15 fun (r4 : Bool) H18 =>
 Br (!r4) (
 LdC [(.int .i64), (.int .i64)] (adr b2) H18 fun (c10 : Int × Int) =>
 St ((adr b1).add 0) (.int .i64 c10.1) H18 fun H19 =>
 St ((adr b1).add 1) (.int .i64 c10.2) H19 fun H20 =>
 LdC [(.int .i64), (.int .i64)] (adr b1) H20 fun (c11 : Int × Int) =>
 k (((c11.1, c11.2), 152)) H20) (
 Ld (.int .i64) (adr b2) H18 fun (x11 : Int) =>
 CallT Pg fQal [.pointer r_, .int .i64 x11] (.one (.c .bool)) H18 fun (r5 : Bool) H21 =>
 Br (!r5) (
 LdC [(.int .i64), (.int .i64)] (adr b2) H21 fun (c12 : Int × Int) =>
 St ((adr b1).add 0) (.int .i64 c12.1) H21 fun H22 =>
 St ((adr b1).add 1) (.int .i64 c12.2) H22 fun H23 =>
 LdC [(.int .i64), (.int .i64)] (adr b1) H23 fun (c13 : Int × Int) =>
 k (((c13.1, c13.2), 102)) H23) (
 LdC [(.int .i64), (.int .i64)] (adr b2) H21 fun (c14 : Int × Int) =>
 St ((adr b1).add 0) (.int .i64 c14.1) H21 fun H24 =>
 St ((adr b1).add 1) (.int .i64 c14.2) H24 fun H25 =>
 LdC [(.int .i64), (.int .i64)] (adr b1) H25 fun (c15 : Int × Int) =>
 k (((c15.1, c15.2), 0)) H25))))))
def h_machine_run_ready : Hint := (.two .no (.two .no (.two (.two (.join [(27, (.c .bool))] .no) .no) (.two .no (.two .no (.two .no (.two .no (.two (.one (.two (.join [(61, (.c .bool))] .no) .no)) .no))))))))
theorem cQad (r_ : Option Addr) {H : Heap} {k : (Int × Int) × Int → Heap → Prop} (h : vQad r_ H k) : CallT Pg fQad [.pointer r_] (.tup [(.agg [(.int .i64), (.int .i64)]), (.c (.int .i64))]) H k :=
 call_of_E (h := h_machine_run_ready) Pg_mixed Tryz.func30 (by kernel_rfl) (by kernel_rfl) (by kernel_rfl) (by kernel_rfl) (Eq.mpr (by kernel_rfl) h)
def vQae (r_ : Option Addr) (i_ : Int × Int) (H : Heap) (k : Unit → Heap → Prop) : Prop :=
 Nw #[.int .i64 i_.1, .int .i64 i_.2] TQag H fun b1 H1 =>
 CallT Pg fQah [.pointer r_] (.one (.c .ptr)) H1 fun (r1 : Option Addr) H2 =>
 NilCk r1 fun a1 =>
 Ld (.int .i64) (a1.add 6) H2 fun (x1 : Int) =>
 Lt (IntKind.wrap .i64 (x1 + 1)) fun t1 =>
 NilCk r1 fun a2 =>
 St (a2.add 6) (.int .i64 t1) H2 fun H3 =>
 NilCk r_ fun a3 =>
 Ld (.int .i64) (a3.add 27) H3 fun (x2 : Int) =>
 Lt (IntKind.wrap .i64 (x2 + 1)) fun t2 =>
 NilCk r_ fun a4 =>
 St (a4.add 27) (.int .i64 t2) H3 fun H4 =>
 Ld (.int .i64) (adr b1) H4 fun (x3 : Int) =>
 CallT Pg fQam [.int .i64 x3] (.tup [(.agg [(.int .i64), .raw]), (.c .bool)]) H4 fun (r2 : (Int × Value) × Bool) H5 =>
 Nw #[.int .i64 0, .nilFunc] TQas H5 fun b2 H6 =>
 St ((adr b2).add 0) (.int .i64 r2.1.1) H6 fun H7 =>
 StV ((adr b2).add 1) r2.1.2 H7 fun H8 =>
 Br r2.2 (
 Ld .raw ((adr b2).add 1) H8 fun (x4 : Value) =>
 Ld (.int .i64) (adr b2) H8 fun (x5 : Int) =>
 CallT Pg fQao [.pointer r1, .int .i64 x5] (.one (.c .sl)) H8 fun (r3 : Sl) H9 =>
 Stab [((adr b2).add 1, x4)] H9 <|
 CallX Pg x4 [slV r3] (.one (.c (.int .i64))) H9 fun (r4 : Int) H10 =>
 Stab [(adr b2, .int .i64 x5)] H10 <|
 CallT Pg fQan [.pointer r1, .int .i64 r4] (.tup []) H10 fun (r5 : Unit) H11 =>
 Stab [(adr b2, .int .i64 x5), ((adr b2).add 1, x4)] H11 <|
 k () H11) (
 Jn (σ := Bool) (fun kk1 =>
 LdC [(.int .i64), (.int .i64)] (adr b1) H8 fun (c1 : Int × Int) =>
 CallT Pg fQap [.pointer r_, .agg #[.int .i64 c1.1, .int .i64 c1.2]] (.one (.c .bool)) H8 fun (r6 : Bool) H13 =>
 Br r6 (
 kk1 true H13) (
 LdC [(.int .i64), (.int .i64)] (adr b1) H13 fun (c2 : Int × Int) =>
 CallT Pg fQaq [.pointer r_, .agg #[.int .i64 c2.1, .int .i64 c2.2]] (.one (.c .bool)) H13 fun (r7 : Bool) H14 =>
 kk1 r7 H14)) fun j1 H12 =>
 Br j1 (
 k () H12) (
 NilCk r_ fun a5 =>
 LdC [(.int .i64), (.int .i64)] ((a5.add 11).add 4) H12 fun (c3 : Int × Int) =>
 Nw #[.int .i64 0, .int .i64 0] TQad H12 fun b3 H15 =>
 St ((adr b3).add 0) (.int .i64 c3.1) H15 fun H16 =>
 St ((adr b3).add 1) (.int .i64 c3.2) H16 fun H17 =>
 Ld (.int .i64) (adr b1) H17 fun (x6 : Int) =>
 Jn (σ := Unit) (fun kk2 =>
 Jn (σ := Unit) (fun kk3 =>
 Br (x6 == 3) (
 NilCk r1 fun a6 =>
 Ld .sl (a6.add 4) H17 fun (x7 : Sl) =>
 Ld (.int .i64) ((adr b1).add 1) H17 fun (x8 : Int) =>
 CallT Pg fQao [.pointer r1, .int .i64 1] (.one (.c .sl)) H17 fun (r8 : Sl) H20 =>
 Stab [((adr b1).add 1, .int .i64 x8), (a6.add 4, slV x7)] H20 <|
 IxA 1 r8 0 fun a7 =>
 Ld (.int .i64) a7 H20 fun (x9 : Int) =>
 IxA 1 x7 x8 fun a8 =>
 St a8 (.int .i64 x9) H20 fun H21 =>
 kk3 () H21) (
 Jn (σ := Unit) (fun kk4 =>
 Br (x6 == 5) (
 NilCk r_ fun a9 =>
 Ld .raw (a9.add 18) H17 fun (x10 : Value) =>
 Ld (.int .i64) ((adr b1).add 1) H17 fun (x11 : Int) =>
 Quo .i64 x11 8 fun t3 =>
 Ld (.int .i64) ((adr b1).add 1) H17 fun (x12 : Int) =>
 Rem x12 8 fun t4 =>
 (
 MpL (.int .i64) (.c .sl) ⟨none, 0, 0⟩ x10 (.int .i64 t3) H17 fun (x13 : Sl) e1 =>
 Stab [((adr b1).add 1, .int .i64 x12), ((adr b1).add 1, .int .i64 x11)] H17 <|
 CallT Pg fQao [.pointer r1, .int .i64 1] (.one (.c .sl)) H17 fun (r9 : Sl) H23 =>
 Stab [((adr b1).add 1, .int .i64 x12), ((adr b1).add 1, .int .i64 x11), (a9.add 18, x10)] H23 <|
 IxA 1 r9 0 fun a10 =>
 Ld (.int .i64) a10 H23 fun (x14 : Int) =>
 IxA 1 x13 t4 fun a11 =>
 St a11 (.int .i64 x14) H23 fun H24 =>
 kk4 () H24) ∧ (
 CallT Pg fQao [.pointer r1, .int .i64 1] (.one (.c .sl)) H17 fun (r10 : Sl) H25 =>
 Stab [((adr b1).add 1, .int .i64 x12), ((adr b1).add 1, .int .i64 x11), (a9.add 18, x10)] H25 <|
 IxA 1 r10 0 fun a12 =>
 Ld (.int .i64) a12 H25 fun (x15 : Int) =>
 MpL (.int .i64) (.c .sl) ⟨none, 0, 0⟩ x10 (.int .i64 t3) H25 fun (x16 : Sl) e2 =>
 Stab [(a12, .int .i64 x15), ((adr b1).add 1, .int .i64 x12), ((adr b1).add 1, .int .i64 x11)] H25 <|
 IxA 1 x16 t4 fun a13 =>
 St a13 (.int .i64 x15) H25 fun H26 =>
 kk4 () H26) ∧ True) (
 Jn (σ := Unit) (fun kk5 =>
 Br (x6 == 25) (
 CallT Pg fQao [.pointer r1, .int .i64 2] (.one (.c .sl)) H17 fun (r11 : Sl) H28 =>
 NilCk r_ fun a14 =>
 Ld .sl ((a14.add 21).add 2) H28 fun (x17 : Sl) =>
 NilCk r_ fun a15 =>
 Ld (.int .i64) (a15.add 10) H28 fun (x18 : Int) =>
 LdC [(.int .i64), (.int .i64)] (adr b3) H28 fun (c4 : Int × Int) =>
 IxA 1 r11 0 fun a16 =>
 Ld (.int .i64) a16 H28 fun (x19 : Int) =>
 IxA 1 r11 1 fun a17 =>
 Ld (.int .i64) a17 H28 fun (x20 : Int) =>
 Nw #[.int .i64 x18, .int .i64 c4.1, .int .i64 c4.2, .int .i64 x19, .int .i64 x20] TQaf H28 fun b4 H29 =>
 Stab [(a17, .int .i64 x20), (a16, .int .i64 x19), ((adr b3).add 0, .int .i64 c4.1), ((adr b3).add 1, .int .i64 c4.2), (a15.add 10, .int .i64 x18), ((a14.add 21).add 2, slV x17)] H29 <|
 App TQaf 5 40 #[.int .i64 0, .int .i64 0, .int .i64 0, .int .i64 0, .int .i64 0] x17 ⟨some (adr b4), 1, 1⟩ H29 fun l1 H30 =>
 Stab [(a17, .int .i64 x20), (a16, .int .i64 x19), ((adr b3).add 0, .int .i64 c4.1), ((adr b3).add 1, .int .i64 c4.2), (a15.add 10, .int .i64 x18)] H30 <|
 NilCk r_ fun a18 =>
 St ((a18.add 21).add 2) (slV l1) H30 fun H31 =>
 kk5 () H31) (
 Jn (σ := Bool) (fun kk6 =>
 Br (x6 == 26) (
 kk6 true H17) (
 kk6 (x6 == 28) H17)) fun j6 H32 =>
 Jn (σ := Unit) (fun kk7 =>
 Br j6 (
 LdC [(.int .i64), (.int .i64)] (adr b1) H32 fun (c5 : Int × Int) =>
 CallT Pg fQar [.pointer r_, .agg #[.int .i64 c5.1, .int .i64 c5.2]] (.tup []) H32 fun (r12 : Unit) H34 =>
 kk7 () H34) (
 Jn (σ := Unit) (fun kk8 =>
 Br (x6 == 27) (
 CallT Pg fQas [.pointer r_] (.tup []) H32 fun (r13 : Unit) H36 =>
 kk8 () H36) (
 Jn (σ := Unit) (fun kk9 =>
 Br (x6 == 29) (
 LdC [(.int .i64), (.int .i64)] (adr b3) H32 fun (c6 : Int × Int) =>
 Ld (.int .i64) ((adr b1).add 1) H32 fun (x21 : Int) =>
 CallT Pg fQat [.pointer r_, .agg #[.int .i64 4, .int .i64 c6.1, .int .i64 c6.2, .int .i64 x21, .slice none 0 0, .slice none 0 0]] (.tup []) H32 fun (r14 : Unit) H38 =>
 kk9 () H38) (
 Jn (σ := Unit) (fun kk10 =>
 Br (x6 == 30) (
 LdC [(.int .i64), (.int .i64)] (adr b3) H32 fun (c7 : Int × Int) =>
 CallT Pg fQat [.pointer r_, .agg #[.int .i64 2, .int .i64 c7.1, .int .i64 c7.2, .int .i64 0, .slice none 0 0, .slice none 0 0]] (.tup []) H32 fun (r15 : Unit) H40 =>
 kk10 () H40) (
 Jn (σ := Unit) (fun kk11 =>
 Br (x6 == 39) (
 CallT Pg fQao [.pointer r1, .int .i64 1] (.one (.c .sl)) H32 fun (r16 : Sl) H42 =>
 kk11 () H42) (
 kk11 () H32)) fun j11 H41 =>
 kk10 () H41)) fun j10 H39 =>
 kk9 () H39)) fun j9 H37 =>
 kk8 () H37)) fun j8 H35 =>
 kk7 () H35)) fun j7 H33 =>
 kk5 () H33)) fun j5 H27 =>
 kk4 () H27)) fun j4 H22 =>
 kk3 () H22)) fun j3 H19 =>
 kk2 () H19) fun j2 H18 =>
 k () H18))
def h_machine_run_does : Hint := (.two .no (.two .no (.two .no (.two .no (.two .no (.two (.two (.join [(48, (.c .bool))] .no) .no) (.two .no (.two .no (.join [] (.one (.two .no (.join [] (.two .no (.two .no (.join [] (.two .no (.two .no (.join [] (.two .no (.two (.two .no (.join [(115, (.c .bool))] .no)) (.join [] (.two .no (.two .no (.join [] (.two .no (.two .no (.join [] (.two .no (.two .no (.join [] (.two .no (.two .no (.join [] .no)))))))))))))))))))))))))))))))))
theorem cQae (r_ : Option Addr) (i_ : Int × Int) {H : Heap} {k : Unit → Heap → Prop} (h : vQae r_ i_ H k) : CallT Pg fQae [.pointer r_, .agg #[.int .i64 i_.1, .int .i64 i_.2]] (.tup []) H k :=
 call_of_E (h := h_machine_run_does) Pg_mixed Tryz.func31 (by kernel_rfl) (by kernel_rfl) (by kernel_rfl) (by kernel_rfl) (Eq.mpr (by kernel_rfl) h)
def vQaf (r_ : Option Addr) (H : Heap) (k : Sl → Heap → Prop) : Prop :=
 NilCk r_ fun a1 =>
 Ld .sl ((a1.add 2).add 3) H fun (x1 : Sl) =>
 CallT Pg fQau [slV x1] (.one (.c .sl)) H fun (r1 : Sl) H1 =>
 CallT Pg fQav [slV r1] (.tup []) H1 fun (r2 : Unit) H2 =>
 CallT Pg fQaw [slV r1] (.one (.c .sl)) H2 fun (r3 : Sl) H3 =>
 LoopT (σ := Sl × Int) (fun next1 s1 H4 =>
 Br (decide (s1.2 < (r3.len : Int))) (
 Jn (σ := Sl) (fun kk1 =>
 IxA 1 r3 s1.2 fun a2 =>
 Ld (.int .i64) a2 H4 fun (x2 : Int) =>
 NilCk r_ fun a3 =>
 Ld .raw (a3.add 18) H4 fun (x3 : Value) =>
 MpL (.int .i64) (.c .sl) ⟨none, 0, 0⟩ x3 (.int .i64 x2) H4 fun (x4 : Sl) e1 =>
 Jn (σ := Sl) (fun kk2 =>
 Br e1 (
 Nw #[.int .i64 x2, slV x4] TQai H4 fun b1 H7 =>
 App TQai 2 32 #[.int .i64 0, .slice none 0 0] s1.1 ⟨some (adr b1), 1, 1⟩ H7 fun l1 H8 =>
 kk2 l1 H8) (
 kk2 s1.1 H4)) fun j2 H6 =>
 kk1 j2 H6) fun j1 H5 =>
 Lt (IntKind.wrap .i64 (s1.2 + 1)) fun t1 =>
 next1 (j1, t1) H5) (
 k s1.1 H4)) (⟨none, 0, 0⟩, 0) H3
def h_machine_run_written : Hint := (.two .no (.two .no (.two .no (.two .no (.two (.two .no (.one (.loop [(3, (.c .sl)), (20, (.c (.int .i64)))] (.two .no (.two .no (.two (.join [(3, (.c .sl))] (.one (.two .no (.two .no (.two .no (.join [(3, (.c .sl))] .no)))))) .no)))))) .no)))))
theorem cQaf (r_ : Option Addr) {H : Heap} {k : Sl → Heap → Prop} (h : vQaf r_ H k) : CallT Pg fQaf [.pointer r_] (.one (.c .sl)) H k :=
 call_of_E (h := h_machine_run_written) Pg_mixed Tryz.func32 (by kernel_rfl) (by kernel_rfl) (by kernel_rfl) (by kernel_rfl) (Eq.mpr (by kernel_rfl) h)
def vQag (x_ : Int) (H : Heap) (k : Int → Heap → Prop) : Prop :=
 Lt (IntKind.wrap .u64 (x_ + 11400714819323198485)) fun t1 =>
 ShR .u64 t1 30 fun t2 =>
 Lt (bits .xor .u64 t1 t2) fun t3 =>
 Lt (IntKind.wrap .u64 (t3 * 13787848793156543929)) fun t4 =>
 ShR .u64 t4 27 fun t5 =>
 Lt (bits .xor .u64 t4 t5) fun t6 =>
 Lt (IntKind.wrap .u64 (t6 * 10723151780598845931)) fun t7 =>
 ShR .u64 t7 31 fun t8 =>
 Lt (bits .xor .u64 t7 t8) fun t9 =>
 k t9 H
def h_dice_Mix : Hint := .no
theorem cQag (x_ : Int) {H : Heap} {k : Int → Heap → Prop} (h : vQag x_ H k) : CallT Pg fQag [.int .u64 x_] (.one (.c (.int .u64))) H k :=
 call_of_E (h := h_dice_Mix) Pg_mixed Tryz.func55 (by kernel_rfl) (by kernel_rfl) (by kernel_rfl) (by kernel_rfl) (Eq.mpr (by kernel_rfl) h)
def vQah (r_ : Option Addr) (H : Heap) (k : Option Addr → Heap → Prop) : Prop :=
 NilCk r_ fun a1 =>
 Ld .sl (a1.add 19) H fun (x1 : Sl) =>
 NilCk r_ fun a2 =>
 Ld .sl (a2.add 19) H fun (x2 : Sl) =>
 Lt (IntKind.wrap .i64 ((x2.len : Int) - 1)) fun t1 =>
 IxA 1 x1 t1 fun a3 =>
 Ld .ptr a3 H fun (x3 : Option Addr) =>
 k x3 H
def h_machine_run_last : Hint := .no
theorem cQah (r_ : Option Addr) {H : Heap} {k : Option Addr → Heap → Prop} (h : vQah r_ H k) : CallT Pg fQah [.pointer r_] (.one (.c .ptr)) H k :=
 call_of_E (h := h_machine_run_last) Pg_mixed Tryz.func56 (by kernel_rfl) (by kernel_rfl) (by kernel_rfl) (by kernel_rfl) (Eq.mpr (by kernel_rfl) h)
def vQai (op_ : Int) (H : Heap) (k : ByteArray → Heap → Prop) : Prop :=
 CallT Pg fQax [.int .i64 op_] (.one (.c .bool)) H fun (r1 : Bool) H1 =>
 Br (!r1) (
 k (⟨#[]⟩ : ByteArray) H1) (
 CallT Pg fQay [.int .i64 op_] (.one (.agg [.str, .bool, (.int .i64), (.int .i64), (.int .i64)])) H1 fun (r2 : ByteArray × Bool × Int × Int × Int) H2 =>
 k r2.1 H2)
def h_code_Name : Hint := .no
theorem cQai (op_ : Int) {H : Heap} {k : ByteArray → Heap → Prop} (h : vQai op_ H k) : CallT Pg fQai [.int .i64 op_] (.one (.c .str)) H k :=
 call_of_E (h := h_code_Name) Pg_mixed Tryz.func57 (by kernel_rfl) (by kernel_rfl) (by kernel_rfl) (by kernel_rfl) (Eq.mpr (by kernel_rfl) h)
def vQaj (i_ : Int × Int) (funcs_ : Sl) (H : Heap) (k : Int × Int → Heap → Prop) : Prop :=
 Nw #[.int .i64 i_.1, .int .i64 i_.2] TQag H fun b1 H1 =>
 Ld (.int .i64) (adr b1) H1 fun (x1 : Int) =>
 CallT Pg fQax [.int .i64 x1] (.one (.c .bool)) H1 fun (r1 : Bool) H2 =>
 Br (!r1) (
 k (0, 0) H2) (
 Ld (.int .i64) (adr b1) H2 fun (x2 : Int) =>
 CallT Pg fQay [.int .i64 x2] (.one (.agg [.str, .bool, (.int .i64), (.int .i64), (.int .i64)])) H2 fun (r2 : ByteArray × Bool × Int × Int × Int) H3 =>
 Nw #[.string ByteArray.empty, .bool false, .int .i64 0, .int .i64 0, .int .i64 0] TQal H3 fun b2 H4 =>
 St ((adr b2).add 0) (.string r2.1) H4 fun H5 =>
 St ((adr b2).add 1) (.bool r2.2.1) H5 fun H6 =>
 St ((adr b2).add 2) (.int .i64 r2.2.2.1) H6 fun H7 =>
 St ((adr b2).add 3) (.int .i64 r2.2.2.2.1) H7 fun H8 =>
 St ((adr b2).add 4) (.int .i64 r2.2.2.2.2) H8 fun H9 =>
 Jn (σ := Unit) (fun kk1 =>
 Jn (σ := Bool) (fun kk2 =>
 Ld (.int .i64) ((adr b2).add 4) H9 fun (x3 : Int) =>
 Br (x3 == 1) (
 Ld (.int .i64) ((adr b1).add 1) H9 fun (x4 : Int) =>
 Br (decide (x4 ≥ 0)) (
 Ld (.int .i64) ((adr b1).add 1) H9 fun (x5 : Int) =>
 kk2 (decide (x5 < (funcs_.len : Int))) H9) (
 kk2 false H9)) (
 kk2 false H9)) fun j2 H11 =>
 Jn (σ := Unit) (fun kk3 =>
 Br j2 (
 Ld (.int .i64) ((adr b1).add 1) H11 fun (x6 : Int) =>
 IxA 4 funcs_ x6 fun a1 =>
 Ld (.int .i64) (a1.add 1) H11 fun (x7 : Int) =>
 St ((adr b2).add 2) (.int .i64 (if x7 < 0 then 0 else x7)) H11 fun H13 =>
 kk3 () H13) (
 Jn (σ := Bool) (fun kk4 =>
 Ld (.int .i64) ((adr b2).add 4) H11 fun (x8 : Int) =>
 Br (x8 == 2) (
 Ld (.int .i64) ((adr b1).add 1) H11 fun (x9 : Int) =>
 kk4 (decide (x9 ≥ 0)) H11) (
 kk4 false H11)) fun j4 H14 =>
 Jn (σ := Unit) (fun kk5 =>
 Br j4 (
 Ld (.int .i64) ((adr b1).add 1) H14 fun (x10 : Int) =>
 Rem x10 8 fun t1 =>
 St ((adr b2).add 2) (.int .i64 t1) H14 fun H16 =>
 kk5 () H16) (
 kk5 () H14)) fun j5 H15 =>
 kk3 () H15)) fun j3 H12 =>
 kk1 () H12) fun j1 H10 =>
 Ld (.int .i64) ((adr b2).add 2) H10 fun (x11 : Int) =>
 Ld (.int .i64) ((adr b2).add 3) H10 fun (x12 : Int) =>
 k (x11, x12) H10)
def h_code_Effect : Hint := (.two .no (.two .no (.two .no (.two (.join [] (.one (.two (.join [(14, (.c .bool))] .no) (.join [] (.two .no (.two (.join [(38, (.c .bool))] .no) (.join [] .no))))))) .no))))
theorem cQaj (i_ : Int × Int) (funcs_ : Sl) {H : Heap} {k : Int × Int → Heap → Prop} (h : vQaj i_ funcs_ H k) : CallT Pg fQaj [.agg #[.int .i64 i_.1, .int .i64 i_.2], slV funcs_] (.tup [(.c (.int .i64)), (.c (.int .i64))]) H k :=
 call_of_E (h := h_code_Effect) Pg_mixed Tryz.func58 (by kernel_rfl) (by kernel_rfl) (by kernel_rfl) (by kernel_rfl) (Eq.mpr (by kernel_rfl) h)
def vQak (r_ : Option Addr) (i_ : Int × Int) (H : Heap) (k : Bool → Heap → Prop) : Prop :=
 Nw #[.int .i64 i_.1, .int .i64 i_.2] TQag H fun b1 H1 =>
 CallT Pg fQah [.pointer r_] (.one (.c .ptr)) H1 fun (r1 : Option Addr) H2 =>
 NilCk r_ fun a1 =>
 Ld .sl (a1.add 19) H2 fun (x1 : Sl) =>
 Jn (σ := Bool) (fun kk1 =>
 Br (decide ((x1.len : Int) > 1)) (
 Ld (.int .i64) (adr b1) H2 fun (x2 : Int) =>
 CallT Pg fQaz [.int .i64 x2] (.one (.c .bool)) H2 fun (r2 : Bool) H4 =>
 kk1 r2 H4) (
 kk1 false H2)) fun j1 H3 =>
 Br j1 (
 k false H3) (
 Ld (.int .i64) (adr b1) H3 fun (x3 : Int) =>
 Jn (σ := Bool) (fun kk2 =>
 Br (x3 == 2) (
 kk2 true H3) (
 kk2 (x3 == 3) H3)) fun j2 H5 =>
 Br j2 (
 Jn (σ := Bool) (fun kk3 =>
 Ld (.int .i64) ((adr b1).add 1) H5 fun (x4 : Int) =>
 Br (decide (x4 ≥ 0)) (
 Ld (.int .i64) ((adr b1).add 1) H5 fun (x5 : Int) =>
 NilCk r1 fun a2 =>
 Ld .sl (a2.add 4) H5 fun (x6 : Sl) =>
 kk3 (decide (x5 < (x6.len : Int))) H5) (
 kk3 false H5)) fun j3 H6 =>
 k j3 H6) (
 Br (x3 == 4) (
 Ld (.int .i64) ((adr b1).add 1) H5 fun (x7 : Int) =>
 NilCk r_ fun a3 =>
 Ld .sl ((a3.add 2).add 2) H5 fun (x8 : Sl) =>
 NilCk r_ fun a4 =>
 Ld .sl ((a4.add 2).add 3) H5 fun (x9 : Sl) =>
 Nw #[slV x8, slV x9] TQab H5 fun b2 H7 =>
 Stab [((adr b1).add 1, .int .i64 x7)] H7 <|
 CallT Pg fQa0 [.pointer r_, .int .i64 x7, .slice (some (adr b2)) 2 2] (.one (.c .bool)) H7 fun (r3 : Bool) H8 =>
 Stab [((a4.add 2).add 3, slV x9), ((a3.add 2).add 2, slV x8)] H8 <|
 k r3 H8) (
 Br (x3 == 5) (
 Ld (.int .i64) ((adr b1).add 1) H5 fun (x10 : Int) =>
 NilCk r_ fun a5 =>
 Ld .sl ((a5.add 2).add 3) H5 fun (x11 : Sl) =>
 Nw #[slV x11] TQab H5 fun b3 H9 =>
 Stab [((adr b1).add 1, .int .i64 x10)] H9 <|
 CallT Pg fQa0 [.pointer r_, .int .i64 x10, .slice (some (adr b3)) 1 1] (.one (.c .bool)) H9 fun (r4 : Bool) H10 =>
 Stab [((a5.add 2).add 3, slV x11)] H10 <|
 k r4 H10) (
 Br (x3 == 21) (
 Jn (σ := Bool) (fun kk4 =>
 Ld (.int .i64) ((adr b1).add 1) H5 fun (x12 : Int) =>
 Br (decide (x12 ≥ 0)) (
 Ld (.int .i64) ((adr b1).add 1) H5 fun (x13 : Int) =>
 NilCk r_ fun a6 =>
 Ld .sl (a6.add 1) H5 fun (x14 : Sl) =>
 Br (decide (x13 < (x14.len : Int))) (
 NilCk r_ fun a7 =>
 Ld .sl (a7.add 19) H5 fun (x15 : Sl) =>
 kk4 (decide ((x15.len : Int) ≤ 16)) H5) (
 kk4 false H5)) (
 kk4 false H5)) fun j4 H11 =>
 k j4 H11) (
 Br (x3 == 22) (
 k (decide ((x1.len : Int) > 1)) H5) (
 Br (x3 == 26) (
 Jn (σ := Bool) (fun kk5 =>
 Ld (.int .i64) ((adr b1).add 1) H5 fun (x16 : Int) =>
 Br (decide (x16 ≥ 0)) (
 Ld (.int .i64) ((adr b1).add 1) H5 fun (x17 : Int) =>
 Quo .i64 x17 8 fun t1 =>
 CallT Pg fQa1 [.int .i64 t1] (.one (.c .bool)) H5 fun (r5 : Bool) H13 =>
 Br r5 (
 NilCk r_ fun a8 =>
 Ld .sl (a8.add 20) H13 fun (x18 : Sl) =>
 kk5 (decide ((x18.len : Int) < 12)) H13) (
 kk5 false H13)) (
 kk5 false H5)) fun j5 H12 =>
 k j5 H12) (
 Br (x3 == 28) (
 Jn (σ := Bool) (fun kk6 =>
 Ld (.int .i64) ((adr b1).add 1) H5 fun (x19 : Int) =>
 Br (decide (x19 ≥ 0)) (
 Ld (.int .i64) ((adr b1).add 1) H5 fun (x20 : Int) =>
 Quo .i64 x20 8 fun t2 =>
 CallT Pg fQa1 [.int .i64 t2] (.one (.c .bool)) H5 fun (r6 : Bool) H15 =>
 kk6 r6 H15) (
 kk6 false H5)) fun j6 H14 =>
 k j6 H14) (
 Jn (σ := Bool) (fun kk7 =>
 Br (x3 == 29) (
 kk7 true H5) (
 kk7 (x3 == 35) H5)) fun j7 H16 =>
 Br j7 (
 Ld (.int .i64) ((adr b1).add 1) H16 fun (x21 : Int) =>
 CallT Pg fQa1 [.int .i64 x21] (.one (.c .bool)) H16 fun (r7 : Bool) H17 =>
 k r7 H17) (
 k true H16)))))))))
def h_machine_run_access : Hint := (.two .no (.two .no (.two .no (.two (.two (.join [(20, (.c .bool))] .no) .no) (.two (.two .no (.one (.two (.two .no (.join [(23, (.c .bool))] .no)) (.two (.two (.join [(4, (.c .bool))] .no) .no) (.two .no (.two .no (.two .no (.two .no (.two .no (.two (.two (.join [(4, (.c .bool))] .no) .no) (.two .no (.two .no (.two .no (.two (.two (.join [(4, (.c .bool))] .no) .no) (.two .no (.two (.two (.join [(4, (.c .bool))] .no) .no) (.two (.two .no (.join [(125, (.c .bool))] .no)) .no))))))))))))))))) .no)))))
theorem cQak (r_ : Option Addr) (i_ : Int × Int) {H : Heap} {k : Bool → Heap → Prop} (h : vQak r_ i_ H k) : CallT Pg fQak [.pointer r_, .agg #[.int .i64 i_.1, .int .i64 i_.2]] (.one (.c .bool)) H k :=
 call_of_E (h := h_machine_run_access) Pg_mixed Tryz.func59 (by kernel_rfl) (by kernel_rfl) (by kernel_rfl) (by kernel_rfl) (Eq.mpr (by kernel_rfl) h)
def vQal (r_ : Option Addr) (op_ : Int) (H : Heap) (k : Bool → Heap → Prop) : Prop :=
 Jn (σ := Bool) (fun kk1 =>
 Br (op_ == 27) (
 kk1 true H) (
 Jn (σ := Bool) (fun kk2 =>
 Br (op_ == 28) (
 kk2 true H) (
 Jn (σ := Bool) (fun kk3 =>
 Br (op_ == 29) (
 kk3 true H) (
 kk3 (op_ == 30) H)) fun j3 H3 =>
 kk2 j3 H3)) fun j2 H2 =>
 kk1 j2 H2)) fun j1 H1 =>
 Br j1 (
 NilCk r_ fun a1 =>
 Ld .sl ((a1.add 21).add 1) H1 fun (x1 : Sl) =>
 k (decide ((x1.len : Int) < 16)) H1) (
 Br (op_ == 25) (
 NilCk r_ fun a2 =>
 Ld .sl ((a2.add 21).add 2) H1 fun (x2 : Sl) =>
 k (decide ((x2.len : Int) < 16)) H1) (
 k true H1))
def h_machine_run_room : Hint := (.two .no (.two (.two .no (.one (.two (.two .no (.join [(6, (.c .bool))] (.two .no (.two .no (.join [(6, (.c .bool))] (.two .no (.two .no (.join [(6, (.c .bool))] .no)))))))) .no))) .no))
theorem cQal (r_ : Option Addr) (op_ : Int) {H : Heap} {k : Bool → Heap → Prop} (h : vQal r_ op_ H k) : CallT Pg fQal [.pointer r_, .int .i64 op_] (.one (.c .bool)) H k :=
 call_of_E (h := h_machine_run_room) Pg_mixed Tryz.func60 (by kernel_rfl) (by kernel_rfl) (by kernel_rfl) (by kernel_rfl) (Eq.mpr (by kernel_rfl) h)
def vQam (op_ : Int) (H : Heap) (k : (Int × Value) × Bool → Heap → Prop) : Prop :=
 Nw #[.int .i64 0, .nilFunc] TQas H fun b1 H1 =>
 Br (op_ == 6) (
 CallT Pg fQa2 [.func (.func 102) #[] #[]] (.one (.agg [(.int .i64), .raw])) H1 fun (r1 : Int × Value) H2 =>
 St ((adr b1).add 0) (.int .i64 r1.1) H2 fun H3 =>
 StV ((adr b1).add 1) r1.2 H3 fun H4 =>
 LdC [(.int .i64), .raw] (adr b1) H4 fun (c1 : Int × Value) =>
 k (((c1.1, c1.2), true)) H4) (
 Br (op_ == 7) (
 CallT Pg fQa2 [.func (.func 103) #[] #[]] (.one (.agg [(.int .i64), .raw])) H1 fun (r2 : Int × Value) H5 =>
 St ((adr b1).add 0) (.int .i64 r2.1) H5 fun H6 =>
 StV ((adr b1).add 1) r2.2 H6 fun H7 =>
 LdC [(.int .i64), .raw] (adr b1) H7 fun (c2 : Int × Value) =>
 k (((c2.1, c2.2), true)) H7) (
 Br (op_ == 8) (
 CallT Pg fQa2 [.func (.func 104) #[] #[]] (.one (.agg [(.int .i64), .raw])) H1 fun (r3 : Int × Value) H8 =>
 St ((adr b1).add 0) (.int .i64 r3.1) H8 fun H9 =>
 StV ((adr b1).add 1) r3.2 H9 fun H10 =>
 LdC [(.int .i64), .raw] (adr b1) H10 fun (c3 : Int × Value) =>
 k (((c3.1, c3.2), true)) H10) (
 Br (op_ == 9) (
 CallT Pg fQa2 [.func (.func 105) #[] #[]] (.one (.agg [(.int .i64), .raw])) H1 fun (r4 : Int × Value) H11 =>
 St ((adr b1).add 0) (.int .i64 r4.1) H11 fun H12 =>
 StV ((adr b1).add 1) r4.2 H12 fun H13 =>
 LdC [(.int .i64), .raw] (adr b1) H13 fun (c4 : Int × Value) =>
 k (((c4.1, c4.2), true)) H13) (
 Br (op_ == 10) (
 CallT Pg fQa2 [.func (.func 106) #[] #[]] (.one (.agg [(.int .i64), .raw])) H1 fun (r5 : Int × Value) H14 =>
 St ((adr b1).add 0) (.int .i64 r5.1) H14 fun H15 =>
 StV ((adr b1).add 1) r5.2 H15 fun H16 =>
 LdC [(.int .i64), .raw] (adr b1) H16 fun (c5 : Int × Value) =>
 k (((c5.1, c5.2), true)) H16) (
 Br (op_ == 36) (
 CallT Pg fQa2 [.func (.func 107) #[] #[]] (.one (.agg [(.int .i64), .raw])) H1 fun (r6 : Int × Value) H17 =>
 St ((adr b1).add 0) (.int .i64 r6.1) H17 fun H18 =>
 StV ((adr b1).add 1) r6.2 H18 fun H19 =>
 LdC [(.int .i64), .raw] (adr b1) H19 fun (c6 : Int × Value) =>
 k (((c6.1, c6.2), true)) H19) (
 Br (op_ == 37) (
 CallT Pg fQa2 [.func (.func 108) #[] #[]] (.one (.agg [(.int .i64), .raw])) H1 fun (r7 : Int × Value) H20 =>
 St ((adr b1).add 0) (.int .i64 r7.1) H20 fun H21 =>
 StV ((adr b1).add 1) r7.2 H21 fun H22 =>
 LdC [(.int .i64), .raw] (adr b1) H22 fun (c7 : Int × Value) =>
 k (((c7.1, c7.2), true)) H22) (
 Br (op_ == 11) (
 CallT Pg fQa3 [.func (.func 110) #[] #[]] (.one (.agg [(.int .i64), .raw])) H1 fun (r8 : Int × Value) H23 =>
 St ((adr b1).add 0) (.int .i64 r8.1) H23 fun H24 =>
 StV ((adr b1).add 1) r8.2 H24 fun H25 =>
 LdC [(.int .i64), .raw] (adr b1) H25 fun (c8 : Int × Value) =>
 k (((c8.1, c8.2), true)) H25) (
 Br (op_ == 18) (
 CallT Pg fQa3 [.func (.func 111) #[] #[]] (.one (.agg [(.int .i64), .raw])) H1 fun (r9 : Int × Value) H26 =>
 St ((adr b1).add 0) (.int .i64 r9.1) H26 fun H27 =>
 StV ((adr b1).add 1) r9.2 H27 fun H28 =>
 LdC [(.int .i64), .raw] (adr b1) H28 fun (c9 : Int × Value) =>
 k (((c9.1, c9.2), true)) H28) (
 Br (op_ == 38) (
 CallT Pg fQa3 [.func (.func 113) #[] #[]] (.one (.agg [(.int .i64), .raw])) H1 fun (r10 : Int × Value) H29 =>
 St ((adr b1).add 0) (.int .i64 r10.1) H29 fun H30 =>
 StV ((adr b1).add 1) r10.2 H30 fun H31 =>
 LdC [(.int .i64), .raw] (adr b1) H31 fun (c10 : Int × Value) =>
 k (((c10.1, c10.2), true)) H31) (
 CallT Pg fQa5 [.int .i64 op_] (.tup [(.agg [(.int .i64), .raw]), (.c .bool)]) H1 fun (r11 : (Int × Value) × Bool) H32 =>
 St ((adr b1).add 0) (.int .i64 r11.1.1) H32 fun H33 =>
 StV ((adr b1).add 1) r11.1.2 H33 fun H34 =>
 LdC [(.int .i64), .raw] (adr b1) H34 fun (c11 : Int × Value) =>
 k (((c11.1, c11.2), r11.2)) H34))))))))))
def h_machine_deedOf : Hint := .no
theorem cQam (op_ : Int) {H : Heap} {k : (Int × Value) × Bool → Heap → Prop} (h : vQam op_ H k) : CallT Pg fQam [.int .i64 op_] (.tup [(.agg [(.int .i64), .raw]), (.c .bool)]) H k :=
 call_of_E (h := h_machine_deedOf) Pg_mixed Tryz.func61 (by kernel_rfl) (by kernel_rfl) (by kernel_rfl) (by kernel_rfl) (Eq.mpr (by kernel_rfl) h)
def vQan (a_ : Option Addr) (n_ : Int) (H : Heap) (k : Unit → Heap → Prop) : Prop :=
 NilCk a_ fun a1 =>
 Ld .sl (a1.add 5) H fun (x1 : Sl) =>
 Nw #[.int .i64 n_] TQaq H fun b1 H1 =>
 App TQaq 1 8 #[.int .i64 0] x1 ⟨some (adr b1), 1, 1⟩ H1 fun l1 H2 =>
 NilCk a_ fun a2 =>
 St (a2.add 5) (slV l1) H2 fun H3 =>
 k () H3
def h_machine_activation_push : Hint := .no
theorem cQan (a_ : Option Addr) (n_ : Int) {H : Heap} {k : Unit → Heap → Prop} (h : vQan a_ n_ H k) : CallT Pg fQan [.pointer a_, .int .i64 n_] (.tup []) H k :=
 call_of_E (h := h_machine_activation_push) Pg_mixed Tryz.func62 (by kernel_rfl) (by kernel_rfl) (by kernel_rfl) (by kernel_rfl) (Eq.mpr (by kernel_rfl) h)
def vQao (a_ : Option Addr) (n_ : Int) (H : Heap) (k : Sl → Heap → Prop) : Prop :=
 NilCk a_ fun a1 =>
 Ld .sl (a1.add 5) H fun (x1 : Sl) =>
 Lt (IntKind.wrap .i64 ((x1.len : Int) - n_)) fun t1 =>
 NilCk a_ fun a2 =>
 Ld .sl (a2.add 5) H fun (x2 : Sl) =>
 SlA 1 x2 t1 (x2.len : Nat) (x2.cap : Nat) fun l1 =>
 CallT Pg fQa6 [slV l1] (.one (.c .sl)) H fun (r1 : Sl) H1 =>
 NilCk a_ fun a3 =>
 Ld .sl (a3.add 5) H1 fun (x3 : Sl) =>
 SlA 1 x3 0 t1 (x3.cap : Nat) fun l2 =>
 NilCk a_ fun a4 =>
 St (a4.add 5) (slV l2) H1 fun H2 =>
 k r1 H2
def h_machine_activation_take : Hint := .no
theorem cQao (a_ : Option Addr) (n_ : Int) {H : Heap} {k : Sl → Heap → Prop} (h : vQao a_ n_ H k) : CallT Pg fQao [.pointer a_, .int .i64 n_] (.one (.c .sl)) H k :=
 call_of_E (h := h_machine_activation_take) Pg_mixed Tryz.func63 (by kernel_rfl) (by kernel_rfl) (by kernel_rfl) (by kernel_rfl) (Eq.mpr (by kernel_rfl) h)
def vQap (r_ : Option Addr) (i_ : Int × Int) (H : Heap) (k : Bool → Heap → Prop) : Prop :=
 Nw #[.int .i64 i_.1, .int .i64 i_.2] TQag H fun b1 H1 =>
 CallT Pg fQah [.pointer r_] (.one (.c .ptr)) H1 fun (r1 : Option Addr) H2 =>
 Ld (.int .i64) (adr b1) H2 fun (x1 : Int) =>
 Jn (σ := Unit) (fun kk1 =>
 Jn (σ := Unit) (fun kk2 =>
 Br (x1 == 19) (
 Ld (.int .i64) ((adr b1).add 1) H2 fun (x2 : Int) =>
 CallT Pg fQa7 [.int .i64 x2] (.one (.c (.int .i64))) H2 fun (r2 : Int) H5 =>
 NilCk r1 fun a1 =>
 St (a1.add 6) (.int .i64 r2) H5 fun H6 =>
 kk2 () H6) (
 Jn (σ := Unit) (fun kk3 =>
 Br (x1 == 20) (
 CallT Pg fQao [.pointer r1, .int .i64 1] (.one (.c .sl)) H2 fun (r3 : Sl) H8 =>
 IxA 1 r3 0 fun a2 =>
 Ld (.int .i64) a2 H8 fun (x3 : Int) =>
 Jn (σ := Unit) (fun kk4 =>
 Br (x3 == 0) (
 Ld (.int .i64) ((adr b1).add 1) H8 fun (x4 : Int) =>
 CallT Pg fQa7 [.int .i64 x4] (.one (.c (.int .i64))) H8 fun (r4 : Int) H10 =>
 NilCk r1 fun a3 =>
 St (a3.add 6) (.int .i64 r4) H10 fun H11 =>
 kk4 () H11) (
 kk4 () H8)) fun j4 H9 =>
 kk3 () H9) (
 Jn (σ := Unit) (fun kk5 =>
 Br (x1 == 21) (
 NilCk r_ fun a4 =>
 Ld .sl (a4.add 1) H2 fun (x5 : Sl) =>
 Ld (.int .i64) ((adr b1).add 1) H2 fun (x6 : Int) =>
 IxA 4 x5 x6 fun a5 =>
 LdC [.str, (.int .i64), (.int .i64), .sl] a5 H2 fun (c1 : ByteArray × Int × Int × Sl) =>
 Nw #[.string ByteArray.empty, .int .i64 0, .int .i64 0, .slice none 0 0] TQak H2 fun b2 H13 =>
 Stab [(a5.add 0, .string c1.1), (a5.add 1, .int .i64 c1.2.1), (a5.add 2, .int .i64 c1.2.2.1), (a5.add 3, slV c1.2.2.2), ((adr b1).add 1, .int .i64 x6), (a4.add 1, slV x5)] H13 <|
 St ((adr b2).add 0) (.string c1.1) H13 fun H14 =>
 St ((adr b2).add 1) (.int .i64 c1.2.1) H14 fun H15 =>
 St ((adr b2).add 2) (.int .i64 c1.2.2.1) H15 fun H16 =>
 St ((adr b2).add 3) (slV c1.2.2.2) H16 fun H17 =>
 Ld (.int .i64) ((adr b2).add 1) H17 fun (x7 : Int) =>
 CallT Pg fQao [.pointer r1, .int .i64 (if x7 < 0 then 0 else x7)] (.one (.c .sl)) H17 fun (r5 : Sl) H18 =>
 CallT Pg fQa8 [.pointer r_] (.one (.c .bool)) H18 fun (r6 : Bool) H19 =>
 Br (!r6) (
 NilCk r_ fun a6 =>
 St ((a6.add 21).add 4) (.int .i64 120) H19 fun H20 =>
 k true H20) (
 NilCk r_ fun a7 =>
 Ld .sl (a7.add 19) H19 fun (x8 : Sl) =>
 LdC [.str, (.int .i64), (.int .i64), .sl] (adr b2) H19 fun (c2 : ByteArray × Int × Int × Sl) =>
 CallT Pg fQac [.agg #[.string c2.1, .int .i64 c2.2.1, .int .i64 c2.2.2.1, slV c2.2.2.2], slV r5, .int .i64 (r5.len : Int)] (.one (.c .ptr)) H19 fun (r7 : Option Addr) H21 =>
 Stab [(a7.add 19, slV x8)] H21 <|
 Nw #[.pointer r7] TQaa H21 fun b3 H22 =>
 Stab [((adr b2).add 0, .string c2.1), ((adr b2).add 1, .int .i64 c2.2.1), ((adr b2).add 2, .int .i64 c2.2.2.1), ((adr b2).add 3, slV c2.2.2.2), (a7.add 19, slV x8)] H22 <|
 App TQaa 1 8 #[.pointer none] x8 ⟨some (adr b3), 1, 1⟩ H22 fun l1 H23 =>
 Stab [((adr b2).add 0, .string c2.1), ((adr b2).add 1, .int .i64 c2.2.1), ((adr b2).add 2, .int .i64 c2.2.2.1), ((adr b2).add 3, slV c2.2.2.2)] H23 <|
 NilCk r_ fun a8 =>
 St (a8.add 19) (slV l1) H23 fun H24 =>
 kk5 () H24)) (
 Jn (σ := Unit) (fun kk6 =>
 Br (x1 == 22) (
 CallT Pg fQao [.pointer r1, .int .i64 1] (.one (.c .sl)) H2 fun (r8 : Sl) H26 =>
 IxA 1 r8 0 fun a9 =>
 Ld (.int .i64) a9 H26 fun (x9 : Int) =>
 NilCk r_ fun a10 =>
 Ld .sl (a10.add 19) H26 fun (x10 : Sl) =>
 NilCk r_ fun a11 =>
 Ld .sl (a11.add 19) H26 fun (x11 : Sl) =>
 Lt (IntKind.wrap .i64 ((x11.len : Int) - 1)) fun t1 =>
 SlA 1 x10 0 t1 (x10.cap : Nat) fun l2 =>
 NilCk r_ fun a12 =>
 St (a12.add 19) (slV l2) H26 fun H27 =>
 CallT Pg fQah [.pointer r_] (.one (.c .ptr)) H27 fun (r9 : Option Addr) H28 =>
 CallT Pg fQan [.pointer r9, .int .i64 x9] (.tup []) H28 fun (r10 : Unit) H29 =>
 kk6 () H29) (
 Jn (σ := Unit) (fun kk7 =>
 Br (x1 == 23) (
 NilCk r_ fun a13 =>
 St (a13.add 28) (.bool true) H2 fun H31 =>
 kk7 () H31) (
 Br (x1 == 24) (
 CallT Pg fQa8 [.pointer r_] (.one (.c .bool)) H2 fun (r11 : Bool) H32 =>
 Jn (σ := Unit) (fun kk8 =>
 Br (!r11) (
 NilCk r_ fun a14 =>
 St ((a14.add 21).add 4) (.int .i64 120) H32 fun H34 =>
 kk8 () H34) (
 kk8 () H32)) fun j8 H33 =>
 kk7 () H33) (
 k false H2))) fun j7 H30 =>
 kk6 () H30)) fun j6 H25 =>
 kk5 () H25)) fun j5 H12 =>
 kk3 () H12)) fun j3 H7 =>
 kk2 () H7)) fun j2 H4 =>
 kk1 () H4) fun j1 H3 =>
 k true H3
def h_machine_run_jumps : Hint := (.two .no (.two .no (.two (.two .no (.join [] (.one (.two .no (.join [] (.two .no (.two .no (.join [] (.two (.two .no (.join [] .no)) (.two .no (.join [] (.two .no (.two .no (.join [] (.two .no (.two .no (.join [] (.two .no (.two .no (.two (.two .no (.join [] .no)) .no)))))))))))))))))))) .no)))
theorem cQap (r_ : Option Addr) (i_ : Int × Int) {H : Heap} {k : Bool → Heap → Prop} (h : vQap r_ i_ H k) : CallT Pg fQap [.pointer r_, .agg #[.int .i64 i_.1, .int .i64 i_.2]] (.one (.c .bool)) H k :=
 call_of_E (h := h_machine_run_jumps) Pg_mixed Tryz.func64 (by kernel_rfl) (by kernel_rfl) (by kernel_rfl) (by kernel_rfl) (Eq.mpr (by kernel_rfl) h)
def vQaq (r_ : Option Addr) (i_ : Int × Int) (H : Heap) (k : Bool → Heap → Prop) : Prop :=
 Nw #[.int .i64 i_.1, .int .i64 i_.2] TQag H fun b1 H1 =>
 CallT Pg fQah [.pointer r_] (.one (.c .ptr)) H1 fun (r1 : Option Addr) H2 =>
 Ld (.int .i64) (adr b1) H2 fun (x1 : Int) =>
 Jn (σ := Unit) (fun kk1 =>
 Jn (σ := Unit) (fun kk2 =>
 Br (x1 == 1) (
 Ld (.int .i64) ((adr b1).add 1) H2 fun (x2 : Int) =>
 CallT Pg fQan [.pointer r1, .int .i64 x2] (.tup []) H2 fun (r2 : Unit) H5 =>
 kk2 () H5) (
 Jn (σ := Unit) (fun kk3 =>
 Br (x1 == 2) (
 NilCk r1 fun a1 =>
 Ld .sl (a1.add 4) H2 fun (x3 : Sl) =>
 Ld (.int .i64) ((adr b1).add 1) H2 fun (x4 : Int) =>
 IxA 1 x3 x4 fun a2 =>
 Ld (.int .i64) a2 H2 fun (x5 : Int) =>
 CallT Pg fQan [.pointer r1, .int .i64 x5] (.tup []) H2 fun (r3 : Unit) H7 =>
 Stab [((adr b1).add 1, .int .i64 x4), (a1.add 4, slV x3)] H7 <|
 kk3 () H7) (
 Jn (σ := Unit) (fun kk4 =>
 Br (x1 == 4) (
 NilCk r_ fun a3 =>
 Ld .raw (a3.add 18) H2 fun (x6 : Value) =>
 Ld (.int .i64) ((adr b1).add 1) H2 fun (x7 : Int) =>
 Quo .i64 x7 8 fun t1 =>
 Ld (.int .i64) ((adr b1).add 1) H2 fun (x8 : Int) =>
 Rem x8 8 fun t2 =>
 MpL (.int .i64) (.c .sl) ⟨none, 0, 0⟩ x6 (.int .i64 t1) H2 fun (x9 : Sl) e1 =>
 Stab [((adr b1).add 1, .int .i64 x8), ((adr b1).add 1, .int .i64 x7)] H2 <|
 IxA 1 x9 t2 fun a4 =>
 Ld (.int .i64) a4 H2 fun (x10 : Int) =>
 CallT Pg fQan [.pointer r1, .int .i64 x10] (.tup []) H2 fun (r4 : Unit) H9 =>
 Stab [((adr b1).add 1, .int .i64 x8), ((adr b1).add 1, .int .i64 x7), (a3.add 18, x6)] H9 <|
 kk4 () H9) (
 Jn (σ := Unit) (fun kk5 =>
 Br (x1 == 31) (
 NilCk r_ fun a5 =>
 Ld .ptr (a5.add 26) H2 fun (x11 : Option Addr) =>
 CallT Pg fQao [.pointer r1, .int .i64 1] (.one (.c .sl)) H2 fun (r5 : Sl) H11 =>
 Stab [(a5.add 26, .pointer x11)] H11 <|
 IxA 1 r5 0 fun a6 =>
 Ld (.int .i64) a6 H11 fun (x12 : Int) =>
 CallT Pg fQa9 [.pointer x11, .int .i64 x12] (.one (.c (.int .i64))) H11 fun (r6 : Int) H12 =>
 CallT Pg fQan [.pointer r1, .int .i64 r6] (.tup []) H12 fun (r7 : Unit) H13 =>
 Stab [(a6, .int .i64 x12), (a5.add 26, .pointer x11)] H13 <|
 kk5 () H13) (
 Jn (σ := Unit) (fun kk6 =>
 Br (x1 == 32) (
 NilCk r_ fun a7 =>
 Ld (.int .i64) (a7.add 11) H2 fun (x13 : Int) =>
 CallT Pg fQan [.pointer r1, .int .i64 x13] (.tup []) H2 fun (r8 : Unit) H15 =>
 kk6 () H15) (
 Jn (σ := Unit) (fun kk7 =>
 Br (x1 == 33) (
 NilCk r_ fun a8 =>
 Ld (.int .i64) ((a8.add 11).add 4) H2 fun (x14 : Int) =>
 CallT Pg fQan [.pointer r1, .int .i64 x14] (.tup []) H2 fun (r9 : Unit) H17 =>
 kk7 () H17) (
 Jn (σ := Unit) (fun kk8 =>
 Br (x1 == 34) (
 CallT Pg fQao [.pointer r1, .int .i64 2] (.one (.c .sl)) H2 fun (r10 : Sl) H19 =>
 IxA 1 r10 0 fun a9 =>
 Ld (.int .i64) a9 H19 fun (x15 : Int) =>
 IxA 1 r10 1 fun a10 =>
 Ld (.int .i64) a10 H19 fun (x16 : Int) =>
 CallT Pg fQba [.pointer r_, .int .i64 x15, .int .i64 x16] (.one (.c (.int .i64))) H19 fun (r11 : Int) H20 =>
 CallT Pg fQan [.pointer r1, .int .i64 r11] (.tup []) H20 fun (r12 : Unit) H21 =>
 Stab [(a10, .int .i64 x16), (a9, .int .i64 x15)] H21 <|
 kk8 () H21) (
 Br (x1 == 35) (
 NilCk r_ fun a11 =>
 Ld .raw (a11.add 18) H2 fun (x17 : Value) =>
 Ld (.int .i64) ((adr b1).add 1) H2 fun (x18 : Int) =>
 MpL (.int .i64) (.c .sl) ⟨none, 0, 0⟩ x17 (.int .i64 x18) H2 fun (x19 : Sl) e2 =>
 CallT Pg fQa4 [.bool e2] (.one (.c (.int .i64))) H2 fun (r13 : Int) H22 =>
 CallT Pg fQan [.pointer r1, .int .i64 r13] (.tup []) H22 fun (r14 : Unit) H23 =>
 kk8 () H23) (
 k false H2))) fun j8 H18 =>
 kk7 () H18)) fun j7 H16 =>
 kk6 () H16)) fun j6 H14 =>
 kk5 () H14)) fun j5 H10 =>
 kk4 () H10)) fun j4 H8 =>
 kk3 () H8)) fun j3 H6 =>
 kk2 () H6)) fun j2 H4 =>
 kk1 () H4) fun j1 H3 =>
 k true H3
def h_machine_run_asks : Hint := (.two .no (.two .no (.two (.two .no (.join [] (.one (.two .no (.join [] (.two .no (.two .no (.join [] (.two .no (.two .no (.join [] (.two .no (.two .no (.join [] (.two .no (.two .no (.join [] (.two .no (.two .no (.join [] (.two .no (.two .no (.join [] .no))))))))))))))))))))))) .no)))
theorem cQaq (r_ : Option Addr) (i_ : Int × Int) {H : Heap} {k : Bool → Heap → Prop} (h : vQaq r_ i_ H k) : CallT Pg fQaq [.pointer r_, .agg #[.int .i64 i_.1, .int .i64 i_.2]] (.one (.c .bool)) H k :=
 call_of_E (h := h_machine_run_asks) Pg_mixed Tryz.func65 (by kernel_rfl) (by kernel_rfl) (by kernel_rfl) (by kernel_rfl) (Eq.mpr (by kernel_rfl) h)
def vQar (r_ : Option Addr) (i_ : Int × Int) (H : Heap) (k : Unit → Heap → Prop) : Prop :=
 Nw #[.int .i64 i_.1, .int .i64 i_.2] TQag H fun b1 H1 =>
 Ld (.int .i64) ((adr b1).add 1) H1 fun (x1 : Int) =>
 Rem x1 8 fun t1 =>
 CallT Pg fQah [.pointer r_] (.one (.c .ptr)) H1 fun (r1 : Option Addr) H2 =>
 Stab [((adr b1).add 1, .int .i64 x1)] H2 <|
 CallT Pg fQao [.pointer r1, .int .i64 t1] (.one (.c .sl)) H2 fun (r2 : Sl) H3 =>
 Stab [((adr b1).add 1, .int .i64 x1)] H3 <|
 Ld (.int .i64) ((adr b1).add 1) H3 fun (x2 : Int) =>
 Quo .i64 x2 8 fun t2 =>
 Ld (.int .i64) (adr b1) H3 fun (x3 : Int) =>
 Br (x3 == 26) (
 NilCk r_ fun a1 =>
 Ld .sl (a1.add 20) H3 fun (x4 : Sl) =>
 Nw #[.int .i64 t2, slV r2] TQai H3 fun b2 H4 =>
 App TQai 2 32 #[.int .i64 0, .slice none 0 0] x4 ⟨some (adr b2), 1, 1⟩ H4 fun l1 H5 =>
 NilCk r_ fun a2 =>
 St (a2.add 20) (slV l1) H5 fun H6 =>
 k () H6) (
 NilCk r_ fun a3 =>
 LdC [(.int .i64), (.int .i64)] ((a3.add 11).add 4) H3 fun (c1 : Int × Int) =>
 CallT Pg fQat [.pointer r_, .agg #[.int .i64 3, .int .i64 c1.1, .int .i64 c1.2, .int .i64 t2, slV r2, .slice none 0 0]] (.tup []) H3 fun (r3 : Unit) H7 =>
 k () H7)
def h_machine_run_kept : Hint := .no
theorem cQar (r_ : Option Addr) (i_ : Int × Int) {H : Heap} {k : Unit → Heap → Prop} (h : vQar r_ i_ H k) : CallT Pg fQar [.pointer r_, .agg #[.int .i64 i_.1, .int .i64 i_.2]] (.tup []) H k :=
 call_of_E (h := h_machine_run_kept) Pg_mixed Tryz.func66 (by kernel_rfl) (by kernel_rfl) (by kernel_rfl) (by kernel_rfl) (Eq.mpr (by kernel_rfl) h)
def vQas (r_ : Option Addr) (H : Heap) (k : Unit → Heap → Prop) : Prop :=
 NilCk r_ fun a1 =>
 Ld .sl (a1.add 20) H fun (x1 : Sl) =>
 CallT Pg fQbb [slV x1, .func (.func 121) #[] #[]] (.tup []) H fun (r1 : Unit) H1 =>
 NilCk r_ fun a2 =>
 Ld .sl (a2.add 20) H1 fun (x2 : Sl) =>
 CallT Pg fQat [.pointer r_, .agg #[.int .i64 1, .int .i64 0, .int .i64 0, .int .i64 0, .slice none 0 0, slV x2]] (.tup []) H1 fun (r2 : Unit) H2 =>
 NilCk r_ fun a3 =>
 St (a3.add 20) (.slice none 0 0) H2 fun H3 =>
 k () H3
def h_machine_run_spawn : Hint := .no
theorem cQas (r_ : Option Addr) {H : Heap} {k : Unit → Heap → Prop} (h : vQas r_ H k) : CallT Pg fQas [.pointer r_] (.tup []) H k :=
 call_of_E (h := h_machine_run_spawn) Pg_mixed Tryz.func67 (by kernel_rfl) (by kernel_rfl) (by kernel_rfl) (by kernel_rfl) (Eq.mpr (by kernel_rfl) h)
def vQat (r_ : Option Addr) (c_ : Int × Int × Int × Int × Sl × Sl) (H : Heap) (k : Unit → Heap → Prop) : Prop :=
 Nw #[.int .i64 c_.1, .int .i64 c_.2.1, .int .i64 c_.2.2.1, .int .i64 c_.2.2.2.1, slV c_.2.2.2.2.1, slV c_.2.2.2.2.2] TQac H fun b1 H1 =>
 NilCk r_ fun a1 =>
 Ld .sl ((a1.add 21).add 1) H1 fun (x1 : Sl) =>
 LdC [(.int .i64), (.int .i64), (.int .i64), (.int .i64), .sl, .sl] (adr b1) H1 fun (c1 : Int × Int × Int × Int × Sl × Sl) =>
 Nw #[.int .i64 c1.1, .int .i64 c1.2.1, .int .i64 c1.2.2.1, .int .i64 c1.2.2.2.1, slV c1.2.2.2.2.1, slV c1.2.2.2.2.2] TQac H1 fun b2 H2 =>
 Stab [((a1.add 21).add 1, slV x1)] H2 <|
 App TQac 6 80 #[.int .i64 0, .int .i64 0, .int .i64 0, .int .i64 0, .slice none 0 0, .slice none 0 0] x1 ⟨some (adr b2), 1, 1⟩ H2 fun l1 H3 =>
 Stab [((adr b1).add 0, .int .i64 c1.1), ((adr b1).add 1, .int .i64 c1.2.1), ((adr b1).add 2, .int .i64 c1.2.2.1), ((adr b1).add 3, .int .i64 c1.2.2.2.1), ((adr b1).add 4, slV c1.2.2.2.2.1), ((adr b1).add 5, slV c1.2.2.2.2.2)] H3 <|
 NilCk r_ fun a2 =>
 St ((a2.add 21).add 1) (slV l1) H3 fun H4 =>
 k () H4
def h_machine_run_command : Hint := .no
theorem cQat (r_ : Option Addr) (c_ : Int × Int × Int × Int × Sl × Sl) {H : Heap} {k : Unit → Heap → Prop} (h : vQat r_ c_ H k) : CallT Pg fQat [.pointer r_, .agg #[.int .i64 c_.1, .int .i64 c_.2.1, .int .i64 c_.2.2.1, .int .i64 c_.2.2.2.1, slV c_.2.2.2.2.1, slV c_.2.2.2.2.2]] (.tup []) H k :=
 call_of_E (h := h_machine_run_command) Pg_mixed Tryz.func68 (by kernel_rfl) (by kernel_rfl) (by kernel_rfl) (by kernel_rfl) (Eq.mpr (by kernel_rfl) h)
def vQau (s_ : Sl) (H : Heap) (k : Sl → Heap → Prop) : Prop :=
 Br s_.a.isNone (
 k ⟨none, 0, 0⟩ H) (
 Nw #[] TQap H fun b1 H1 =>
 App TQap 1 8 #[.int .i64 0] ⟨some (adr b1), 0, 0⟩ s_ H1 fun l1 H2 =>
 k l1 H2)
def h_slices_Clone_Sl_int_int : Hint := .no
theorem cQau (s_ : Sl) {H : Heap} {k : Sl → Heap → Prop} (h : vQau s_ H k) : CallT Pg fQau [slV s_] (.one (.c .sl)) H k :=
 call_of_E (h := h_slices_Clone_Sl_int_int) Pg_mixed Tryz.func69 (by kernel_rfl) (by kernel_rfl) (by kernel_rfl) (by kernel_rfl) (Eq.mpr (by kernel_rfl) h)
def vQav (op_ : Int) (H : Heap) (k : Bool → Heap → Prop) : Prop :=
 Jn (σ := Bool) (fun kk1 =>
 Br (decide (op_ > 0)) (
 kk1 (decide (op_ ≤ 39)) H) (
 kk1 false H)) fun j1 H1 =>
 k j1 H1
def h_code_isOp : Hint := (.two .no (.two (.join [(2, (.c .bool))] .no) .no))
theorem cQav (op_ : Int) {H : Heap} {k : Bool → Heap → Prop} (h : vQav op_ H k) : CallT Pg fQax [.int .i64 op_] (.one (.c .bool)) H k :=
 call_of_E (h := h_code_isOp) Pg_mixed Tryz.func96 (by kernel_rfl) (by kernel_rfl) (by kernel_rfl) (by kernel_rfl) (Eq.mpr (by kernel_rfl) h)
def vQaw (op_ : Int) (H : Heap) (k : ByteArray × Bool × Int × Int × Int → Heap → Prop) : Prop :=
 Nw #[.string ByteArray.empty, .bool false, .int .i64 0, .int .i64 0, .int .i64 0] TQal H fun b1 H1 =>
 Br (decide (op_ < 19)) (
 CallT Pg fQbc [.int .i64 op_] (.one (.agg [.str, .bool, (.int .i64), (.int .i64), (.int .i64)])) H1 fun (r1 : ByteArray × Bool × Int × Int × Int) H2 =>
 St ((adr b1).add 0) (.string r1.1) H2 fun H3 =>
 St ((adr b1).add 1) (.bool r1.2.1) H3 fun H4 =>
 St ((adr b1).add 2) (.int .i64 r1.2.2.1) H4 fun H5 =>
 St ((adr b1).add 3) (.int .i64 r1.2.2.2.1) H5 fun H6 =>
 St ((adr b1).add 4) (.int .i64 r1.2.2.2.2) H6 fun H7 =>
 LdC [.str, .bool, (.int .i64), (.int .i64), (.int .i64)] (adr b1) H7 fun (c1 : ByteArray × Bool × Int × Int × Int) =>
 k (c1.1, c1.2.1, c1.2.2.1, c1.2.2.2.1, c1.2.2.2.2) H7) (
 CallT Pg fQbd [.int .i64 op_] (.one (.agg [.str, .bool, (.int .i64), (.int .i64), (.int .i64)])) H1 fun (r2 : ByteArray × Bool × Int × Int × Int) H8 =>
 St ((adr b1).add 0) (.string r2.1) H8 fun H9 =>
 St ((adr b1).add 1) (.bool r2.2.1) H9 fun H10 =>
 St ((adr b1).add 2) (.int .i64 r2.2.2.1) H10 fun H11 =>
 St ((adr b1).add 3) (.int .i64 r2.2.2.2.1) H11 fun H12 =>
 St ((adr b1).add 4) (.int .i64 r2.2.2.2.2) H12 fun H13 =>
 LdC [.str, .bool, (.int .i64), (.int .i64), (.int .i64)] (adr b1) H13 fun (c2 : ByteArray × Bool × Int × Int × Int) =>
 k (c2.1, c2.2.1, c2.2.2.1, c2.2.2.2.1, c2.2.2.2.2) H13)
def h_code_shapeOf : Hint := .no
theorem cQaw (op_ : Int) {H : Heap} {k : ByteArray × Bool × Int × Int × Int → Heap → Prop} (h : vQaw op_ H k) : CallT Pg fQay [.int .i64 op_] (.one (.agg [.str, .bool, (.int .i64), (.int .i64), (.int .i64)])) H k :=
 call_of_E (h := h_code_shapeOf) Pg_mixed Tryz.func97 (by kernel_rfl) (by kernel_rfl) (by kernel_rfl) (by kernel_rfl) (Eq.mpr (by kernel_rfl) h)
def vQax (op_ : Int) (H : Heap) (k : Bool → Heap → Prop) : Prop :=
 Jn (σ := Bool) (fun kk1 =>
 Br (op_ == 4) (
 kk1 true H) (
 Jn (σ := Bool) (fun kk2 =>
 Br (op_ == 5) (
 kk2 true H) (
 Jn (σ := Bool) (fun kk3 =>
 Br (op_ == 25) (
 kk3 true H) (
 Jn (σ := Bool) (fun kk4 =>
 Br (op_ == 26) (
 kk4 true H) (
 Jn (σ := Bool) (fun kk5 =>
 Br (op_ == 27) (
 kk5 true H) (
 Jn (σ := Bool) (fun kk6 =>
 Br (op_ == 28) (
 kk6 true H) (
 Jn (σ := Bool) (fun kk7 =>
 Br (op_ == 29) (
 kk7 true H) (
 Jn (σ := Bool) (fun kk8 =>
 Br (op_ == 30) (
 kk8 true H) (
 Jn (σ := Bool) (fun kk9 =>
 Br (op_ == 35) (
 kk9 true H) (
 kk9 (op_ == 23) H)) fun j9 H9 =>
 kk8 j9 H9)) fun j8 H8 =>
 kk7 j8 H8)) fun j7 H7 =>
 kk6 j7 H7)) fun j6 H6 =>
 kk5 j6 H6)) fun j5 H5 =>
 kk4 j5 H5)) fun j4 H4 =>
 kk3 j4 H4)) fun j3 H3 =>
 kk2 j3 H3)) fun j2 H2 =>
 kk1 j2 H2)) fun j1 H1 =>
 Br j1 (
 k true H1) (
 k false H1)
def h_machine_outer : Hint := (.two .no (.two (.two .no (.one (.two (.two .no (.join [(4, (.c .bool))] (.two .no (.two .no (.join [(4, (.c .bool))] (.two .no (.two .no (.join [(4, (.c .bool))] (.two .no (.two .no (.join [(4, (.c .bool))] (.two .no (.two .no (.join [(4, (.c .bool))] (.two .no (.two .no (.join [(4, (.c .bool))] (.two .no (.two .no (.join [(4, (.c .bool))] (.two .no (.two .no (.join [(4, (.c .bool))] (.two .no (.two .no (.join [(4, (.c .bool))] .no)))))))))))))))))))))))))) .no))) .no))
theorem cQax (op_ : Int) {H : Heap} {k : Bool → Heap → Prop} (h : vQax op_ H k) : CallT Pg fQaz [.int .i64 op_] (.one (.c .bool)) H k :=
 call_of_E (h := h_machine_outer) Pg_mixed Tryz.func98 (by kernel_rfl) (by kernel_rfl) (by kernel_rfl) (by kernel_rfl) (Eq.mpr (by kernel_rfl) h)
def vQay (r_ : Option Addr) (a_ : Int) (declared_ : Sl) (H : Heap) (k : Bool → Heap → Prop) : Prop :=
 Br (decide (a_ < 0)) (
 k false H) (
 Quo .i64 a_ 8 fun t1 =>
 Nw #[.int .i64 0] TQap H fun b1 H1 =>
 St (adr b1) (.int .i64 t1) H1 fun H2 =>
 NilCk r_ fun a1 =>
 Ld .raw (a1.add 18) H2 fun (x1 : Value) =>
 Ld (.int .i64) (adr b1) H2 fun (x2 : Int) =>
 MpL (.int .i64) (.c .sl) ⟨none, 0, 0⟩ x1 (.int .i64 x2) H2 fun (x3 : Sl) e1 =>
 Jn (σ := Bool) (fun kk1 =>
 Br e1 (
 Rem a_ 8 fun t2 =>
 Br (decide (t2 < (x3.len : Int))) (
 CallT Pg fQbe [slV declared_, .func (.func 150) #[] #[.pointer (some (adr b1))]] (.one (.c .bool)) H2 fun (r1 : Bool) H4 =>
 kk1 r1 H4) (
 kk1 false H2)) (
 kk1 false H2)) fun j1 H3 =>
 k j1 H3)
def h_machine_run_holds : Hint := (.two .no (.two .no (.two .no (.two .no (.two (.join [(6, (.c .bool))] .no) .no)))))
theorem cQay (r_ : Option Addr) (a_ : Int) (declared_ : Sl) {H : Heap} {k : Bool → Heap → Prop} (h : vQay r_ a_ declared_ H k) : CallT Pg fQa0 [.pointer r_, .int .i64 a_, slV declared_] (.one (.c .bool)) H k :=
 call_of_E (h := h_machine_run_holds) Pg_mixed Tryz.func99 (by kernel_rfl) (by kernel_rfl) (by kernel_rfl) (by kernel_rfl) (Eq.mpr (by kernel_rfl) h)
def vQaz (k_ : Int) (H : Heap) (k : Bool → Heap → Prop) : Prop :=
 Jn (σ := Bool) (fun kk1 =>
 Br (decide (k_ ≥ 1)) (
 kk1 (decide (k_ ≤ 12)) H) (
 kk1 false H)) fun j1 H1 =>
 k j1 H1
def h_machine_isKind : Hint := (.two .no (.two (.join [(2, (.c .bool))] .no) .no))
theorem cQaz (k_ : Int) {H : Heap} {k : Bool → Heap → Prop} (h : vQaz k_ H k) : CallT Pg fQa1 [.int .i64 k_] (.one (.c .bool)) H k :=
 call_of_E (h := h_machine_isKind) Pg_mixed Tryz.func100 (by kernel_rfl) (by kernel_rfl) (by kernel_rfl) (by kernel_rfl) (Eq.mpr (by kernel_rfl) h)
def vQa0 (f_ : Value) (H : Heap) (k : Int × Value → Heap → Prop) : Prop :=
 Nw (Value.cells f_) TQao H fun b1 H1 =>
 Nw #[.int .i64 0, .nilFunc] TQas H1 fun b2 H2 =>
 St ((adr b2).add 0) (.int .i64 2) H2 fun H3 =>
 StV ((adr b2).add 1) ((.func (.func 152) #[] #[.pointer (some (adr b1))])) H3 fun H4 =>
 LdC [(.int .i64), .raw] (adr b2) H4 fun (c1 : Int × Value) =>
 k (c1.1, c1.2) H4
def h_machine_of2 : Hint := .no
theorem cQa0 (f_ : Value) {H : Heap} {k : Int × Value → Heap → Prop} (h : vQa0 f_ H k) : CallT Pg fQa2 [f_] (.one (.agg [(.int .i64), .raw])) H k :=
 call_of_E (h := h_machine_of2) Pg_mixed Tryz.func101 (by kernel_rfl) (by kernel_rfl) (by kernel_rfl) (by kernel_rfl) (Eq.mpr (by kernel_rfl) h)
def vQa1 (f_ : Value) (H : Heap) (k : Int × Value → Heap → Prop) : Prop :=
 Nw (Value.cells f_) TQan H fun b1 H1 =>
 Nw #[.int .i64 0, .nilFunc] TQas H1 fun b2 H2 =>
 St ((adr b2).add 0) (.int .i64 1) H2 fun H3 =>
 StV ((adr b2).add 1) ((.func (.func 153) #[] #[.pointer (some (adr b1))])) H3 fun H4 =>
 LdC [(.int .i64), .raw] (adr b2) H4 fun (c1 : Int × Value) =>
 k (c1.1, c1.2) H4
def h_machine_of1 : Hint := .no
theorem cQa1 (f_ : Value) {H : Heap} {k : Int × Value → Heap → Prop} (h : vQa1 f_ H k) : CallT Pg fQa3 [f_] (.one (.agg [(.int .i64), .raw])) H k :=
 call_of_E (h := h_machine_of1) Pg_mixed Tryz.func109 (by kernel_rfl) (by kernel_rfl) (by kernel_rfl) (by kernel_rfl) (Eq.mpr (by kernel_rfl) h)
def vQa2 (b_ : Bool) (H : Heap) (k : Int → Heap → Prop) : Prop :=
 Br b_ (
 k 1 H) (
 k 0 H)
def h_machine_truth : Hint := .no
theorem cQa2 (b_ : Bool) {H : Heap} {k : Int → Heap → Prop} (h : vQa2 b_ H k) : CallT Pg fQa4 [.bool b_] (.one (.c (.int .i64))) H k :=
 call_of_E (h := h_machine_truth) Pg_mixed Tryz.func112 (by kernel_rfl) (by kernel_rfl) (by kernel_rfl) (by kernel_rfl) (Eq.mpr (by kernel_rfl) h)
def vQa3 (op_ : Int) (H : Heap) (k : (Int × Value) × Bool → Heap → Prop) : Prop :=
 Nw #[.int .i64 0, .nilFunc] TQas H fun b1 H1 =>
 Br (op_ == 12) (
 CallT Pg fQa2 [.func (.func 154) #[] #[]] (.one (.agg [(.int .i64), .raw])) H1 fun (r1 : Int × Value) H2 =>
 St ((adr b1).add 0) (.int .i64 r1.1) H2 fun H3 =>
 StV ((adr b1).add 1) r1.2 H3 fun H4 =>
 LdC [(.int .i64), .raw] (adr b1) H4 fun (c1 : Int × Value) =>
 k (((c1.1, c1.2), true)) H4) (
 Br (op_ == 13) (
 CallT Pg fQa2 [.func (.func 155) #[] #[]] (.one (.agg [(.int .i64), .raw])) H1 fun (r2 : Int × Value) H5 =>
 St ((adr b1).add 0) (.int .i64 r2.1) H5 fun H6 =>
 StV ((adr b1).add 1) r2.2 H6 fun H7 =>
 LdC [(.int .i64), .raw] (adr b1) H7 fun (c2 : Int × Value) =>
 k (((c2.1, c2.2), true)) H7) (
 Br (op_ == 14) (
 CallT Pg fQa2 [.func (.func 156) #[] #[]] (.one (.agg [(.int .i64), .raw])) H1 fun (r3 : Int × Value) H8 =>
 St ((adr b1).add 0) (.int .i64 r3.1) H8 fun H9 =>
 StV ((adr b1).add 1) r3.2 H9 fun H10 =>
 LdC [(.int .i64), .raw] (adr b1) H10 fun (c3 : Int × Value) =>
 k (((c3.1, c3.2), true)) H10) (
 Br (op_ == 15) (
 CallT Pg fQa2 [.func (.func 157) #[] #[]] (.one (.agg [(.int .i64), .raw])) H1 fun (r4 : Int × Value) H11 =>
 St ((adr b1).add 0) (.int .i64 r4.1) H11 fun H12 =>
 StV ((adr b1).add 1) r4.2 H12 fun H13 =>
 LdC [(.int .i64), .raw] (adr b1) H13 fun (c4 : Int × Value) =>
 k (((c4.1, c4.2), true)) H13) (
 Br (op_ == 16) (
 CallT Pg fQa2 [.func (.func 158) #[] #[]] (.one (.agg [(.int .i64), .raw])) H1 fun (r5 : Int × Value) H14 =>
 St ((adr b1).add 0) (.int .i64 r5.1) H14 fun H15 =>
 StV ((adr b1).add 1) r5.2 H15 fun H16 =>
 LdC [(.int .i64), .raw] (adr b1) H16 fun (c5 : Int × Value) =>
 k (((c5.1, c5.2), true)) H16) (
 Br (op_ == 17) (
 CallT Pg fQa2 [.func (.func 159) #[] #[]] (.one (.agg [(.int .i64), .raw])) H1 fun (r6 : Int × Value) H17 =>
 St ((adr b1).add 0) (.int .i64 r6.1) H17 fun H18 =>
 StV ((adr b1).add 1) r6.2 H18 fun H19 =>
 LdC [(.int .i64), .raw] (adr b1) H19 fun (c6 : Int × Value) =>
 k (((c6.1, c6.2), true)) H19) (
 St ((adr b1).add 0) (.int .i64 0) H1 fun H20 =>
 StV ((adr b1).add 1) (.nilFunc) H20 fun H21 =>
 LdC [(.int .i64), .raw] (adr b1) H21 fun (c7 : Int × Value) =>
 k (((c7.1, c7.2), false)) H21))))))
def h_machine_compared : Hint := .no
theorem cQa3 (op_ : Int) {H : Heap} {k : (Int × Value) × Bool → Heap → Prop} (h : vQa3 op_ H k) : CallT Pg fQa5 [.int .i64 op_] (.tup [(.agg [(.int .i64), .raw]), (.c .bool)]) H k :=
 call_of_E (h := h_machine_compared) Pg_mixed Tryz.func114 (by kernel_rfl) (by kernel_rfl) (by kernel_rfl) (by kernel_rfl) (Eq.mpr (by kernel_rfl) h)
def vQa4 (s_ : Sl) (H : Heap) (k : Sl → Heap → Prop) : Prop :=
 Br s_.a.isNone (
 k ⟨none, 0, 0⟩ H) (
 Nw #[] TQaq H fun b1 H1 =>
 App TQaq 1 8 #[.int .i64 0] ⟨some (adr b1), 0, 0⟩ s_ H1 fun l1 H2 =>
 k l1 H2)
def h_slices_Clone_Sl_int64_int64 : Hint := .no
theorem cQa4 (s_ : Sl) {H : Heap} {k : Sl → Heap → Prop} (h : vQa4 s_ H k) : CallT Pg fQa6 [slV s_] (.one (.c .sl)) H k :=
 call_of_E (h := h_slices_Clone_Sl_int64_int64) Pg_mixed Tryz.func115 (by kernel_rfl) (by kernel_rfl) (by kernel_rfl) (by kernel_rfl) (Eq.mpr (by kernel_rfl) h)
def vQa5 (a_ : Int) (H : Heap) (k : Int → Heap → Prop) : Prop :=
 Jn (σ := Bool) (fun kk1 =>
 Br (decide (a_ < 0)) (
 kk1 true H) (
 kk1 (decide (a_ > 1099511627776)) H)) fun j1 H1 =>
 Br j1 (
 k (-1) H1) (
 k a_ H1)
def h_machine_goal : Hint := (.two .no (.two (.two (.join [(8, (.c .bool))] .no) .no) .no))
theorem cQa5 (a_ : Int) {H : Heap} {k : Int → Heap → Prop} (h : vQa5 a_ H k) : CallT Pg fQa7 [.int .i64 a_] (.one (.c (.int .i64))) H k :=
 call_of_E (h := h_machine_goal) Pg_mixed Tryz.func116 (by kernel_rfl) (by kernel_rfl) (by kernel_rfl) (by kernel_rfl) (Eq.mpr (by kernel_rfl) h)
def vQa6 (r_ : Option Addr) (H : Heap) (k : Bool → Heap → Prop) : Prop :=
 NilCk r_ fun a1 =>
 Ld (.int .i64) ((a1.add 21).add 3) H fun (x1 : Int) =>
 Lt (IntKind.wrap .i64 (x1 + 1)) fun t1 =>
 NilCk r_ fun a2 =>
 St ((a2.add 21).add 3) (.int .i64 t1) H fun H1 =>
 NilCk r_ fun a3 =>
 St (a3.add 27) (.int .i64 0) H1 fun H2 =>
 NilCk r_ fun a4 =>
 Ld (.int .i64) ((a4.add 21).add 3) H2 fun (x2 : Int) =>
 k (decide (x2 ≤ 2000)) H2
def h_machine_run_step : Hint := .no
theorem cQa6 (r_ : Option Addr) {H : Heap} {k : Bool → Heap → Prop} (h : vQa6 r_ H k) : CallT Pg fQa8 [.pointer r_] (.one (.c .bool)) H k :=
 call_of_E (h := h_machine_run_step) Pg_mixed Tryz.func117 (by kernel_rfl) (by kernel_rfl) (by kernel_rfl) (by kernel_rfl) (Eq.mpr (by kernel_rfl) h)
def vQa7 (d_ : Option Addr) (n_ : Int) (H : Heap) (k : Int → Heap → Prop) : Prop :=
 Br (decide (n_ < 1)) (
 CallT Pg fQbf [.pointer d_] (.one (.c (.int .u64))) H fun (r1 : Int) H1 =>
 k 0 H1) (
 CallT Pg fQbg [.pointer d_, .int .u64 (IntKind.wrap .u64 n_)] (.one (.c (.int .u64))) H fun (r2 : Int) H2 =>
 k (IntKind.wrap .i64 r2) H2)
def h_dice_Dice_Below : Hint := .no
theorem cQa7 (d_ : Option Addr) (n_ : Int) {H : Heap} {k : Int → Heap → Prop} (h : vQa7 d_ n_ H k) : CallT Pg fQa9 [.pointer d_, .int .i64 n_] (.one (.c (.int .i64))) H k :=
 call_of_E (h := h_dice_Dice_Below) Pg_mixed Tryz.func118 (by kernel_rfl) (by kernel_rfl) (by kernel_rfl) (by kernel_rfl) (Eq.mpr (by kernel_rfl) h)
def vQa8 (x_ : Sl) (cmp_ : Value) (H : Heap) (k : Unit → Heap → Prop) : Prop :=
 CallT Pg fQbh [slV x_, .int .i64 (x_.len : Int), cmp_] (.tup []) H fun (r1 : Unit) H1 =>
 k () H1
def h_slices_SortStableFunc_Sl_api_Part_api_Part : Hint := .no
theorem cQa8 (x_ : Sl) (cmp_ : Value) {H : Heap} {k : Unit → Heap → Prop} (h : vQa8 x_ cmp_ H k) : CallT Pg fQbb [slV x_, cmp_] (.tup []) H k :=
 call_of_E (h := h_slices_SortStableFunc_Sl_api_Part_api_Part) Pg_mixed Tryz.func120 (by kernel_rfl) (by kernel_rfl) (by kernel_rfl) (by kernel_rfl) (Eq.mpr (by kernel_rfl) h)
def vQa9 (op_ : Int) (H : Heap) (k : ByteArray × Bool × Int × Int × Int → Heap → Prop) : Prop :=
 Nw #[.string ByteArray.empty, .bool false, .int .i64 0, .int .i64 0, .int .i64 0] TQal H fun b1 H1 =>
 Br (op_ == 1) (
 St ((adr b1).add 0) (.string (⟨#[112, 117, 115, 104]⟩ : ByteArray)) H1 fun H2 =>
 St ((adr b1).add 1) (.bool true) H2 fun H3 =>
 St ((adr b1).add 2) (.int .i64 0) H3 fun H4 =>
 St ((adr b1).add 3) (.int .i64 1) H4 fun H5 =>
 St ((adr b1).add 4) (.int .i64 0) H5 fun H6 =>
 LdC [.str, .bool, (.int .i64), (.int .i64), (.int .i64)] (adr b1) H6 fun (c1 : ByteArray × Bool × Int × Int × Int) =>
 k (c1.1, c1.2.1, c1.2.2.1, c1.2.2.2.1, c1.2.2.2.2) H6) (
 Br (op_ == 2) (
 St ((adr b1).add 0) (.string (⟨#[108, 111, 97, 100]⟩ : ByteArray)) H1 fun H7 =>
 St ((adr b1).add 1) (.bool true) H7 fun H8 =>
 St ((adr b1).add 2) (.int .i64 0) H8 fun H9 =>
 St ((adr b1).add 3) (.int .i64 1) H9 fun H10 =>
 St ((adr b1).add 4) (.int .i64 0) H10 fun H11 =>
 LdC [.str, .bool, (.int .i64), (.int .i64), (.int .i64)] (adr b1) H11 fun (c2 : ByteArray × Bool × Int × Int × Int) =>
 k (c2.1, c2.2.1, c2.2.2.1, c2.2.2.2.1, c2.2.2.2.2) H11) (
 Br (op_ == 3) (
 St ((adr b1).add 0) (.string (⟨#[115, 116, 111, 114, 101]⟩ : ByteArray)) H1 fun H12 =>
 St ((adr b1).add 1) (.bool true) H12 fun H13 =>
 St ((adr b1).add 2) (.int .i64 1) H13 fun H14 =>
 St ((adr b1).add 3) (.int .i64 0) H14 fun H15 =>
 St ((adr b1).add 4) (.int .i64 0) H15 fun H16 =>
 LdC [.str, .bool, (.int .i64), (.int .i64), (.int .i64)] (adr b1) H16 fun (c3 : ByteArray × Bool × Int × Int × Int) =>
 k (c3.1, c3.2.1, c3.2.2.1, c3.2.2.2.1, c3.2.2.2.2) H16) (
 Br (op_ == 4) (
 St ((adr b1).add 0) (.string (⟨#[102, 105, 101, 108, 100]⟩ : ByteArray)) H1 fun H17 =>
 St ((adr b1).add 1) (.bool true) H17 fun H18 =>
 St ((adr b1).add 2) (.int .i64 0) H18 fun H19 =>
 St ((adr b1).add 3) (.int .i64 1) H19 fun H20 =>
 St ((adr b1).add 4) (.int .i64 0) H20 fun H21 =>
 LdC [.str, .bool, (.int .i64), (.int .i64), (.int .i64)] (adr b1) H21 fun (c4 : ByteArray × Bool × Int × Int × Int) =>
 k (c4.1, c4.2.1, c4.2.2.1, c4.2.2.2.1, c4.2.2.2.2) H21) (
 Br (op_ == 5) (
 St ((adr b1).add 0) (.string (⟨#[112, 117, 116]⟩ : ByteArray)) H1 fun H22 =>
 St ((adr b1).add 1) (.bool true) H22 fun H23 =>
 St ((adr b1).add 2) (.int .i64 1) H23 fun H24 =>
 St ((adr b1).add 3) (.int .i64 0) H24 fun H25 =>
 St ((adr b1).add 4) (.int .i64 0) H25 fun H26 =>
 LdC [.str, .bool, (.int .i64), (.int .i64), (.int .i64)] (adr b1) H26 fun (c5 : ByteArray × Bool × Int × Int × Int) =>
 k (c5.1, c5.2.1, c5.2.2.1, c5.2.2.2.1, c5.2.2.2.2) H26) (
 Br (op_ == 6) (
 St ((adr b1).add 0) (.string (⟨#[97, 100, 100]⟩ : ByteArray)) H1 fun H27 =>
 St ((adr b1).add 1) (.bool false) H27 fun H28 =>
 St ((adr b1).add 2) (.int .i64 2) H28 fun H29 =>
 St ((adr b1).add 3) (.int .i64 1) H29 fun H30 =>
 St ((adr b1).add 4) (.int .i64 0) H30 fun H31 =>
 LdC [.str, .bool, (.int .i64), (.int .i64), (.int .i64)] (adr b1) H31 fun (c6 : ByteArray × Bool × Int × Int × Int) =>
 k (c6.1, c6.2.1, c6.2.2.1, c6.2.2.2.1, c6.2.2.2.2) H31) (
 Br (op_ == 7) (
 St ((adr b1).add 0) (.string (⟨#[115, 117, 98]⟩ : ByteArray)) H1 fun H32 =>
 St ((adr b1).add 1) (.bool false) H32 fun H33 =>
 St ((adr b1).add 2) (.int .i64 2) H33 fun H34 =>
 St ((adr b1).add 3) (.int .i64 1) H34 fun H35 =>
 St ((adr b1).add 4) (.int .i64 0) H35 fun H36 =>
 LdC [.str, .bool, (.int .i64), (.int .i64), (.int .i64)] (adr b1) H36 fun (c7 : ByteArray × Bool × Int × Int × Int) =>
 k (c7.1, c7.2.1, c7.2.2.1, c7.2.2.2.1, c7.2.2.2.2) H36) (
 Br (op_ == 8) (
 St ((adr b1).add 0) (.string (⟨#[109, 117, 108]⟩ : ByteArray)) H1 fun H37 =>
 St ((adr b1).add 1) (.bool false) H37 fun H38 =>
 St ((adr b1).add 2) (.int .i64 2) H38 fun H39 =>
 St ((adr b1).add 3) (.int .i64 1) H39 fun H40 =>
 St ((adr b1).add 4) (.int .i64 0) H40 fun H41 =>
 LdC [.str, .bool, (.int .i64), (.int .i64), (.int .i64)] (adr b1) H41 fun (c8 : ByteArray × Bool × Int × Int × Int) =>
 k (c8.1, c8.2.1, c8.2.2.1, c8.2.2.2.1, c8.2.2.2.2) H41) (
 Br (op_ == 9) (
 St ((adr b1).add 0) (.string (⟨#[100, 105, 118]⟩ : ByteArray)) H1 fun H42 =>
 St ((adr b1).add 1) (.bool false) H42 fun H43 =>
 St ((adr b1).add 2) (.int .i64 2) H43 fun H44 =>
 St ((adr b1).add 3) (.int .i64 1) H44 fun H45 =>
 St ((adr b1).add 4) (.int .i64 0) H45 fun H46 =>
 LdC [.str, .bool, (.int .i64), (.int .i64), (.int .i64)] (adr b1) H46 fun (c9 : ByteArray × Bool × Int × Int × Int) =>
 k (c9.1, c9.2.1, c9.2.2.1, c9.2.2.2.1, c9.2.2.2.2) H46) (
 Br (op_ == 10) (
 St ((adr b1).add 0) (.string (⟨#[114, 101, 109]⟩ : ByteArray)) H1 fun H47 =>
 St ((adr b1).add 1) (.bool false) H47 fun H48 =>
 St ((adr b1).add 2) (.int .i64 2) H48 fun H49 =>
 St ((adr b1).add 3) (.int .i64 1) H49 fun H50 =>
 St ((adr b1).add 4) (.int .i64 0) H50 fun H51 =>
 LdC [.str, .bool, (.int .i64), (.int .i64), (.int .i64)] (adr b1) H51 fun (c10 : ByteArray × Bool × Int × Int × Int) =>
 k (c10.1, c10.2.1, c10.2.2.1, c10.2.2.2.1, c10.2.2.2.2) H51) (
 Br (op_ == 11) (
 St ((adr b1).add 0) (.string (⟨#[110, 101, 103]⟩ : ByteArray)) H1 fun H52 =>
 St ((adr b1).add 1) (.bool false) H52 fun H53 =>
 St ((adr b1).add 2) (.int .i64 1) H53 fun H54 =>
 St ((adr b1).add 3) (.int .i64 1) H54 fun H55 =>
 St ((adr b1).add 4) (.int .i64 0) H55 fun H56 =>
 LdC [.str, .bool, (.int .i64), (.int .i64), (.int .i64)] (adr b1) H56 fun (c11 : ByteArray × Bool × Int × Int × Int) =>
 k (c11.1, c11.2.1, c11.2.2.1, c11.2.2.2.1, c11.2.2.2.2) H56) (
 Br (op_ == 12) (
 St ((adr b1).add 0) (.string (⟨#[101, 113]⟩ : ByteArray)) H1 fun H57 =>
 St ((adr b1).add 1) (.bool false) H57 fun H58 =>
 St ((adr b1).add 2) (.int .i64 2) H58 fun H59 =>
 St ((adr b1).add 3) (.int .i64 1) H59 fun H60 =>
 St ((adr b1).add 4) (.int .i64 0) H60 fun H61 =>
 LdC [.str, .bool, (.int .i64), (.int .i64), (.int .i64)] (adr b1) H61 fun (c12 : ByteArray × Bool × Int × Int × Int) =>
 k (c12.1, c12.2.1, c12.2.2.1, c12.2.2.2.1, c12.2.2.2.2) H61) (
 Br (op_ == 13) (
 St ((adr b1).add 0) (.string (⟨#[110, 101]⟩ : ByteArray)) H1 fun H62 =>
 St ((adr b1).add 1) (.bool false) H62 fun H63 =>
 St ((adr b1).add 2) (.int .i64 2) H63 fun H64 =>
 St ((adr b1).add 3) (.int .i64 1) H64 fun H65 =>
 St ((adr b1).add 4) (.int .i64 0) H65 fun H66 =>
 LdC [.str, .bool, (.int .i64), (.int .i64), (.int .i64)] (adr b1) H66 fun (c13 : ByteArray × Bool × Int × Int × Int) =>
 k (c13.1, c13.2.1, c13.2.2.1, c13.2.2.2.1, c13.2.2.2.2) H66) (
 Br (op_ == 14) (
 St ((adr b1).add 0) (.string (⟨#[108, 116]⟩ : ByteArray)) H1 fun H67 =>
 St ((adr b1).add 1) (.bool false) H67 fun H68 =>
 St ((adr b1).add 2) (.int .i64 2) H68 fun H69 =>
 St ((adr b1).add 3) (.int .i64 1) H69 fun H70 =>
 St ((adr b1).add 4) (.int .i64 0) H70 fun H71 =>
 LdC [.str, .bool, (.int .i64), (.int .i64), (.int .i64)] (adr b1) H71 fun (c14 : ByteArray × Bool × Int × Int × Int) =>
 k (c14.1, c14.2.1, c14.2.2.1, c14.2.2.2.1, c14.2.2.2.2) H71) (
 Br (op_ == 15) (
 St ((adr b1).add 0) (.string (⟨#[108, 101]⟩ : ByteArray)) H1 fun H72 =>
 St ((adr b1).add 1) (.bool false) H72 fun H73 =>
 St ((adr b1).add 2) (.int .i64 2) H73 fun H74 =>
 St ((adr b1).add 3) (.int .i64 1) H74 fun H75 =>
 St ((adr b1).add 4) (.int .i64 0) H75 fun H76 =>
 LdC [.str, .bool, (.int .i64), (.int .i64), (.int .i64)] (adr b1) H76 fun (c15 : ByteArray × Bool × Int × Int × Int) =>
 k (c15.1, c15.2.1, c15.2.2.1, c15.2.2.2.1, c15.2.2.2.2) H76) (
 Br (op_ == 16) (
 St ((adr b1).add 0) (.string (⟨#[103, 116]⟩ : ByteArray)) H1 fun H77 =>
 St ((adr b1).add 1) (.bool false) H77 fun H78 =>
 St ((adr b1).add 2) (.int .i64 2) H78 fun H79 =>
 St ((adr b1).add 3) (.int .i64 1) H79 fun H80 =>
 St ((adr b1).add 4) (.int .i64 0) H80 fun H81 =>
 LdC [.str, .bool, (.int .i64), (.int .i64), (.int .i64)] (adr b1) H81 fun (c16 : ByteArray × Bool × Int × Int × Int) =>
 k (c16.1, c16.2.1, c16.2.2.1, c16.2.2.2.1, c16.2.2.2.2) H81) (
 Br (op_ == 17) (
 St ((adr b1).add 0) (.string (⟨#[103, 101]⟩ : ByteArray)) H1 fun H82 =>
 St ((adr b1).add 1) (.bool false) H82 fun H83 =>
 St ((adr b1).add 2) (.int .i64 2) H83 fun H84 =>
 St ((adr b1).add 3) (.int .i64 1) H84 fun H85 =>
 St ((adr b1).add 4) (.int .i64 0) H85 fun H86 =>
 LdC [.str, .bool, (.int .i64), (.int .i64), (.int .i64)] (adr b1) H86 fun (c17 : ByteArray × Bool × Int × Int × Int) =>
 k (c17.1, c17.2.1, c17.2.2.1, c17.2.2.2.1, c17.2.2.2.2) H86) (
 Br (op_ == 18) (
 St ((adr b1).add 0) (.string (⟨#[110, 111, 116]⟩ : ByteArray)) H1 fun H87 =>
 St ((adr b1).add 1) (.bool false) H87 fun H88 =>
 St ((adr b1).add 2) (.int .i64 1) H88 fun H89 =>
 St ((adr b1).add 3) (.int .i64 1) H89 fun H90 =>
 St ((adr b1).add 4) (.int .i64 0) H90 fun H91 =>
 LdC [.str, .bool, (.int .i64), (.int .i64), (.int .i64)] (adr b1) H91 fun (c18 : ByteArray × Bool × Int × Int × Int) =>
 k (c18.1, c18.2.1, c18.2.2.1, c18.2.2.2.1, c18.2.2.2.2) H91) (
 St ((adr b1).add 0) (.string ByteArray.empty) H1 fun H92 =>
 St ((adr b1).add 1) (.bool false) H92 fun H93 =>
 St ((adr b1).add 2) (.int .i64 0) H93 fun H94 =>
 St ((adr b1).add 3) (.int .i64 0) H94 fun H95 =>
 St ((adr b1).add 4) (.int .i64 0) H95 fun H96 =>
 LdC [.str, .bool, (.int .i64), (.int .i64), (.int .i64)] (adr b1) H96 fun (c19 : ByteArray × Bool × Int × Int × Int) =>
 k (c19.1, c19.2.1, c19.2.2.1, c19.2.2.2.1, c19.2.2.2.2) H96))))))))))))))))))
def h_code_reckons : Hint := .no
theorem cQa9 (op_ : Int) {H : Heap} {k : ByteArray × Bool × Int × Int × Int → Heap → Prop} (h : vQa9 op_ H k) : CallT Pg fQbc [.int .i64 op_] (.one (.agg [.str, .bool, (.int .i64), (.int .i64), (.int .i64)])) H k :=
 call_of_E (h := h_code_reckons) Pg_mixed Tryz.func147 (by kernel_rfl) (by kernel_rfl) (by kernel_rfl) (by kernel_rfl) (Eq.mpr (by kernel_rfl) h)
def vQba (op_ : Int) (H : Heap) (k : ByteArray × Bool × Int × Int × Int → Heap → Prop) : Prop :=
 Nw #[.string ByteArray.empty, .bool false, .int .i64 0, .int .i64 0, .int .i64 0] TQal H fun b1 H1 =>
 Br (op_ == 19) (
 St ((adr b1).add 0) (.string (⟨#[106, 117, 109, 112]⟩ : ByteArray)) H1 fun H2 =>
 St ((adr b1).add 1) (.bool true) H2 fun H3 =>
 St ((adr b1).add 2) (.int .i64 0) H3 fun H4 =>
 St ((adr b1).add 3) (.int .i64 0) H4 fun H5 =>
 St ((adr b1).add 4) (.int .i64 0) H5 fun H6 =>
 LdC [.str, .bool, (.int .i64), (.int .i64), (.int .i64)] (adr b1) H6 fun (c1 : ByteArray × Bool × Int × Int × Int) =>
 k (c1.1, c1.2.1, c1.2.2.1, c1.2.2.2.1, c1.2.2.2.2) H6) (
 Br (op_ == 20) (
 St ((adr b1).add 0) (.string (⟨#[122, 101, 114, 111]⟩ : ByteArray)) H1 fun H7 =>
 St ((adr b1).add 1) (.bool true) H7 fun H8 =>
 St ((adr b1).add 2) (.int .i64 1) H8 fun H9 =>
 St ((adr b1).add 3) (.int .i64 0) H9 fun H10 =>
 St ((adr b1).add 4) (.int .i64 0) H10 fun H11 =>
 LdC [.str, .bool, (.int .i64), (.int .i64), (.int .i64)] (adr b1) H11 fun (c2 : ByteArray × Bool × Int × Int × Int) =>
 k (c2.1, c2.2.1, c2.2.2.1, c2.2.2.2.1, c2.2.2.2.2) H11) (
 Br (op_ == 21) (
 St ((adr b1).add 0) (.string (⟨#[99, 97, 108, 108]⟩ : ByteArray)) H1 fun H12 =>
 St ((adr b1).add 1) (.bool true) H12 fun H13 =>
 St ((adr b1).add 2) (.int .i64 0) H13 fun H14 =>
 St ((adr b1).add 3) (.int .i64 1) H14 fun H15 =>
 St ((adr b1).add 4) (.int .i64 1) H15 fun H16 =>
 LdC [.str, .bool, (.int .i64), (.int .i64), (.int .i64)] (adr b1) H16 fun (c3 : ByteArray × Bool × Int × Int × Int) =>
 k (c3.1, c3.2.1, c3.2.2.1, c3.2.2.2.1, c3.2.2.2.2) H16) (
 Br (op_ == 22) (
 St ((adr b1).add 0) (.string (⟨#[114, 101, 116]⟩ : ByteArray)) H1 fun H17 =>
 St ((adr b1).add 1) (.bool false) H17 fun H18 =>
 St ((adr b1).add 2) (.int .i64 1) H18 fun H19 =>
 St ((adr b1).add 3) (.int .i64 0) H19 fun H20 =>
 St ((adr b1).add 4) (.int .i64 0) H20 fun H21 =>
 LdC [.str, .bool, (.int .i64), (.int .i64), (.int .i64)] (adr b1) H21 fun (c4 : ByteArray × Bool × Int × Int × Int) =>
 k (c4.1, c4.2.1, c4.2.2.1, c4.2.2.2.1, c4.2.2.2.2) H21) (
 Br (op_ == 23) (
 St ((adr b1).add 0) (.string (⟨#[115, 116, 111, 112]⟩ : ByteArray)) H1 fun H22 =>
 St ((adr b1).add 1) (.bool false) H22 fun H23 =>
 St ((adr b1).add 2) (.int .i64 0) H23 fun H24 =>
 St ((adr b1).add 3) (.int .i64 0) H24 fun H25 =>
 St ((adr b1).add 4) (.int .i64 0) H25 fun H26 =>
 LdC [.str, .bool, (.int .i64), (.int .i64), (.int .i64)] (adr b1) H26 fun (c5 : ByteArray × Bool × Int × Int × Int) =>
 k (c5.1, c5.2.1, c5.2.2.1, c5.2.2.2.1, c5.2.2.2.2) H26) (
 Br (op_ == 24) (
 St ((adr b1).add 0) (.string (⟨#[115, 116, 101, 112]⟩ : ByteArray)) H1 fun H27 =>
 St ((adr b1).add 1) (.bool false) H27 fun H28 =>
 St ((adr b1).add 2) (.int .i64 0) H28 fun H29 =>
 St ((adr b1).add 3) (.int .i64 0) H29 fun H30 =>
 St ((adr b1).add 4) (.int .i64 0) H30 fun H31 =>
 LdC [.str, .bool, (.int .i64), (.int .i64), (.int .i64)] (adr b1) H31 fun (c6 : ByteArray × Bool × Int × Int × Int) =>
 k (c6.1, c6.2.1, c6.2.2.1, c6.2.2.2.1, c6.2.2.2.2) H31) (
 Br (op_ == 25) (
 St ((adr b1).add 0) (.string (⟨#[101, 109, 105, 116]⟩ : ByteArray)) H1 fun H32 =>
 St ((adr b1).add 1) (.bool false) H32 fun H33 =>
 St ((adr b1).add 2) (.int .i64 2) H33 fun H34 =>
 St ((adr b1).add 3) (.int .i64 0) H34 fun H35 =>
 St ((adr b1).add 4) (.int .i64 0) H35 fun H36 =>
 LdC [.str, .bool, (.int .i64), (.int .i64), (.int .i64)] (adr b1) H36 fun (c7 : ByteArray × Bool × Int × Int × Int) =>
 k (c7.1, c7.2.1, c7.2.2.1, c7.2.2.2.1, c7.2.2.2.2) H36) (
 Br (op_ == 26) (
 St ((adr b1).add 0) (.string (⟨#[112, 97, 114, 116]⟩ : ByteArray)) H1 fun H37 =>
 St ((adr b1).add 1) (.bool true) H37 fun H38 =>
 St ((adr b1).add 2) (.int .i64 0) H38 fun H39 =>
 St ((adr b1).add 3) (.int .i64 0) H39 fun H40 =>
 St ((adr b1).add 4) (.int .i64 2) H40 fun H41 =>
 LdC [.str, .bool, (.int .i64), (.int .i64), (.int .i64)] (adr b1) H41 fun (c8 : ByteArray × Bool × Int × Int × Int) =>
 k (c8.1, c8.2.1, c8.2.2.1, c8.2.2.2.1, c8.2.2.2.2) H41) (
 Br (op_ == 27) (
 St ((adr b1).add 0) (.string (⟨#[115, 112, 97, 119, 110]⟩ : ByteArray)) H1 fun H42 =>
 St ((adr b1).add 1) (.bool false) H42 fun H43 =>
 St ((adr b1).add 2) (.int .i64 0) H43 fun H44 =>
 St ((adr b1).add 3) (.int .i64 0) H44 fun H45 =>
 St ((adr b1).add 4) (.int .i64 0) H45 fun H46 =>
 LdC [.str, .bool, (.int .i64), (.int .i64), (.int .i64)] (adr b1) H46 fun (c9 : ByteArray × Bool × Int × Int × Int) =>
 k (c9.1, c9.2.1, c9.2.2.1, c9.2.2.2.1, c9.2.2.2.2) H46) (
 Br (op_ == 28) (
 St ((adr b1).add 0) (.string (⟨#[103, 105, 118, 101]⟩ : ByteArray)) H1 fun H47 =>
 St ((adr b1).add 1) (.bool true) H47 fun H48 =>
 St ((adr b1).add 2) (.int .i64 0) H48 fun H49 =>
 St ((adr b1).add 3) (.int .i64 0) H49 fun H50 =>
 St ((adr b1).add 4) (.int .i64 2) H50 fun H51 =>
 LdC [.str, .bool, (.int .i64), (.int .i64), (.int .i64)] (adr b1) H51 fun (c10 : ByteArray × Bool × Int × Int × Int) =>
 k (c10.1, c10.2.1, c10.2.2.1, c10.2.2.2.1, c10.2.2.2.2) H51) (
 Br (op_ == 29) (
 St ((adr b1).add 0) (.string (⟨#[116, 97, 107, 101]⟩ : ByteArray)) H1 fun H52 =>
 St ((adr b1).add 1) (.bool true) H52 fun H53 =>
 St ((adr b1).add 2) (.int .i64 0) H53 fun H54 =>
 St ((adr b1).add 3) (.int .i64 0) H54 fun H55 =>
 St ((adr b1).add 4) (.int .i64 0) H55 fun H56 =>
 LdC [.str, .bool, (.int .i64), (.int .i64), (.int .i64)] (adr b1) H56 fun (c11 : ByteArray × Bool × Int × Int × Int) =>
 k (c11.1, c11.2.1, c11.2.2.1, c11.2.2.2.1, c11.2.2.2.2) H56) (
 Br (op_ == 30) (
 St ((adr b1).add 0) (.string (⟨#[100, 105, 101]⟩ : ByteArray)) H1 fun H57 =>
 St ((adr b1).add 1) (.bool false) H57 fun H58 =>
 St ((adr b1).add 2) (.int .i64 0) H58 fun H59 =>
 St ((adr b1).add 3) (.int .i64 0) H59 fun H60 =>
 St ((adr b1).add 4) (.int .i64 0) H60 fun H61 =>
 LdC [.str, .bool, (.int .i64), (.int .i64), (.int .i64)] (adr b1) H61 fun (c12 : ByteArray × Bool × Int × Int × Int) =>
 k (c12.1, c12.2.1, c12.2.2.1, c12.2.2.2.1, c12.2.2.2.2) H61) (
 Br (op_ == 31) (
 St ((adr b1).add 0) (.string (⟨#[114, 97, 110, 100]⟩ : ByteArray)) H1 fun H62 =>
 St ((adr b1).add 1) (.bool false) H62 fun H63 =>
 St ((adr b1).add 2) (.int .i64 1) H63 fun H64 =>
 St ((adr b1).add 3) (.int .i64 1) H64 fun H65 =>
 St ((adr b1).add 4) (.int .i64 0) H65 fun H66 =>
 LdC [.str, .bool, (.int .i64), (.int .i64), (.int .i64)] (adr b1) H66 fun (c13 : ByteArray × Bool × Int × Int × Int) =>
 k (c13.1, c13.2.1, c13.2.2.1, c13.2.2.2.1, c13.2.2.2.2) H66) (
 Br (op_ == 32) (
 St ((adr b1).add 0) (.string (⟨#[116, 105, 99, 107]⟩ : ByteArray)) H1 fun H67 =>
 St ((adr b1).add 1) (.bool false) H67 fun H68 =>
 St ((adr b1).add 2) (.int .i64 0) H68 fun H69 =>
 St ((adr b1).add 3) (.int .i64 1) H69 fun H70 =>
 St ((adr b1).add 4) (.int .i64 0) H70 fun H71 =>
 LdC [.str, .bool, (.int .i64), (.int .i64), (.int .i64)] (adr b1) H71 fun (c14 : ByteArray × Bool × Int × Int × Int) =>
 k (c14.1, c14.2.1, c14.2.2.1, c14.2.2.2.1, c14.2.2.2.2) H71) (
 Br (op_ == 33) (
 St ((adr b1).add 0) (.string (⟨#[109, 101]⟩ : ByteArray)) H1 fun H72 =>
 St ((adr b1).add 1) (.bool false) H72 fun H73 =>
 St ((adr b1).add 2) (.int .i64 0) H73 fun H74 =>
 St ((adr b1).add 3) (.int .i64 1) H74 fun H75 =>
 St ((adr b1).add 4) (.int .i64 0) H75 fun H76 =>
 LdC [.str, .bool, (.int .i64), (.int .i64), (.int .i64)] (adr b1) H76 fun (c15 : ByteArray × Bool × Int × Int × Int) =>
 k (c15.1, c15.2.1, c15.2.2.1, c15.2.2.2.1, c15.2.2.2.2) H76) (
 Br (op_ == 34) (
 St ((adr b1).add 0) (.string (⟨#[105, 110, 112, 117, 116]⟩ : ByteArray)) H1 fun H77 =>
 St ((adr b1).add 1) (.bool false) H77 fun H78 =>
 St ((adr b1).add 2) (.int .i64 2) H78 fun H79 =>
 St ((adr b1).add 3) (.int .i64 1) H79 fun H80 =>
 St ((adr b1).add 4) (.int .i64 0) H80 fun H81 =>
 LdC [.str, .bool, (.int .i64), (.int .i64), (.int .i64)] (adr b1) H81 fun (c16 : ByteArray × Bool × Int × Int × Int) =>
 k (c16.1, c16.2.1, c16.2.2.1, c16.2.2.2.1, c16.2.2.2.2) H81) (
 Br (op_ == 35) (
 St ((adr b1).add 0) (.string (⟨#[104, 97, 115]⟩ : ByteArray)) H1 fun H82 =>
 St ((adr b1).add 1) (.bool true) H82 fun H83 =>
 St ((adr b1).add 2) (.int .i64 0) H83 fun H84 =>
 St ((adr b1).add 3) (.int .i64 1) H84 fun H85 =>
 St ((adr b1).add 4) (.int .i64 0) H85 fun H86 =>
 LdC [.str, .bool, (.int .i64), (.int .i64), (.int .i64)] (adr b1) H86 fun (c17 : ByteArray × Bool × Int × Int × Int) =>
 k (c17.1, c17.2.1, c17.2.2.1, c17.2.2.2.1, c17.2.2.2.2) H86) (
 Br (op_ == 36) (
 St ((adr b1).add 0) (.string (⟨#[109, 105, 110]⟩ : ByteArray)) H1 fun H87 =>
 St ((adr b1).add 1) (.bool false) H87 fun H88 =>
 St ((adr b1).add 2) (.int .i64 2) H88 fun H89 =>
 St ((adr b1).add 3) (.int .i64 1) H89 fun H90 =>
 St ((adr b1).add 4) (.int .i64 0) H90 fun H91 =>
 LdC [.str, .bool, (.int .i64), (.int .i64), (.int .i64)] (adr b1) H91 fun (c18 : ByteArray × Bool × Int × Int × Int) =>
 k (c18.1, c18.2.1, c18.2.2.1, c18.2.2.2.1, c18.2.2.2.2) H91) (
 Br (op_ == 37) (
 St ((adr b1).add 0) (.string (⟨#[109, 97, 120]⟩ : ByteArray)) H1 fun H92 =>
 St ((adr b1).add 1) (.bool false) H92 fun H93 =>
 St ((adr b1).add 2) (.int .i64 2) H93 fun H94 =>
 St ((adr b1).add 3) (.int .i64 1) H94 fun H95 =>
 St ((adr b1).add 4) (.int .i64 0) H95 fun H96 =>
 LdC [.str, .bool, (.int .i64), (.int .i64), (.int .i64)] (adr b1) H96 fun (c19 : ByteArray × Bool × Int × Int × Int) =>
 k (c19.1, c19.2.1, c19.2.2.1, c19.2.2.2.1, c19.2.2.2.2) H96) (
 Br (op_ == 38) (
 St ((adr b1).add 0) (.string (⟨#[97, 98, 115]⟩ : ByteArray)) H1 fun H97 =>
 St ((adr b1).add 1) (.bool false) H97 fun H98 =>
 St ((adr b1).add 2) (.int .i64 1) H98 fun H99 =>
 St ((adr b1).add 3) (.int .i64 1) H99 fun H100 =>
 St ((adr b1).add 4) (.int .i64 0) H100 fun H101 =>
 LdC [.str, .bool, (.int .i64), (.int .i64), (.int .i64)] (adr b1) H101 fun (c20 : ByteArray × Bool × Int × Int × Int) =>
 k (c20.1, c20.2.1, c20.2.2.1, c20.2.2.2.1, c20.2.2.2.2) H101) (
 Br (op_ == 39) (
 St ((adr b1).add 0) (.string (⟨#[100, 114, 111, 112]⟩ : ByteArray)) H1 fun H102 =>
 St ((adr b1).add 1) (.bool false) H102 fun H103 =>
 St ((adr b1).add 2) (.int .i64 1) H103 fun H104 =>
 St ((adr b1).add 3) (.int .i64 0) H104 fun H105 =>
 St ((adr b1).add 4) (.int .i64 0) H105 fun H106 =>
 LdC [.str, .bool, (.int .i64), (.int .i64), (.int .i64)] (adr b1) H106 fun (c21 : ByteArray × Bool × Int × Int × Int) =>
 k (c21.1, c21.2.1, c21.2.2.1, c21.2.2.2.1, c21.2.2.2.2) H106) (
 St ((adr b1).add 0) (.string ByteArray.empty) H1 fun H107 =>
 St ((adr b1).add 1) (.bool false) H107 fun H108 =>
 St ((adr b1).add 2) (.int .i64 0) H108 fun H109 =>
 St ((adr b1).add 3) (.int .i64 0) H109 fun H110 =>
 St ((adr b1).add 4) (.int .i64 0) H110 fun H111 =>
 LdC [.str, .bool, (.int .i64), (.int .i64), (.int .i64)] (adr b1) H111 fun (c22 : ByteArray × Bool × Int × Int × Int) =>
 k (c22.1, c22.2.1, c22.2.2.1, c22.2.2.2.1, c22.2.2.2.2) H111)))))))))))))))))))))
def h_code_acts : Hint := .no
theorem cQba (op_ : Int) {H : Heap} {k : ByteArray × Bool × Int × Int × Int → Heap → Prop} (h : vQba op_ H k) : CallT Pg fQbd [.int .i64 op_] (.one (.agg [.str, .bool, (.int .i64), (.int .i64), (.int .i64)])) H k :=
 call_of_E (h := h_code_acts) Pg_mixed Tryz.func148 (by kernel_rfl) (by kernel_rfl) (by kernel_rfl) (by kernel_rfl) (Eq.mpr (by kernel_rfl) h)
def vQbb (s_ : Sl) (f_ : Value) (H : Heap) (k : Bool → Heap → Prop) : Prop :=
 CallT Pg fQbi [slV s_, f_] (.one (.c (.int .i64))) H fun (r1 : Int) H1 =>
 k (decide (r1 ≥ 0)) H1
def h_slices_ContainsFunc_Sl_Sl_int_Sl_int : Hint := .no
theorem cQbb (s_ : Sl) (f_ : Value) {H : Heap} {k : Bool → Heap → Prop} (h : vQbb s_ f_ H k) : CallT Pg fQbe [slV s_, f_] (.one (.c .bool)) H k :=
 call_of_E (h := h_slices_ContainsFunc_Sl_Sl_int_Sl_int) Pg_mixed Tryz.func149 (by kernel_rfl) (by kernel_rfl) (by kernel_rfl) (by kernel_rfl) (Eq.mpr (by kernel_rfl) h)
def vQbc (d_ : Option Addr) (H : Heap) (k : Int → Heap → Prop) : Prop :=
 NilCk d_ fun a1 =>
 Ld (.int .u64) a1 H fun (x1 : Int) =>
 NilCk d_ fun a2 =>
 Ld (.int .u64) a2 H fun (x2 : Int) =>
 Lt (IntKind.wrap .u64 (x2 + 11400714819323198485)) fun t1 =>
 NilCk d_ fun a3 =>
 St a3 (.int .u64 t1) H fun H1 =>
 CallT Pg fQag [.int .u64 x1] (.one (.c (.int .u64))) H1 fun (r1 : Int) H2 =>
 k r1 H2
def h_dice_Dice_Next : Hint := .no
theorem cQbc (d_ : Option Addr) {H : Heap} {k : Int → Heap → Prop} (h : vQbc d_ H k) : CallT Pg fQbf [.pointer d_] (.one (.c (.int .u64))) H k :=
 call_of_E (h := h_dice_Dice_Next) Pg_mixed Tryz.func160 (by kernel_rfl) (by kernel_rfl) (by kernel_rfl) (by kernel_rfl) (Eq.mpr (by kernel_rfl) h)
def vQbd (d_ : Option Addr) (n_ : Int) (H : Heap) (k : Int → Heap → Prop) : Prop :=
 Rem 18446744073709551615 n_ fun t1 =>
 Lt (IntKind.wrap .u64 (18446744073709551615 - t1)) fun t2 =>
 LoopT (σ := Unit) (fun next1 s1 H1 =>
 CallT Pg fQbf [.pointer d_] (.one (.c (.int .u64))) H1 fun (r1 : Int) H2 =>
 Br (decide (r1 < t2)) (
 Rem r1 n_ fun t3 =>
 k t3 H2) (
 next1 () H2)) () H
def h_dice_Dice_below : Hint := (.two .no (.two .no (.one (.loop [] .no))))
theorem cQbd (d_ : Option Addr) (n_ : Int) {H : Heap} {k : Int → Heap → Prop} (h : vQbd d_ n_ H k) : CallT Pg fQbg [.pointer d_, .int .u64 n_] (.one (.c (.int .u64))) H k :=
 call_of_E (h := h_dice_Dice_below) Pg_mixed Tryz.func161 (by kernel_rfl) (by kernel_rfl) (by kernel_rfl) (by kernel_rfl) (Eq.mpr (by kernel_rfl) h)
def vQbe (data_ : Sl) (n_ : Int) (cmp_ : Value) (H : Heap) (k : Unit → Heap → Prop) : Prop :=
 LoopT (σ := Int × Int) (fun next1 s1 H1 =>
 Br (decide (s1.2 ≤ n_)) (
 CallT Pg fQbj [slV data_, .int .i64 s1.1, .int .i64 s1.2, cmp_] (.tup []) H1 fun (r1 : Unit) H2 =>
 Lt (IntKind.wrap .i64 (s1.2 + 20)) fun t1 =>
 next1 (s1.2, t1) H2) (
 CallT Pg fQbj [slV data_, .int .i64 s1.1, .int .i64 n_, cmp_] (.tup []) H1 fun (r2 : Unit) H3 =>
 LoopT (σ := Int) (fun next2 s2 H4 =>
 Br (decide (s2 < n_)) (
 Lt (IntKind.wrap .i64 (2 * s2)) fun t2 =>
 LoopT (σ := Int × Int) (fun next3 s3 H5 =>
 Br (decide (s3.2 ≤ n_)) (
 Lt (IntKind.wrap .i64 (s3.1 + s2)) fun t3 =>
 CallT Pg fQbk [slV data_, .int .i64 s3.1, .int .i64 t3, .int .i64 s3.2, cmp_] (.tup []) H5 fun (r3 : Unit) H6 =>
 Lt (IntKind.wrap .i64 (2 * s2)) fun t4 =>
 Lt (IntKind.wrap .i64 (s3.2 + t4)) fun t5 =>
 next3 (s3.2, t5) H6) (
 Lt (IntKind.wrap .i64 (s3.1 + s2)) fun t6 =>
 Jn (σ := Unit) (fun kk1 =>
 Br (decide (t6 < n_)) (
 CallT Pg fQbk [slV data_, .int .i64 s3.1, .int .i64 t6, .int .i64 n_, cmp_] (.tup []) H5 fun (r4 : Unit) H8 =>
 kk1 () H8) (
 kk1 () H5)) fun j1 H7 =>
 Lt (IntKind.wrap .i64 (s2 * 2)) fun t7 =>
 next2 t7 H7)) (0, t2) H4) (
 k () H4)) 20 H3)) (0, 20) H
def h_slices_stableCmpFunc_api_Part : Hint := (.two .no (.two .no (.two (.one (.loop [(7, (.c (.int .i64))), (8, (.c (.int .i64)))] .no)) (.two .no (.one (.loop [(6, (.c (.int .i64)))] (.two .no (.one (.two .no (.two (.one (.loop [(7, (.c (.int .i64))), (8, (.c (.int .i64)))] .no)) (.two (.two .no (.two .no (.join [] .no))) .no)))))))))))
theorem cQbe (data_ : Sl) (n_ : Int) (cmp_ : Value) {H : Heap} {k : Unit → Heap → Prop} (h : vQbe data_ n_ cmp_ H k) : CallT Pg fQbh [slV data_, .int .i64 n_, cmp_] (.tup []) H k :=
 call_of_E (h := h_slices_stableCmpFunc_api_Part) Pg_mixed Tryz.func163 (by kernel_rfl) (by kernel_rfl) (by kernel_rfl) (by kernel_rfl) (Eq.mpr (by kernel_rfl) h)
def vQbf (s_ : Sl) (f_ : Value) (H : Heap) (k : Int → Heap → Prop) : Prop :=
 LoopT (σ := Int) (fun next1 s1 H1 =>
 Br (decide (s1 < (s_.len : Int))) (
 IxA 1 s_ s1 fun a1 =>
 Ld .sl a1 H1 fun (x1 : Sl) =>
 CallX Pg f_ [slV x1] (.one (.c .bool)) H1 fun (r1 : Bool) H2 =>
 Br r1 (
 k s1 H2) (
 Lt (IntKind.wrap .i64 (s1 + 1)) fun t1 =>
 next1 t1 H2)) (
 k (-1) H1)) 0 H
def h_slices_IndexFunc_Sl_Sl_int_Sl_int : Hint := (.two .no (.two (.two .no (.one (.loop [(8, (.c (.int .i64)))] .no))) .no))
theorem cQbf (s_ : Sl) (f_ : Value) {H : Heap} {k : Int → Heap → Prop} (h : vQbf s_ f_ H k) : CallT Pg fQbi [slV s_, f_] (.one (.c (.int .i64))) H k :=
 call_of_E (h := h_slices_IndexFunc_Sl_Sl_int_Sl_int) Pg_mixed Tryz.func189 (by kernel_rfl) (by kernel_rfl) (by kernel_rfl) (by kernel_rfl) (Eq.mpr (by kernel_rfl) h)
def vQbg (data_ : Sl) (a_ : Int) (b_ : Int) (cmp_ : Value) (H : Heap) (k : Unit → Heap → Prop) : Prop :=
 Lt (IntKind.wrap .i64 (a_ + 1)) fun t1 =>
 LoopT (σ := Int) (fun next1 s1 H1 =>
 Br (decide (s1 < b_)) (
 LoopT (σ := Int) (fun next2 s2 H2 =>
 Jn (σ := Bool) (fun kk1 =>
 Br (decide (s2 > a_)) (
 IxA 2 data_ s2 fun a1 =>
 LdC [(.int .i64), .sl] a1 H2 fun (c1 : Int × Sl) =>
 Lt (IntKind.wrap .i64 (s2 - 1)) fun t2 =>
 IxA 2 data_ t2 fun a2 =>
 LdC [(.int .i64), .sl] a2 H2 fun (c2 : Int × Sl) =>
 CallX Pg cmp_ [.agg #[.int .i64 c1.1, slV c1.2], .agg #[.int .i64 c2.1, slV c2.2]] (.one (.c (.int .i64))) H2 fun (r1 : Int) H4 =>
 kk1 (decide (r1 < 0)) H4) (
 kk1 false H2)) fun j1 H3 =>
 Br j1 (
 Lt (IntKind.wrap .i64 (s2 - 1)) fun t3 =>
 Lt (IntKind.wrap .i64 (s2 - 1)) fun t4 =>
 IxA 2 data_ t4 fun a3 =>
 LdC [(.int .i64), .sl] a3 H3 fun (c3 : Int × Sl) =>
 IxA 2 data_ s2 fun a4 =>
 LdC [(.int .i64), .sl] a4 H3 fun (c4 : Int × Sl) =>
 IxA 2 data_ s2 fun a5 =>
 St (a5.add 0) (.int .i64 c3.1) H3 fun H5 =>
 St (a5.add 1) (slV c3.2) H5 fun H6 =>
 IxA 2 data_ t3 fun a6 =>
 St (a6.add 0) (.int .i64 c4.1) H6 fun H7 =>
 St (a6.add 1) (slV c4.2) H7 fun H8 =>
 Lt (IntKind.wrap .i64 (s2 - 1)) fun t5 =>
 next2 t5 H8) (
 Lt (IntKind.wrap .i64 (s1 + 1)) fun t6 =>
 next1 t6 H3)) s1 H1) (
 k () H1)) t1 H
def h_slices_insertionSortCmpFunc_api_Part : Hint := (.two .no (.one (.loop [(8, (.c (.int .i64)))] (.two .no (.two (.one (.two .no (.one (.loop [(9, (.c (.int .i64)))] (.two (.two (.join [(34, (.c .bool))] .no) .no) .no))))) .no)))))
theorem cQbg (data_ : Sl) (a_ : Int) (b_ : Int) (cmp_ : Value) {H : Heap} {k : Unit → Heap → Prop} (h : vQbg data_ a_ b_ cmp_ H k) : CallT Pg fQbj [slV data_, .int .i64 a_, .int .i64 b_, cmp_] (.tup []) H k :=
 call_of_E (h := h_slices_insertionSortCmpFunc_api_Part) Pg_mixed Tryz.func192 (by kernel_rfl) (by kernel_rfl) (by kernel_rfl) (by kernel_rfl) (Eq.mpr (by kernel_rfl) h)
end
end Go.Proofs.YtfpmgpblhhcpgaaGreat
