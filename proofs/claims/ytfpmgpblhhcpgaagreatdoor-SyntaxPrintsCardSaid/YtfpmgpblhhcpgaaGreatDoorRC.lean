/-
 Tokens stand at their places; put together again they are the same.
-/
import Derived.Test.YtfpmgpblhhcpgaaGreatDoorVRef
import Derived.Test.YtfpmgpblhhcpgaaGreatDoorHcLists
import Derived.Test.YtfpmgpblhhcpgaaGreatDoorProg
import Derived.Test.YtfpmgpblhhcpgaaGreatDoorLexA
import Derived.Test.YtfpmgpblhhcpgaaGreatDoorHcPrnB
import Derived.Test.YtfpmgpblhhcpgaaGreatDoorE
import Derived.Lib.ItoaLen
set_option linter.unusedVariables false
set_option linter.unusedSimpArgs false
namespace Go.Proofs.YtfpmgpblhhcpgaaGreatDoor
set_option maxRecDepth 100000
section
open Hc
abbrev jlf : TypeId := 39
abbrev TQas : TypeId := 91
abbrev fQdy : FuncId := 13
abbrev fQdz : FuncId := 14
abbrev fQd0 : FuncId := 15
abbrev fQd1 : FuncId := 18
abbrev jnk : FuncId := 19
abbrev fQd3 : FuncId := 20
abbrev fQd4 : FuncId := 21
abbrev jkF : FuncId := 36
abbrev fQd6 : FuncId := 37
abbrev fQd7 : FuncId := 38
abbrev fQd8 : FuncId := 39
abbrev fQd9 : FuncId := 66
abbrev fQea : FuncId := 67
abbrev fQeb : FuncId := 68
abbrev fQec : FuncId := 69
abbrev fQed : FuncId := 70
abbrev fQee : FuncId := 97
abbrev fQef : FuncId := 98
abbrev fQeg : FuncId := 99
abbrev fQeh : FuncId := 101
abbrev fQei : FuncId := 102
abbrev jhX : FuncId := 103
abbrev fQek : FuncId := 104
abbrev fQel : FuncId := 105
abbrev fQem : FuncId := 135
abbrev fQen : FuncId := 136
abbrev fQeo : FuncId := 137
def vQcw (t_ : Int × ByteArray × Int × Sl × Int) (most_ : Int) (H : jaa) (k : Int → jaa → Prop) : Prop :=
 Nw #[.int .i64 t_.1, .string t_.2.1, .int .i64 t_.2.2.1, slV t_.2.2.2.1, .int .i64 t_.2.2.2.2] jlf H fun b1 H1 =>
 Ld .str ((adr b1).add 1) H1 fun (x1 : ByteArray) =>
 Lt (IntKind.wrap .i64 (1 + (x1.size : Int))) fun t1 =>
 LoopT (σ := Int × Int) (fun next1 s1 H2 =>
 Jn (σ := Bool) (fun kk1 =>
 Ld .sl ((adr b1).add 3) H2 fun (x2 : Sl) =>
 Br (decide (s1.2 < (x2.len : Int))) (
 kk1 (decide (s1.1 < most_)) H2) (
 kk1 false H2)) fun j1 H3 =>
 Br j1 (
 Ld .sl ((adr b1).add 3) H3 fun (x3 : Sl) =>
 IxA 5 x3 s1.2 fun a1 =>
 LdC [(.int .i64), .str, (.int .i64), .sl, (.int .i64)] a1 H3 fun (c1 : Int × ByteArray × Int × Sl × Int) =>
 Lt (IntKind.wrap .i64 (most_ - s1.1)) fun t2 =>
 CallT Pg fQdy [.agg #[.int .i64 c1.1, .string c1.2.1, .int .i64 c1.2.2.1, slV c1.2.2.2.1, .int .i64 c1.2.2.2.2], .int .i64 t2] (.one (.c (.int .i64))) H3 fun (r1 : Int) H4 =>
 Lt (IntKind.wrap .i64 (s1.1 + r1)) fun t3 =>
 Lt (IntKind.wrap .i64 (s1.2 + 1)) fun t4 =>
 next1 (t3, t4) H4) (
 k s1.1 H3)) (t1, 0) H1
def jeu : Hint := (hq (hq (.two (hq (.one (.loop [(5, (.c (.int .i64))), (6, (.c (.int .i64)))] (.two (.two (.join [(20, (.c .bool))] .no) .no) .no)))) .no)))
theorem cQcw (t_ : Int × ByteArray × Int × Sl × Int) (most_ : Int) {H : jaa} {k : Int → jaa → Prop} (h : vQcw t_ most_ H k) : CallT Pg fQdy [.agg #[.int .i64 t_.1, .string t_.2.1, .int .i64 t_.2.2.1, slV t_.2.2.2.1, .int .i64 t_.2.2.2.2], .int .i64 most_] (.one (.c (.int .i64))) H k := cE jad jeu Tryz.func13 h
def vQcx (t_ : Int × ByteArray × Int × Sl × Int) (H : jaa) (k : Option Addr → jaa → Prop) : Prop :=
 Nw #[.int .i64 t_.1, .string t_.2.1, .int .i64 t_.2.2.1, slV t_.2.2.2.1, .int .i64 t_.2.2.2.2] jlf H fun b1 H1 =>
 Ld (.int .i64) (adr b1) H1 fun (x1 : Int) =>
 Br (decide (x1 < 0)) (
 k none H1) (
 Ld (.int .i64) (adr b1) H1 fun (x2 : Int) =>
 Ld .str ((adr b1).add 1) H1 fun (x3 : ByteArray) =>
 Ld (.int .i64) ((adr b1).add 2) H1 fun (x4 : Int) =>
 Ld (.int .i64) ((adr b1).add 4) H1 fun (x5 : Int) =>
 Nw #[.int .i64 x2, .string x3, .int .i64 x4, .slice none 0 0, .int .i64 x5] jdY H1 fun b2 H2 =>
 LoopT (σ := Int) (fun next1 s1 H3 =>
 Ld .sl ((adr b1).add 3) H3 fun (x6 : Sl) =>
 Br (decide (s1 < (x6.len : Int))) (
 jab (some (adr b2)) fun a1 =>
 Ld .sl (a1.add 3) H3 fun (x7 : Sl) =>
 Ld .sl ((adr b1).add 3) H3 fun (x8 : Sl) =>
 IxA 5 x8 s1 fun a2 =>
 LdC [(.int .i64), .str, (.int .i64), .sl, (.int .i64)] a2 H3 fun (c1 : Int × ByteArray × Int × Sl × Int) =>
 CallT Pg fQdz [.agg #[.int .i64 c1.1, .string c1.2.1, .int .i64 c1.2.2.1, slV c1.2.2.2.1, .int .i64 c1.2.2.2.2]] (.one (.c .ptr)) H3 fun (r1 : Option Addr) H4 =>
 Stab [((adr b1).add 3, slV x8), (a1.add 3, slV x7)] H4 <|
 Nw #[.pointer r1] jbd H4 fun b3 H5 =>
 Stab [(a2.add 0, .int .i64 c1.1), (a2.add 1, .string c1.2.1), (a2.add 2, .int .i64 c1.2.2.1), (a2.add 3, slV c1.2.2.2.1), (a2.add 4, .int .i64 c1.2.2.2.2), ((adr b1).add 3, slV x8), (a1.add 3, slV x7)] H5 <|
 App jbd 1 8 #[.pointer none] x7 ⟨some (adr b3), 1, 1⟩ H5 fun l1 H6 =>
 Stab [(a2.add 0, .int .i64 c1.1), (a2.add 1, .string c1.2.1), (a2.add 2, .int .i64 c1.2.2.1), (a2.add 3, slV c1.2.2.2.1), (a2.add 4, .int .i64 c1.2.2.2.2), ((adr b1).add 3, slV x8)] H6 <|
 jab (some (adr b2)) fun a3 =>
 St (a3.add 3) (slV l1) H6 fun H7 =>
 Lt (IntKind.wrap .i64 (s1 + 1)) fun t1 =>
 next1 t1 H7) (
 k (some (adr b2)) H3)) 0 H2)
def jf3 : Hint := (hq (hq (hq (.two (hq (.one (.loop [(4, (.c (.int .i64)))] .no))) .no))))
theorem cQcx (t_ : Int × ByteArray × Int × Sl × Int) {H : jaa} {k : Option Addr → jaa → Prop} (h : vQcx t_ H k) : CallT Pg fQdz [.agg #[.int .i64 t_.1, .string t_.2.1, .int .i64 t_.2.2.1, slV t_.2.2.2.1, .int .i64 t_.2.2.2.2]] (.one (.c .ptr)) H k := cE jad jf3 Tryz.func14 h
def vQcy (t_ : Int × ByteArray × Int × Sl × Int) (H : jaa) (k : Option Addr → jaa → Prop) : Prop :=
 Nw #[.int .i64 t_.1, .string t_.2.1, .int .i64 t_.2.2.1, slV t_.2.2.2.1, .int .i64 t_.2.2.2.2] jlf H fun b1 H1 =>
 Ld (.int .i64) (adr b1) H1 fun (x1 : Int) =>
 Br (decide (x1 < 0)) (
 k none H1) (
 Ld (.int .i64) (adr b1) H1 fun (x2 : Int) =>
 Ld .str ((adr b1).add 1) H1 fun (x3 : ByteArray) =>
 Ld (.int .i64) ((adr b1).add 2) H1 fun (x4 : Int) =>
 Ld (.int .i64) ((adr b1).add 4) H1 fun (x5 : Int) =>
 Nw #[.int .i64 x2, .string x3, .int .i64 x4, .slice none 0 0, .int .i64 x5] TQap H1 fun b2 H2 =>
 LoopT (σ := Int) (fun next1 s1 H3 =>
 Ld .sl ((adr b1).add 3) H3 fun (x6 : Sl) =>
 Br (decide (s1 < (x6.len : Int))) (
 jab (some (adr b2)) fun a1 =>
 Ld .sl (a1.add 3) H3 fun (x7 : Sl) =>
 Ld .sl ((adr b1).add 3) H3 fun (x8 : Sl) =>
 IxA 5 x8 s1 fun a2 =>
 LdC [(.int .i64), .str, (.int .i64), .sl, (.int .i64)] a2 H3 fun (c1 : Int × ByteArray × Int × Sl × Int) =>
 CallT Pg fQd0 [.agg #[.int .i64 c1.1, .string c1.2.1, .int .i64 c1.2.2.1, slV c1.2.2.2.1, .int .i64 c1.2.2.2.2]] (.one (.c .ptr)) H3 fun (r1 : Option Addr) H4 =>
 Stab [((adr b1).add 3, slV x8), (a1.add 3, slV x7)] H4 <|
 Nw #[.pointer r1] TQao H4 fun b3 H5 =>
 Stab [(a2.add 0, .int .i64 c1.1), (a2.add 1, .string c1.2.1), (a2.add 2, .int .i64 c1.2.2.1), (a2.add 3, slV c1.2.2.2.1), (a2.add 4, .int .i64 c1.2.2.2.2), ((adr b1).add 3, slV x8), (a1.add 3, slV x7)] H5 <|
 App TQao 1 8 #[.pointer none] x7 ⟨some (adr b3), 1, 1⟩ H5 fun l1 H6 =>
 Stab [(a2.add 0, .int .i64 c1.1), (a2.add 1, .string c1.2.1), (a2.add 2, .int .i64 c1.2.2.1), (a2.add 3, slV c1.2.2.2.1), (a2.add 4, .int .i64 c1.2.2.2.2), ((adr b1).add 3, slV x8)] H6 <|
 jab (some (adr b2)) fun a3 =>
 St (a3.add 3) (slV l1) H6 fun H7 =>
 Lt (IntKind.wrap .i64 (s1 + 1)) fun t1 =>
 next1 t1 H7) (
 k (some (adr b2)) H3)) 0 H2)
def jfj : Hint := (hq (hq (hq (.two (hq (.one (.loop [(4, (.c (.int .i64)))] .no))) .no))))
theorem cQcy (t_ : Int × ByteArray × Int × Sl × Int) {H : jaa} {k : Option Addr → jaa → Prop} (h : vQcy t_ H k) : CallT Pg fQd0 [.agg #[.int .i64 t_.1, .string t_.2.1, .int .i64 t_.2.2.1, slV t_.2.2.2.1, .int .i64 t_.2.2.2.2]] (.one (.c .ptr)) H k := cE jad jfj Tryz.func15 h
def vQcz (t_ : Int × ByteArray × Int × Sl × Int) (n_ : Option Addr) (H : jaa) (k : Bool → jaa → Prop) : Prop :=
 Nw #[.int .i64 t_.1, .string t_.2.1, .int .i64 t_.2.2.1, slV t_.2.2.2.1, .int .i64 t_.2.2.2.2] jlf H fun b1 H1 =>
 Jn (σ := Bool) (fun kk1 =>
 Ld (.int .i64) (adr b1) H1 fun (x1 : Int) =>
 Br (decide (x1 < 0)) (
 kk1 true H1) (
 kk1 n_.isNone H1)) fun j1 H2 =>
 Br j1 (
 Jn (σ := Bool) (fun kk2 =>
 Ld (.int .i64) (adr b1) H2 fun (x2 : Int) =>
 Br (decide (x2 < 0)) (
 kk2 n_.isNone H2) (
 kk2 false H2)) fun j2 H3 =>
 k j2 H3) (
 Jn (σ := Bool) (fun kk3 =>
 jab n_ fun a1 =>
 Ld (.int .i64) a1 H2 fun (x3 : Int) =>
 Ld (.int .i64) (adr b1) H2 fun (x4 : Int) =>
 Br (x3 != x4) (
 kk3 true H2) (
 jab n_ fun a2 =>
 Ld .str (a2.add 1) H2 fun (x5 : ByteArray) =>
 Ld .str ((adr b1).add 1) H2 fun (x6 : ByteArray) =>
 Br (!(x5.toList == x6.toList)) (
 kk3 true H2) (
 jab n_ fun a3 =>
 Ld (.int .i64) (a3.add 2) H2 fun (x7 : Int) =>
 Ld (.int .i64) ((adr b1).add 2) H2 fun (x8 : Int) =>
 Br (x7 != x8) (
 kk3 true H2) (
 jab n_ fun a4 =>
 Ld (.int .i64) (a4.add 4) H2 fun (x9 : Int) =>
 Ld (.int .i64) ((adr b1).add 4) H2 fun (x10 : Int) =>
 Br (x9 != x10) (
 kk3 true H2) (
 jab n_ fun a5 =>
 Ld .sl (a5.add 3) H2 fun (x11 : Sl) =>
 Ld .sl ((adr b1).add 3) H2 fun (x12 : Sl) =>
 kk3 ((x11.len : Int) != (x12.len : Int)) H2))))) fun j3 H4 =>
 Br j3 (
 k false H4) (
 LoopT (σ := Int) (fun next1 s1 H5 =>
 Ld .sl ((adr b1).add 3) H5 fun (x13 : Sl) =>
 Br (decide (s1 < (x13.len : Int))) (
 Ld .sl ((adr b1).add 3) H5 fun (x14 : Sl) =>
 IxA 5 x14 s1 fun a6 =>
 LdC [(.int .i64), .str, (.int .i64), .sl, (.int .i64)] a6 H5 fun (c1 : Int × ByteArray × Int × Sl × Int) =>
 jab n_ fun a7 =>
 Ld .sl (a7.add 3) H5 fun (x15 : Sl) =>
 IxA 1 x15 s1 fun a8 =>
 Ld .ptr a8 H5 fun (x16 : Option Addr) =>
 CallT Pg fQd1 [.agg #[.int .i64 c1.1, .string c1.2.1, .int .i64 c1.2.2.1, slV c1.2.2.2.1, .int .i64 c1.2.2.2.2], .pointer x16] (.one (.c .bool)) H5 fun (r1 : Bool) H6 =>
 Stab [(a7.add 3, slV x15), ((adr b1).add 3, slV x14)] H6 <|
 Br (!r1) (
 k false H6) (
 Lt (IntKind.wrap .i64 (s1 + 1)) fun t1 =>
 next1 t1 H6)) (
 k true H5)) 0 H4))
def jga : Hint := (hq (.two (.two (.join [(13, (.c .bool))] .no) (.two (.two (.join [(4, (.c .bool))] .no) .no) .no)) (.two (.two (.join [(65, (.c .bool))] .no) .no) (.two (hq (.one (.loop [(5, (.c (.int .i64)))] .no))) .no))))
theorem cQcz (t_ : Int × ByteArray × Int × Sl × Int) (n_ : Option Addr) {H : jaa} {k : Bool → jaa → Prop} (h : vQcz t_ n_ H k) : CallT Pg fQd1 [.agg #[.int .i64 t_.1, .string t_.2.1, .int .i64 t_.2.2.1, slV t_.2.2.2.1, .int .i64 t_.2.2.2.2], .pointer n_] (.one (.c .bool)) H k := cE jad jga Tryz.func18 h
def vQc0 (n_ : Int) (H : jaa) (k : ByteArray → jaa → Prop) : Prop :=
 Nw #[.int .i64 30, .string ByteArray.empty, .int .i64 1, .slice none 0 0, .int .i64 0] jdY H fun b1 H1 =>
 LoopT (σ := Option Addr × Int) (fun next1 s1 H2 =>
 Br (decide (s1.2 < n_)) (
 Nw #[.pointer s1.1, .pointer s1.1] jbd H2 fun b2 H3 =>
 Nw #[.int .i64 33, .string (⟨#[43]⟩ : ByteArray), .int .i64 0, .slice (some (adr b2)) 2 2, .int .i64 0] jdY H3 fun b3 H4 =>
 Lt (IntKind.wrap .i64 (s1.2 + 1)) fun t1 =>
 next1 ((some (adr b3), t1)) H4) (
 Nw #[.int .i64 3, .string (⟨#[102, 117, 110, 99]⟩ : ByteArray), .int .i64 0, .slice none 0 0, .int .i64 0] jdY H2 fun b4 H5 =>
 Nw #[.pointer s1.1] jbd H5 fun b5 H6 =>
 Nw #[.int .i64 22, .string ByteArray.empty, .int .i64 0, .slice (some (adr b5)) 1 1, .int .i64 0] jdY H6 fun b6 H7 =>
 Nw #[.pointer (some (adr b6))] jbd H7 fun b7 H8 =>
 Nw #[.int .i64 5, .string ByteArray.empty, .int .i64 0, .slice (some (adr b7)) 1 1, .int .i64 0] jdY H8 fun b8 H9 =>
 Nw #[.pointer (some (adr b4)), .pointer (some (adr b8))] jbd H9 fun b9 H10 =>
 Nw #[.int .i64 4, .string (⟨#[102]⟩ : ByteArray), .int .i64 0, .slice (some (adr b9)) 2 2, .int .i64 0] jdY H10 fun b10 H11 =>
 Nw #[.pointer (some (adr b10))] jbd H11 fun b11 H12 =>
 Nw #[.int .i64 1, .string ByteArray.empty, .int .i64 0, .slice (some (adr b11)) 1 1, .int .i64 0] jdY H12 fun b12 H13 =>
 CallT Pg fQca [.pointer (some (adr b12))] (.one (.c .str)) H13 fun (r1 : ByteArray) H14 =>
 k r1 H14)) ((some (adr b1), 0)) H1
def jgP : Hint := (hq (hq (.two (hq (.one (.loop [(3, (.c .ptr)), (4, (.c (.int .i64)))] .no))) .no)))
theorem cQc0 (n_ : Int) {H : jaa} {k : ByteArray → jaa → Prop} (h : vQc0 n_ H k) : CallT Pg jnk [.int .i64 n_] (.one (.c .str)) H k := cE jad jgP Tryz.func19 h
def vQc1 (n_ : Option Addr) (H : jaa) (k : ByteArray → jaa → Prop) : Prop :=
 Jn (σ := Bool) (fun kk1 =>
 Br n_.isNone (
 kk1 true H) (
 jab n_ fun a1 =>
 Ld (.int .i64) a1 H fun (x1 : Int) =>
 Br (x1 != 1) (
 kk1 true H) (
 jab n_ fun a2 =>
 Ld .str (a2.add 1) H fun (x2 : ByteArray) =>
 kk1 (!(x2.toList == (⟨#[]⟩ : ByteArray).toList)) H))) fun j1 H1 =>
 Br j1 (
 k (⟨#[]⟩ : ByteArray) H1) (
 Nw #[.int .i64 1] TQas H1 fun b1 H2 =>
 LoopT (σ := Int) (fun next1 s1 H3 =>
 jab n_ fun a3 =>
 Ld .sl (a3.add 3) H3 fun (x3 : Sl) =>
 Br (decide (s1 < (x3.len : Int))) (
 Jn (σ := Bool) (fun kk2 =>
 jab n_ fun a4 =>
 Ld .sl (a4.add 3) H3 fun (x4 : Sl) =>
 IxA 1 x4 s1 fun a5 =>
 Ld .ptr a5 H3 fun (x5 : Option Addr) =>
 CallT Pg jkF [.pointer x5, .int .i64 2] (.one (.c .bool)) H3 fun (r1 : Bool) H5 =>
 Br r1 (
 kk2 true H5) (
 jab n_ fun a6 =>
 Ld .sl (a6.add 3) H5 fun (x6 : Sl) =>
 IxA 1 x6 s1 fun a7 =>
 Ld .ptr a7 H5 fun (x7 : Option Addr) =>
 CallT Pg jkF [.pointer x7, .int .i64 4] (.one (.c .bool)) H5 fun (r2 : Bool) H6 =>
 kk2 r2 H6)) fun j2 H4 =>
 Br (!j2) (
 k (⟨#[]⟩ : ByteArray) H4) (
 jab n_ fun a8 =>
 Ld .sl (a8.add 3) H4 fun (x8 : Sl) =>
 IxA 1 x8 s1 fun a9 =>
 Ld .ptr a9 H4 fun (x9 : Option Addr) =>
 CallT Pg fQd6 [.pointer x9, .int .i64 0, .pointer (some (adr b1))] (.one (.c .bool)) H4 fun (r3 : Bool) H7 =>
 Br (!r3) (
 k (⟨#[]⟩ : ByteArray) H7) (
 Lt (IntKind.wrap .i64 (s1 + 1)) fun t1 =>
 next1 t1 H7))) (
 LoopT (σ := ByteArray × Int) (fun next2 s2 H8 =>
 jab n_ fun a10 =>
 Ld .sl (a10.add 3) H8 fun (x10 : Sl) =>
 Br (decide (s2.2 < (x10.len : Int))) (
 Jn (σ := ByteArray) (fun kk3 =>
 jab n_ fun a11 =>
 Ld .sl (a11.add 3) H8 fun (x11 : Sl) =>
 IxA 1 x11 s2.2 fun a12 =>
 Ld .ptr a12 H8 fun (x12 : Option Addr) =>
 jab x12 fun a13 =>
 Ld (.int .i64) a13 H8 fun (x13 : Int) =>
 Jn (σ := ByteArray) (fun kk4 =>
 Br (x13 == 2) (
 jag s2.1 (⟨#[115, 121, 115, 116, 101, 109, 32]⟩ : ByteArray) fun y1 =>
 jab x12 fun a14 =>
 Ld .str (a14.add 1) H8 fun (x14 : ByteArray) =>
 jag y1 x14 fun y2 =>
 LoopT (σ := ByteArray × Int) (fun next3 s3 H11 =>
 Br (decide (s3.2 < 4)) (
 Jn (σ := ByteArray) (fun kk5 =>
 jab x12 fun a15 =>
 Ld .sl (a15.add 3) H11 fun (x15 : Sl) =>
 IxA 1 x15 s3.2 fun a16 =>
 Ld .ptr a16 H11 fun (x16 : Option Addr) =>
 jab x16 fun a17 =>
 Ld .sl (a17.add 3) H11 fun (x17 : Sl) =>
 Jn (σ := ByteArray) (fun kk6 =>
 Br (decide ((x17.len : Int) > 0)) (
 jag s3.1 (⟨#[32]⟩ : ByteArray) fun y3 =>
 jab x12 fun a18 =>
 Ld .sl (a18.add 3) H11 fun (x18 : Sl) =>
 IxA 1 x18 s3.2 fun a19 =>
 Ld .ptr a19 H11 fun (x19 : Option Addr) =>
 jab x19 fun a20 =>
 Ld .str (a20.add 1) H11 fun (x20 : ByteArray) =>
 jag y3 x20 fun y4 =>
 jag y4 (⟨#[32]⟩ : ByteArray) fun y5 =>
 jab x12 fun a21 =>
 Ld .sl (a21.add 3) H11 fun (x21 : Sl) =>
 IxA 1 x21 s3.2 fun a22 =>
 Ld .ptr a22 H11 fun (x22 : Option Addr) =>
 jab x22 fun a23 =>
 Ld .sl (a23.add 3) H11 fun (x23 : Sl) =>
 CallT Pg fQd7 [slV x23] (.one (.c .str)) H11 fun (r4 : ByteArray) H14 =>
 Stab [(a22, .pointer x22), (a21.add 3, slV x21), (a20.add 1, .string x20), (a19, .pointer x19), (a18.add 3, slV x18)] H14 <|
 jag y5 r4 fun y6 =>
 kk6 y6 H14) (
 kk6 s3.1 H11)) fun j6 H13 =>
 kk5 j6 H13) fun j5 H12 =>
 Lt (IntKind.wrap .i64 (s3.2 + 1)) fun t2 =>
 next3 (j5, t2) H12) (
 jag s3.1 (⟨#[32, 123, 10]⟩ : ByteArray) fun y7 =>
 jab x12 fun a24 =>
 Ld .sl (a24.add 3) H11 fun (x24 : Sl) =>
 IxA 1 x24 4 fun a25 =>
 Ld .ptr a25 H11 fun (x25 : Option Addr) =>
 CallT Pg fQd8 [.pointer x25, .string (⟨#[9]⟩ : ByteArray)] (.one (.c .str)) H11 fun (r5 : ByteArray) H15 =>
 jag y7 r5 fun y8 =>
 jag y8 (⟨#[125, 10]⟩ : ByteArray) fun y9 =>
 kk4 y9 H15)) (y2, 0) H8) (
 jag s2.1 (⟨#[102, 117, 110, 99, 32]⟩ : ByteArray) fun y10 =>
 jab x12 fun a26 =>
 Ld .str (a26.add 1) H8 fun (x26 : ByteArray) =>
 jag y10 x26 fun y11 =>
 jag y11 (⟨#[40]⟩ : ByteArray) fun y12 =>
 jab x12 fun a27 =>
 Ld .sl (a27.add 3) H8 fun (x27 : Sl) =>
 IxA 1 x27 0 fun a28 =>
 Ld .ptr a28 H8 fun (x28 : Option Addr) =>
 jab x28 fun a29 =>
 Ld .sl (a29.add 3) H8 fun (x29 : Sl) =>
 jab x12 fun a30 =>
 Ld .sl (a30.add 3) H8 fun (x30 : Sl) =>
 IxA 1 x30 1 fun a31 =>
 Ld .ptr a31 H8 fun (x31 : Option Addr) =>
 CallT Pg fQd7 [slV x29] (.one (.c .str)) H8 fun (r6 : ByteArray) H16 =>
 Stab [(a31, .pointer x31), (a30.add 3, slV x30), (a28, .pointer x28), (a27.add 3, slV x27), (a26.add 1, .string x26)] H16 <|
 jag y12 r6 fun y13 =>
 jag y13 (⟨#[41, 32, 123, 10]⟩ : ByteArray) fun y14 =>
 CallT Pg fQd8 [.pointer x31, .string (⟨#[9]⟩ : ByteArray)] (.one (.c .str)) H16 fun (r7 : ByteArray) H17 =>
 Stab [(a30.add 3, slV x30), (a29.add 3, slV x29), (a28, .pointer x28), (a27.add 3, slV x27), (a26.add 1, .string x26)] H17 <|
 jag y14 r7 fun y15 =>
 jag y15 (⟨#[125, 10]⟩ : ByteArray) fun y16 =>
 kk4 y16 H17)) fun j4 H10 =>
 kk3 j4 H10) fun j3 H9 =>
 Lt (IntKind.wrap .i64 (s2.2 + 1)) fun t3 =>
 next2 (j3, t3) H9) (
 k s2.1 H8)) (((⟨#[]⟩ : ByteArray), 0)) H3)) 0 H2)
def jix : Hint := (hq (.two (.two (.join [(26, (.c .bool))] .no) .no) (hq (hq (.two (hq (.one (.loop [(5, (.c (.int .i64)))] (hq (.two (.one (.two (.join [(6, (.c .bool))] .no) .no)) .no))))) (.two (hq (.one (.loop [(3, (.c .str)), (8, (.c (.int .i64)))] (hq (.two (.join [(3, (.c .str))] (.one (hq (hq (.join [(3, (.c .str))] (.two (hq (.two (hq (.one (.loop [(3, (.c .str)), (10, (.c (.int .i64)))] (hq (.two (.join [(3, (.c .str))] (.one (hq (.join [(3, (.c .str))] .no)))) .no))))) .no)) .no)))))) .no))))) .no))))))
theorem cQc1 (n_ : Option Addr) {H : jaa} {k : ByteArray → jaa → Prop} (h : vQc1 n_ H k) : CallT Pg fQd3 [.pointer n_] (.one (.c .str)) H k := cE jad jix Tryz.func20 h
def vQc2 (a_ : Option Addr) (b_ : Option Addr) (H : jaa) (k : Bool → jaa → Prop) : Prop :=
 Jn (σ := Bool) (fun kk1 =>
 Br a_.isNone (
 kk1 true H) (
 kk1 b_.isNone H)) fun j1 H1 =>
 Br j1 (
 Jn (σ := Bool) (fun kk2 =>
 Br a_.isNone (
 kk2 b_.isNone H1) (
 kk2 false H1)) fun j2 H2 =>
 k j2 H2) (
 Jn (σ := Bool) (fun kk3 =>
 jab a_ fun a1 =>
 Ld (.int .i64) a1 H1 fun (x1 : Int) =>
 jab b_ fun a2 =>
 Ld (.int .i64) a2 H1 fun (x2 : Int) =>
 Br (x1 != x2) (
 kk3 true H1) (
 jab a_ fun a3 =>
 Ld .str (a3.add 1) H1 fun (x3 : ByteArray) =>
 jab b_ fun a4 =>
 Ld .str (a4.add 1) H1 fun (x4 : ByteArray) =>
 Br (!(x3.toList == x4.toList)) (
 kk3 true H1) (
 jab a_ fun a5 =>
 Ld (.int .i64) (a5.add 2) H1 fun (x5 : Int) =>
 jab b_ fun a6 =>
 Ld (.int .i64) (a6.add 2) H1 fun (x6 : Int) =>
 Br (x5 != x6) (
 kk3 true H1) (
 jab a_ fun a7 =>
 Ld .sl (a7.add 3) H1 fun (x7 : Sl) =>
 jab b_ fun a8 =>
 Ld .sl (a8.add 3) H1 fun (x8 : Sl) =>
 kk3 ((x7.len : Int) != (x8.len : Int)) H1)))) fun j3 H3 =>
 Br j3 (
 k false H3) (
 LoopT (σ := Int) (fun next1 s1 H4 =>
 jab a_ fun a9 =>
 Ld .sl (a9.add 3) H4 fun (x9 : Sl) =>
 Br (decide (s1 < (x9.len : Int))) (
 jab a_ fun a10 =>
 Ld .sl (a10.add 3) H4 fun (x10 : Sl) =>
 IxA 1 x10 s1 fun a11 =>
 Ld .ptr a11 H4 fun (x11 : Option Addr) =>
 jab b_ fun a12 =>
 Ld .sl (a12.add 3) H4 fun (x12 : Sl) =>
 IxA 1 x12 s1 fun a13 =>
 Ld .ptr a13 H4 fun (x13 : Option Addr) =>
 CallT Pg fQd4 [.pointer x11, .pointer x13] (.one (.c .bool)) H4 fun (r1 : Bool) H5 =>
 Stab [(a12.add 3, slV x12), (a10.add 3, slV x10)] H5 <|
 Br (!r1) (
 k false H5) (
 Lt (IntKind.wrap .i64 (s1 + 1)) fun t1 =>
 next1 t1 H5)) (
 k true H4)) 0 H3))
def jkt : Hint := (hq (.two (.two (.join [(12, (.c .bool))] .no) (.two (.two (.join [(4, (.c .bool))] .no) .no) .no)) (.two (.two (.join [(62, (.c .bool))] .no) .no) (.two (hq (.one (.loop [(5, (.c (.int .i64)))] .no))) .no))))
theorem cQc2 (a_ : Option Addr) (b_ : Option Addr) {H : jaa} {k : Bool → jaa → Prop} (h : vQc2 a_ b_ H k) : CallT Pg fQd4 [.pointer a_, .pointer b_] (.one (.c .bool)) H k := cE jad jkt Tryz.func21 h
def vQc3 (n_ : Option Addr) (op_ : Int) (H : jaa) (k : Bool → jaa → Prop) : Prop :=
 Jn (σ := Bool) (fun kk1 =>
 Br (!n_.isNone) (
 jab n_ fun a1 =>
 Ld (.int .i64) a1 H fun (x1 : Int) =>
 kk1 (x1 == op_) H) (
 kk1 false H)) fun j1 H1 =>
 k j1 H1
def jkz : Hint := (hq (.two (.join [(4, (.c .bool))] .no) .no))
theorem cQc3 (n_ : Option Addr) (op_ : Int) {H : jaa} {k : Bool → jaa → Prop} (h : vQc3 n_ op_ H k) : CallT Pg jkF [.pointer n_, .int .i64 op_] (.one (.c .bool)) H k := cE jad jkz Tryz.func36 h
def vQc4 (n_ : Option Addr) (deep_ : Int) (s_ : Option Addr) (H : jaa) (k : Bool → jaa → Prop) : Prop :=
 jab s_ fun a1 =>
 Ld (.int .i64) a1 H fun (x1 : Int) =>
 Lt (IntKind.wrap .i64 (x1 + 1)) fun t1 =>
 jab s_ fun a2 =>
 St a2 (.int .i64 t1) H fun H1 =>
 jab n_ fun a3 =>
 Ld (.int .i64) a3 H1 fun (x2 : Int) =>
 Jn (σ := Int) (fun kk1 =>
 Br (x2 == 5) (
 Lt (IntKind.wrap .i64 (deep_ + 1)) fun t2 =>
 kk1 t2 H1) (
 kk1 deep_ H1)) fun j1 H2 =>
 Jn (σ := Bool) (fun kk2 =>
 Br (decide (j1 > 20)) (
 kk2 true H2) (
 jab s_ fun a4 =>
 Ld (.int .i64) a4 H2 fun (x3 : Int) =>
 kk2 (decide (x3 > 100000)) H2)) fun j2 H3 =>
 Br j2 (
 k false H3) (
 jab n_ fun a5 =>
 Ld (.int .i64) a5 H3 fun (x4 : Int) =>
 Jn (σ := Unit) (fun kk3 =>
 Br (x4 == 3) (
 jab n_ fun a6 =>
 Ld .sl (a6.add 3) H3 fun (x5 : Sl) =>
 CallT Pg fQd9 [slV x5, .int .i64 31] (.one (.c .bool)) H3 fun (r1 : Bool) H5 =>
 Br (!r1) (
 k false H5) (
 kk3 () H5)) (
 jab n_ fun a7 =>
 Ld (.int .i64) a7 H3 fun (x6 : Int) =>
 CallT Pg fQea [.int .i64 x6] (.tup [(.c .str), (.c .str)]) H3 fun (r2 : ByteArray × ByteArray) H6 =>
 jab n_ fun a8 =>
 Ld .str (a8.add 1) H6 fun (x7 : ByteArray) =>
 CallT Pg fQeb [.string r2.2, .string x7] (.one (.c .bool)) H6 fun (r3 : Bool) H7 =>
 jab n_ fun a9 =>
 Ld .sl (a9.add 3) H7 fun (x8 : Sl) =>
 CallT Pg fQec [.string r2.1, slV x8] (.one (.c .bool)) H7 fun (r4 : Bool) H8 =>
 Jn (σ := Bool) (fun kk4 =>
 Br (!r3) (
 kk4 true H8) (
 Br (!r4) (
 kk4 true H8) (
 jab n_ fun a10 =>
 Ld (.int .i64) a10 H8 fun (x9 : Int) =>
 Br (x9 == 30) (
 jab n_ fun a11 =>
 Ld (.int .i64) (a11.add 2) H8 fun (x10 : Int) =>
 kk4 (decide (x10 < 0)) H8) (
 kk4 false H8)))) fun j4 H9 =>
 Br j4 (
 k false H9) (
 kk3 () H9))) fun j3 H4 =>
 LoopT (σ := Int) (fun next1 s1 H10 =>
 jab n_ fun a12 =>
 Ld .sl (a12.add 3) H10 fun (x11 : Sl) =>
 Br (decide (s1 < (x11.len : Int))) (
 jab n_ fun a13 =>
 Ld .sl (a13.add 3) H10 fun (x12 : Sl) =>
 IxA 1 x12 s1 fun a14 =>
 Ld .ptr a14 H10 fun (x13 : Option Addr) =>
 CallT Pg fQd6 [.pointer x13, .int .i64 j1, .pointer s_] (.one (.c .bool)) H10 fun (r5 : Bool) H11 =>
 Br (!r5) (
 k false H11) (
 Lt (IntKind.wrap .i64 (s1 + 1)) fun t3 =>
 next1 t3 H11)) (
 k true H10)) 0 H4)
def jhG : Hint := (hq (hq (.two (hq (.join [(1, (.c (.int .i64)))] .no)) (.two (.two (.join [(36, (.c .bool))] .no) .no) (.two (hq (.join [] (hq (hq (hq (hq (.two (.join [(88, (.c .bool))] .no) .no))))))) (.two (hq (.one (.loop [(12, (.c (.int .i64)))] .no))) .no))))))
theorem cQc4 (n_ : Option Addr) (deep_ : Int) (s_ : Option Addr) {H : jaa} {k : Bool → jaa → Prop} (h : vQc4 n_ deep_ s_ H k) : CallT Pg fQd6 [.pointer n_, .int .i64 deep_, .pointer s_] (.one (.c .bool)) H k := cE jad jhG Tryz.func37 h
def vQc5 (l_ : Sl) (H : jaa) (k : ByteArray → jaa → Prop) : Prop :=
 LoopT (σ := ByteArray × Int) (fun next1 s1 H1 =>
 Br (decide (s1.2 < (l_.len : Int))) (
 Jn (σ := ByteArray) (fun kk1 =>
 Br (decide (s1.2 > 0)) (
 jag s1.1 (⟨#[44, 32]⟩ : ByteArray) fun y1 =>
 kk1 y1 H1) (
 kk1 s1.1 H1)) fun j1 H2 =>
 IxA 1 l_ s1.2 fun a1 =>
 Ld .ptr a1 H2 fun (x1 : Option Addr) =>
 jab x1 fun a2 =>
 Ld .str (a2.add 1) H2 fun (x2 : ByteArray) =>
 jag j1 x2 fun y2 =>
 Lt (IntKind.wrap .i64 (s1.2 + 1)) fun t1 =>
 next1 (y2, t1) H2) (
 k s1.1 H1)) (((⟨#[]⟩ : ByteArray), 0)) H
def jiy : Hint := (hq (hq (.two (hq (.one (.loop [(3, (.c .str)), (4, (.c (.int .i64)))] (hq (.two (.one (.two (hq (.join [(3, (.c .str))] .no)) .no)) .no))))) .no)))
theorem cQc5 (l_ : Sl) {H : jaa} {k : ByteArray → jaa → Prop} (h : vQc5 l_ H k) : CallT Pg fQd7 [slV l_] (.one (.c .str)) H k := cE jad jiy Tryz.func38 h
def vQc6 (b_ : Option Addr) (tabs_ : ByteArray) (H : jaa) (k : ByteArray → jaa → Prop) : Prop :=
 LoopT (σ := ByteArray × Int) (fun next1 s1 H1 =>
 jab b_ fun a1 =>
 Ld .sl (a1.add 3) H1 fun (x1 : Sl) =>
 Br (decide (s1.2 < (x1.len : Int))) (
 jag s1.1 tabs_ fun y1 =>
 jab b_ fun a2 =>
 Ld .sl (a2.add 3) H1 fun (x2 : Sl) =>
 IxA 1 x2 s1.2 fun a3 =>
 Ld .ptr a3 H1 fun (x3 : Option Addr) =>
 CallT Pg fQed [.pointer x3, .string tabs_] (.one (.c .str)) H1 fun (r1 : ByteArray) H2 =>
 jag y1 r1 fun y2 =>
 jag y2 (⟨#[10]⟩ : ByteArray) fun y3 =>
 Lt (IntKind.wrap .i64 (s1.2 + 1)) fun t1 =>
 next1 (y3, t1) H2) (
 k s1.1 H1)) (((⟨#[]⟩ : ByteArray), 0)) H
def jiD : Hint := (hq (hq (.two (hq (.one (.loop [(5, (.c .str)), (6, (.c (.int .i64)))] .no))) .no)))
theorem cQc6 (b_ : Option Addr) (tabs_ : ByteArray) {H : jaa} {k : ByteArray → jaa → Prop} (h : vQc6 b_ tabs_ H k) : CallT Pg fQd8 [.pointer b_, .string tabs_] (.one (.c .str)) H k := cE jad jiD Tryz.func39 h
def vQc7 (l_ : Sl) (op_ : Int) (H : jaa) (k : Bool → jaa → Prop) : Prop :=
 LoopT (σ := Int) (fun next1 s1 H1 =>
 Br (decide (s1 < (l_.len : Int))) (
 IxA 1 l_ s1 fun a1 =>
 Ld .ptr a1 H1 fun (x1 : Option Addr) =>
 CallT Pg jkF [.pointer x1, .int .i64 op_] (.one (.c .bool)) H1 fun (r1 : Bool) H2 =>
 Jn (σ := Bool) (fun kk1 =>
 Br (op_ == 0) (
 IxA 1 l_ s1 fun a2 =>
 Ld .ptr a2 H2 fun (x2 : Option Addr) =>
 CallT Pg fQee [.pointer x2] (.one (.c .bool)) H2 fun (r2 : Bool) H4 =>
 kk1 r2 H4) (
 kk1 r1 H2)) fun j1 H3 =>
 Jn (σ := Bool) (fun kk2 =>
 Br (op_ == (-1)) (
 IxA 1 l_ s1 fun a3 =>
 Ld .ptr a3 H3 fun (x3 : Option Addr) =>
 CallT Pg fQef [.pointer x3] (.one (.c .bool)) H3 fun (r3 : Bool) H6 =>
 kk2 r3 H6) (
 kk2 j1 H3)) fun j2 H5 =>
 Br (!j2) (
 k false H5) (
 Lt (IntKind.wrap .i64 (s1 + 1)) fun t1 =>
 next1 t1 H5)) (
 k true H1)) 0 H
def jls : Hint := (hq (.two (hq (.one (.loop [(5, (.c (.int .i64)))] (hq (.two (.one (hq (.two (hq (.join [(6, (.c .bool))] .no)) (.two (hq (.join [(6, (.c .bool))] .no)) .no)))) .no))))) .no))
theorem cQc7 (l_ : Sl) (op_ : Int) {H : jaa} {k : Bool → jaa → Prop} (h : vQc7 l_ op_ H k) : CallT Pg fQd9 [slV l_, .int .i64 op_] (.one (.c .bool)) H k := cE jad jls Tryz.func66 h
def vQc8 (op_ : Int) (H : jaa) (k : ByteArray × ByteArray → jaa → Prop) : Prop :=
 Br (op_ == 2) (
 k (((⟨#[67, 66]⟩ : ByteArray), (⟨#[110]⟩ : ByteArray))) H) (
 Br (op_ == 4) (
 k (((⟨#[70, 66]⟩ : ByteArray), (⟨#[110]⟩ : ByteArray))) H) (
 Br (op_ == 5) (
 k (((⟨#[83]⟩ : ByteArray), (⟨#[45]⟩ : ByteArray))) H) (
 Jn (σ := Bool) (fun kk1 =>
 Br (op_ == 10) (
 kk1 true H) (
 kk1 (op_ == 11) H)) fun j1 H1 =>
 Br j1 (
 k (((⟨#[69]⟩ : ByteArray), (⟨#[110]⟩ : ByteArray))) H1) (
 Br (op_ == 12) (
 k (((⟨#[78, 69]⟩ : ByteArray), (⟨#[110]⟩ : ByteArray))) H1) (
 Br (op_ == 13) (
 k (((⟨#[69, 66, 73]⟩ : ByteArray), (⟨#[45]⟩ : ByteArray))) H1) (
 Jn (σ := Bool) (fun kk2 =>
 Br (op_ == 14) (
 kk2 true H1) (
 kk2 (op_ == 15) H1)) fun j2 H2 =>
 Br j2 (
 k (((⟨#[69, 66]⟩ : ByteArray), (⟨#[45]⟩ : ByteArray))) H2) (
 Br (op_ == 16) (
 k (((⟨#[69, 69]⟩ : ByteArray), (⟨#[45]⟩ : ByteArray))) H2) (
 Br (op_ == 17) (
 k (((⟨#[80]⟩ : ByteArray), (⟨#[45]⟩ : ByteArray))) H2) (
 Br (op_ == 18) (
 k (((⟨#[112]⟩ : ByteArray), (⟨#[45]⟩ : ByteArray))) H2) (
 Jn (σ := Bool) (fun kk3 =>
 Br (op_ == 19) (
 kk3 true H2) (
 Jn (σ := Bool) (fun kk4 =>
 Br (op_ == 31) (
 kk4 true H2) (
 kk4 (op_ == 37) H2)) fun j4 H4 =>
 kk3 j4 H4)) fun j3 H3 =>
 Br j3 (
 k (((⟨#[]⟩ : ByteArray), (⟨#[110]⟩ : ByteArray))) H3) (
 Jn (σ := Bool) (fun kk5 =>
 Br (op_ == 20) (
 kk5 true H3) (
 Jn (σ := Bool) (fun kk6 =>
 Br (op_ == 21) (
 kk6 true H3) (
 kk6 (op_ == 30) H3)) fun j6 H6 =>
 kk5 j6 H6)) fun j5 H5 =>
 Br j5 (
 k (((⟨#[]⟩ : ByteArray), (⟨#[45]⟩ : ByteArray))) H5) (
 Br (op_ == 22) (
 k (((⟨#[69]⟩ : ByteArray), (⟨#[45]⟩ : ByteArray))) H5) (
 Br (op_ == 23) (
 k (((⟨#[86]⟩ : ByteArray), (⟨#[110]⟩ : ByteArray))) H5) (
 Br (op_ == 24) (
 k (((⟨#[69]⟩ : ByteArray), (⟨#[110]⟩ : ByteArray))) H5) (
 Br (op_ == 32) (
 k (((⟨#[78]⟩ : ByteArray), (⟨#[110]⟩ : ByteArray))) H5) (
 Br (op_ == 33) (
 k (((⟨#[69, 69]⟩ : ByteArray), (⟨#[98]⟩ : ByteArray))) H5) (
 Br (op_ == 34) (
 k (((⟨#[69]⟩ : ByteArray), (⟨#[117]⟩ : ByteArray))) H5) (
 Br (op_ == 35) (
 k (((⟨#[69, 69, 69]⟩ : ByteArray), (⟨#[45]⟩ : ByteArray))) H5) (
 Br (op_ == 36) (
 k (((⟨#[65]⟩ : ByteArray), (⟨#[99]⟩ : ByteArray))) H5) (
 Br (op_ == 38) (
 k (((⟨#[]⟩ : ByteArray), (⟨#[119]⟩ : ByteArray))) H5) (
 k (((⟨#[63]⟩ : ByteArray), (⟨#[45]⟩ : ByteArray))) H5)))))))))))))))))))))
def jiG : Hint := (hq (.two (hq (.one (hq (hq (hq (hq (hq (hq (.two (hq (.join [(11, (.c .bool))] .no)) (hq (hq (hq (hq (hq (.two (hq (.join [(18, (.c .bool))] .no)) (hq (hq (hq (hq (hq (hq (hq (.two (hq (.join [(27, (.c .bool))] (hq (hq (.join [(27, (.c .bool))] .no))))) (hq (.two (hq (.join [(31, (.c .bool))] (hq (hq (.join [(31, (.c .bool))] .no))))) .no))))))))))))))))))))))))) .no))
theorem cQc8 (op_ : Int) {H : jaa} {k : ByteArray × ByteArray → jaa → Prop} (h : vQc8 op_ H k) : CallT Pg fQea [.int .i64 op_] (.tup [(.c .str), (.c .str)]) H k := cE jad jiG Tryz.func67 h
def vQc9 (kind_ : ByteArray) (s_ : ByteArray) (H : jaa) (k : Bool → jaa → Prop) : Prop :=
 CallT Pg fQeg [.string s_] (.one (.c .bool)) H fun (r1 : Bool) H1 =>
 Br ((kind_.toList == (⟨#[45]⟩ : ByteArray).toList)) (
 k ((s_.toList == (⟨#[]⟩ : ByteArray).toList)) H1) (
 Br ((kind_.toList == (⟨#[110]⟩ : ByteArray).toList)) (
 k r1 H1) (
 Br ((kind_.toList == (⟨#[98]⟩ : ByteArray).toList)) (
 CallT Pg fQdj [] (.one (.c .sl)) H1 fun (r2 : Sl) H2 =>
 LoopT (σ := Int) (fun next1 s1 H3 =>
 Br (decide (s1 < (r2.len : Int))) (
 IxA 1 r2 s1 fun a1 =>
 Ld .sl a1 H3 fun (x1 : Sl) =>
 CallT Pg fQeh [.string s_, slV x1] (.one (.c .bool)) H3 fun (r3 : Bool) H4 =>
 Br r3 (
 k true H4) (
 Lt (IntKind.wrap .i64 (s1 + 1)) fun t1 =>
 next1 t1 H4)) (
 k false H3)) 0 H2) (
 Br ((kind_.toList == (⟨#[117]⟩ : ByteArray).toList)) (
 Jn (σ := Bool) (fun kk1 =>
 Br ((s_.toList == (⟨#[45]⟩ : ByteArray).toList)) (
 kk1 true H1) (
 kk1 ((s_.toList == (⟨#[33]⟩ : ByteArray).toList)) H1)) fun j1 H5 =>
 k j1 H5) (
 Br ((kind_.toList == (⟨#[99]⟩ : ByteArray).toList)) (
 Jn (σ := Bool) (fun kk2 =>
 Br r1 (
 kk2 true H1) (
 Nw #[.string (⟨#[114, 97, 110, 100]⟩ : ByteArray), .string (⟨#[105, 110, 112, 117, 116]⟩ : ByteArray), .string (⟨#[109, 105, 110]⟩ : ByteArray), .string (⟨#[109, 97, 120]⟩ : ByteArray), .string (⟨#[97, 98, 115]⟩ : ByteArray)] jcC H1 fun b1 H7 =>
 CallT Pg fQeh [.string s_, .slice (some (adr b1)) 5 5] (.one (.c .bool)) H7 fun (r4 : Bool) H8 =>
 kk2 r4 H8)) fun j2 H6 =>
 k j2 H6) (
 Jn (σ := Bool) (fun kk3 =>
 Br ((s_.toList == (⟨#[116, 105, 99, 107]⟩ : ByteArray).toList)) (
 kk3 true H1) (
 kk3 ((s_.toList == (⟨#[109, 101]⟩ : ByteArray).toList)) H1)) fun j3 H9 =>
 k j3 H9)))))
def jkv : Hint := (hq (hq (.two (hq (.one (hq (hq (hq (hq (hq (.two (hq (.two (hq (.one (.loop [(7, (.c (.int .i64)))] .no))) .no)) (hq (.two (.two (.join [(4, (.c .bool))] .no) .no) (hq (.two (.two (.join [(4, (.c .bool))] .no) .no) .no)))))))))))) (.two (.join [(4, (.c .bool))] .no) .no))))
theorem cQc9 (kind_ : ByteArray) (s_ : ByteArray) {H : jaa} {k : Bool → jaa → Prop} (h : vQc9 kind_ s_ H k) : CallT Pg fQeb [.string kind_, .string s_] (.one (.c .bool)) H k := cE jad jkv Tryz.func68 h
def vQda (s_ : ByteArray) (l_ : Sl) (H : jaa) (k : Bool → jaa → Prop) : Prop :=
 LoopT (σ := Sl × Int) (fun next1 s1 H1 =>
 Br (decide (s1.2 < (s_.size : Int))) (
 Jn (σ := Sl) (fun kk1 =>
 jdP s_ s1.2 fun b1 =>
 Br (b1 == 83) (
 CallT Pg fQd9 [slV s1.1, .int .i64 (-1)] (.one (.c .bool)) H1 fun (r1 : Bool) H3 =>
 k r1 H3) (
 Br (b1 == 80) (
 CallT Pg fQd9 [slV s1.1, .int .i64 23] (.one (.c .bool)) H1 fun (r2 : Bool) H4 =>
 k r2 H4) (
 Br (b1 == 86) (
 CallT Pg fQd9 [slV s1.1, .int .i64 24] (.one (.c .bool)) H1 fun (r3 : Bool) H5 =>
 k r3 H5) (
 Br (b1 == 65) (
 CallT Pg fQd9 [slV s1.1, .int .i64 0] (.one (.c .bool)) H1 fun (r4 : Bool) H6 =>
 k r4 H6) (
 Br (b1 == 73) (
 Jn (σ := Bool) (fun kk2 =>
 Br ((s1.1.len : Int) == 0) (
 kk2 true H1) (
 Br ((s1.1.len : Int) == 1) (
 IxA 1 s1.1 0 fun a1 =>
 Ld .ptr a1 H1 fun (x1 : Option Addr) =>
 CallT Pg jkF [.pointer x1, .int .i64 5] (.one (.c .bool)) H1 fun (r5 : Bool) H8 =>
 Br r5 (
 kk2 true H8) (
 IxA 1 s1.1 0 fun a2 =>
 Ld .ptr a2 H8 fun (x2 : Option Addr) =>
 CallT Pg jkF [.pointer x2, .int .i64 13] (.one (.c .bool)) H8 fun (r6 : Bool) H9 =>
 kk2 r6 H9)) (
 kk2 false H1))) fun j2 H7 =>
 k j2 H7) (
 Br (b1 == 67) (
 CallT Pg fQei [slV s1.1] (.one (.c .bool)) H1 fun (r7 : Bool) H10 =>
 Br (!r7) (
 k false H10) (
 SlA 1 s1.1 4 (s1.1.len : Nat) (s1.1.cap : Nat) fun l1 =>
 kk1 l1 H10)) (
 Br ((s1.1.len : Int) == 0) (
 k false H1) (
 jdP s_ s1.2 fun b2 =>
 Jn (σ := Bool) (fun kk3 =>
 Jn (σ := Bool) (fun kk4 =>
 Br (b2 == 69) (
 IxA 1 s1.1 0 fun a3 =>
 Ld .ptr a3 H1 fun (x3 : Option Addr) =>
 CallT Pg fQee [.pointer x3] (.one (.c .bool)) H1 fun (r8 : Bool) H13 =>
 kk4 r8 H13) (
 Jn (σ := Bool) (fun kk5 =>
 Br (b2 == 66) (
 IxA 1 s1.1 0 fun a4 =>
 Ld .ptr a4 H1 fun (x4 : Option Addr) =>
 CallT Pg jkF [.pointer x4, .int .i64 5] (.one (.c .bool)) H1 fun (r9 : Bool) H15 =>
 kk5 r9 H15) (
 Jn (σ := Bool) (fun kk6 =>
 Br (b2 == 78) (
 IxA 1 s1.1 0 fun a5 =>
 Ld .ptr a5 H1 fun (x5 : Option Addr) =>
 CallT Pg jkF [.pointer x5, .int .i64 31] (.one (.c .bool)) H1 fun (r10 : Bool) H17 =>
 kk6 r10 H17) (
 Jn (σ := Bool) (fun kk7 =>
 Br (b2 == 112) (
 IxA 1 s1.1 0 fun a6 =>
 Ld .ptr a6 H1 fun (x6 : Option Addr) =>
 CallT Pg jkF [.pointer x6, .int .i64 23] (.one (.c .bool)) H1 fun (r11 : Bool) H19 =>
 kk7 r11 H19) (
 Jn (σ := Bool) (fun kk8 =>
 Br (b2 == 70) (
 Jn (σ := Bool) (fun kk9 =>
 IxA 1 s1.1 0 fun a7 =>
 Ld .ptr a7 H1 fun (x7 : Option Addr) =>
 CallT Pg jkF [.pointer x7, .int .i64 3] (.one (.c .bool)) H1 fun (r12 : Bool) H22 =>
 Br r12 (
 IxA 1 s1.1 0 fun a8 =>
 Ld .ptr a8 H22 fun (x8 : Option Addr) =>
 jab x8 fun a9 =>
 Ld .str (a9.add 1) H22 fun (x9 : ByteArray) =>
 kk9 ((x9.toList == (⟨#[102, 117, 110, 99]⟩ : ByteArray).toList)) H22) (
 kk9 false H22)) fun j9 H21 =>
 kk8 j9 H21) (
 kk8 false H1)) fun j8 H20 =>
 kk7 j8 H20)) fun j7 H18 =>
 kk6 j7 H18)) fun j6 H16 =>
 kk5 j6 H16)) fun j5 H14 =>
 kk4 j5 H14)) fun j4 H12 =>
 kk3 j4 H12) fun j3 H11 =>
 Br (!j3) (
 k false H11) (
 SlA 1 s1.1 1 (s1.1.len : Nat) (s1.1.cap : Nat) fun l2 =>
 kk1 l2 H11))))))))) fun j1 H2 =>
 Lt (IntKind.wrap .i64 (s1.2 + 1)) fun t1 =>
 next1 (j1, t1) H2) (
 Jn (σ := Bool) (fun kk10 =>
 Br ((s1.1.len : Int) == 0) (
 kk10 (!(s_.toList == (⟨#[63]⟩ : ByteArray).toList)) H1) (
 kk10 false H1)) fun j10 H23 =>
 k j10 H23)) (l_, 0) H
def jgn : Hint := (hq (.two (hq (.one (.loop [(1, (.c .sl)), (5, (.c (.int .i64)))] (hq (.two (.join [(1, (.c .sl))] (.one (.two (hq (.one (hq (hq (hq (hq (hq (hq (hq (hq (hq (.two (.two (.join [(4, (.c .bool))] .no) .no) .no)))))))))))) (hq (hq (.two (hq (.join [(7, (.c .bool))] (.one (hq (.join [(7, (.c .bool))] (hq (hq (.join [(7, (.c .bool))] (hq (hq (.join [(7, (.c .bool))] (hq (hq (.join [(7, (.c .bool))] (hq (hq (.join [(7, (.c .bool))] (.two (.join [(7, (.c .bool))] .no) .no)))))))))))))))))) .no)))))) .no))))) (.two (.join [(4, (.c .bool))] .no) .no)))
theorem cQda (s_ : ByteArray) (l_ : Sl) {H : jaa} {k : Bool → jaa → Prop} (h : vQda s_ l_ H k) : CallT Pg fQec [.string s_, slV l_] (.one (.c .bool)) H k := cE jad jgn Tryz.func69 h
def vQdb (n_ : Option Addr) (tabs_ : ByteArray) (H : jaa) (k : ByteArray → jaa → Prop) : Prop :=
 jab n_ fun a1 =>
 Ld (.int .i64) a1 H fun (x1 : Int) =>
 Br (x1 == 10) (
 jab n_ fun a2 =>
 Ld .str (a2.add 1) H fun (x2 : ByteArray) =>
 jag (⟨#[108, 101, 116, 32]⟩ : ByteArray) x2 fun y1 =>
 jag y1 (⟨#[32, 61, 32]⟩ : ByteArray) fun y2 =>
 jab n_ fun a3 =>
 Ld .sl (a3.add 3) H fun (x3 : Sl) =>
 IxA 1 x3 0 fun a4 =>
 Ld .ptr a4 H fun (x4 : Option Addr) =>
 CallT Pg jhX [.pointer x4] (.one (.c .str)) H fun (r1 : ByteArray) H1 =>
 Stab [(a3.add 3, slV x3), (a2.add 1, .string x2)] H1 <|
 jag y2 r1 fun y3 =>
 jag y3 (⟨#[59]⟩ : ByteArray) fun y4 =>
 k y4 H1) (
 Br (x1 == 11) (
 jab n_ fun a5 =>
 Ld .str (a5.add 1) H fun (x5 : ByteArray) =>
 jag x5 (⟨#[32, 61, 32]⟩ : ByteArray) fun y5 =>
 jab n_ fun a6 =>
 Ld .sl (a6.add 3) H fun (x6 : Sl) =>
 IxA 1 x6 0 fun a7 =>
 Ld .ptr a7 H fun (x7 : Option Addr) =>
 CallT Pg jhX [.pointer x7] (.one (.c .str)) H fun (r2 : ByteArray) H2 =>
 Stab [(a6.add 3, slV x6), (a5.add 1, .string x5)] H2 <|
 jag y5 r2 fun y6 =>
 jag y6 (⟨#[59]⟩ : ByteArray) fun y7 =>
 k y7 H2) (
 Br (x1 == 12) (
 jab n_ fun a8 =>
 Ld .str (a8.add 1) H fun (x8 : ByteArray) =>
 jag x8 (⟨#[46]⟩ : ByteArray) fun y8 =>
 jab n_ fun a9 =>
 Ld .sl (a9.add 3) H fun (x9 : Sl) =>
 IxA 1 x9 0 fun a10 =>
 Ld .ptr a10 H fun (x10 : Option Addr) =>
 jab x10 fun a11 =>
 Ld .str (a11.add 1) H fun (x11 : ByteArray) =>
 jag y8 x11 fun y9 =>
 jag y9 (⟨#[32, 61, 32]⟩ : ByteArray) fun y10 =>
 jab n_ fun a12 =>
 Ld .sl (a12.add 3) H fun (x12 : Sl) =>
 IxA 1 x12 1 fun a13 =>
 Ld .ptr a13 H fun (x13 : Option Addr) =>
 CallT Pg jhX [.pointer x13] (.one (.c .str)) H fun (r3 : ByteArray) H3 =>
 Stab [(a12.add 3, slV x12), (a11.add 1, .string x11), (a10, .pointer x10), (a9.add 3, slV x9), (a8.add 1, .string x8)] H3 <|
 jag y10 r3 fun y11 =>
 jag y11 (⟨#[59]⟩ : ByteArray) fun y12 =>
 k y12 H3) (
 Br (x1 == 13) (
 jab n_ fun a14 =>
 Ld .sl (a14.add 3) H fun (x14 : Sl) =>
 IxA 1 x14 0 fun a15 =>
 Ld .ptr a15 H fun (x15 : Option Addr) =>
 jab n_ fun a16 =>
 Ld .sl (a16.add 3) H fun (x16 : Sl) =>
 IxA 1 x16 1 fun a17 =>
 Ld .ptr a17 H fun (x17 : Option Addr) =>
 CallT Pg jhX [.pointer x15] (.one (.c .str)) H fun (r4 : ByteArray) H4 =>
 Stab [(a17, .pointer x17), (a16.add 3, slV x16), (a14.add 3, slV x14)] H4 <|
 jag (⟨#[105, 102, 32]⟩ : ByteArray) r4 fun y13 =>
 CallT Pg fQek [.pointer x17, .string tabs_] (.one (.c .str)) H4 fun (r5 : ByteArray) H5 =>
 Stab [(a16.add 3, slV x16), (a15, .pointer x15), (a14.add 3, slV x14)] H5 <|
 jag y13 r5 fun y14 =>
 jab n_ fun a18 =>
 Ld .sl (a18.add 3) H5 fun (x18 : Sl) =>
 Br (decide ((x18.len : Int) < 3)) (
 k y14 H5) (
 jab n_ fun a19 =>
 Ld .sl (a19.add 3) H5 fun (x19 : Sl) =>
 IxA 1 x19 2 fun a20 =>
 Ld .ptr a20 H5 fun (x20 : Option Addr) =>
 jab x20 fun a21 =>
 Ld (.int .i64) a21 H5 fun (x21 : Int) =>
 Br (x21 == 13) (
 jag y14 (⟨#[32, 101, 108, 115, 101, 32]⟩ : ByteArray) fun y15 =>
 jab n_ fun a22 =>
 Ld .sl (a22.add 3) H5 fun (x22 : Sl) =>
 IxA 1 x22 2 fun a23 =>
 Ld .ptr a23 H5 fun (x23 : Option Addr) =>
 CallT Pg fQed [.pointer x23, .string tabs_] (.one (.c .str)) H5 fun (r6 : ByteArray) H6 =>
 jag y15 r6 fun y16 =>
 k y16 H6) (
 jag y14 (⟨#[32, 101, 108, 115, 101]⟩ : ByteArray) fun y17 =>
 jab n_ fun a24 =>
 Ld .sl (a24.add 3) H5 fun (x24 : Sl) =>
 IxA 1 x24 2 fun a25 =>
 Ld .ptr a25 H5 fun (x25 : Option Addr) =>
 CallT Pg fQek [.pointer x25, .string tabs_] (.one (.c .str)) H5 fun (r7 : ByteArray) H7 =>
 jag y17 r7 fun y18 =>
 k y18 H7))) (
 Br (x1 == 14) (
 jab n_ fun a26 =>
 Ld .sl (a26.add 3) H fun (x26 : Sl) =>
 IxA 1 x26 0 fun a27 =>
 Ld .ptr a27 H fun (x27 : Option Addr) =>
 jab n_ fun a28 =>
 Ld .sl (a28.add 3) H fun (x28 : Sl) =>
 IxA 1 x28 1 fun a29 =>
 Ld .ptr a29 H fun (x29 : Option Addr) =>
 CallT Pg jhX [.pointer x27] (.one (.c .str)) H fun (r8 : ByteArray) H8 =>
 Stab [(a29, .pointer x29), (a28.add 3, slV x28), (a26.add 3, slV x26)] H8 <|
 jag (⟨#[119, 104, 105, 108, 101, 32]⟩ : ByteArray) r8 fun y19 =>
 CallT Pg fQek [.pointer x29, .string tabs_] (.one (.c .str)) H8 fun (r9 : ByteArray) H9 =>
 Stab [(a28.add 3, slV x28), (a27, .pointer x27), (a26.add 3, slV x26)] H9 <|
 jag y19 r9 fun y20 =>
 k y20 H9) (
 Br (x1 == 15) (
 jab n_ fun a30 =>
 Ld .sl (a30.add 3) H fun (x30 : Sl) =>
 IxA 1 x30 0 fun a31 =>
 Ld .ptr a31 H fun (x31 : Option Addr) =>
 jab n_ fun a32 =>
 Ld .sl (a32.add 3) H fun (x32 : Sl) =>
 IxA 1 x32 1 fun a33 =>
 Ld .ptr a33 H fun (x33 : Option Addr) =>
 CallT Pg jhX [.pointer x31] (.one (.c .str)) H fun (r10 : ByteArray) H10 =>
 Stab [(a33, .pointer x33), (a32.add 3, slV x32), (a30.add 3, slV x30)] H10 <|
 jag (⟨#[114, 101, 112, 101, 97, 116, 32]⟩ : ByteArray) r10 fun y21 =>
 CallT Pg fQek [.pointer x33, .string tabs_] (.one (.c .str)) H10 fun (r11 : ByteArray) H11 =>
 Stab [(a32.add 3, slV x32), (a31, .pointer x31), (a30.add 3, slV x30)] H11 <|
 jag y21 r11 fun y22 =>
 k y22 H11) (
 Br (x1 == 16) (
 jab n_ fun a34 =>
 Ld .sl (a34.add 3) H fun (x34 : Sl) =>
 IxA 1 x34 0 fun a35 =>
 Ld .ptr a35 H fun (x35 : Option Addr) =>
 jab n_ fun a36 =>
 Ld .sl (a36.add 3) H fun (x36 : Sl) =>
 IxA 1 x36 1 fun a37 =>
 Ld .ptr a37 H fun (x37 : Option Addr) =>
 CallT Pg jhX [.pointer x35] (.one (.c .str)) H fun (r12 : ByteArray) H12 =>
 Stab [(a37, .pointer x37), (a36.add 3, slV x36), (a34.add 3, slV x34)] H12 <|
 jag (⟨#[101, 109, 105, 116, 32]⟩ : ByteArray) r12 fun y23 =>
 jag y23 (⟨#[44, 32]⟩ : ByteArray) fun y24 =>
 CallT Pg jhX [.pointer x37] (.one (.c .str)) H12 fun (r13 : ByteArray) H13 =>
 Stab [(a36.add 3, slV x36), (a35, .pointer x35), (a34.add 3, slV x34)] H13 <|
 jag y24 r13 fun y25 =>
 jag y25 (⟨#[59]⟩ : ByteArray) fun y26 =>
 k y26 H13) (
 Br (x1 == 17) (
 jab n_ fun a38 =>
 Ld .sl (a38.add 3) H fun (x38 : Sl) =>
 Br ((x38.len : Int) == 0) (
 k (⟨#[115, 112, 97, 119, 110, 59]⟩ : ByteArray) H) (
 jab n_ fun a39 =>
 Ld .sl (a39.add 3) H fun (x39 : Sl) =>
 CallT Pg fQel [slV x39] (.one (.c .str)) H fun (r14 : ByteArray) H14 =>
 jag (⟨#[115, 112, 97, 119, 110, 32]⟩ : ByteArray) r14 fun y27 =>
 jag y27 (⟨#[59]⟩ : ByteArray) fun y28 =>
 k y28 H14)) (
 Br (x1 == 18) (
 jab n_ fun a40 =>
 Ld .sl (a40.add 3) H fun (x40 : Sl) =>
 CallT Pg fQel [slV x40] (.one (.c .str)) H fun (r15 : ByteArray) H15 =>
 jag (⟨#[97, 100, 100, 32]⟩ : ByteArray) r15 fun y29 =>
 jag y29 (⟨#[59]⟩ : ByteArray) fun y30 =>
 k y30 H15) (
 Br (x1 == 19) (
 jab n_ fun a41 =>
 Ld .str (a41.add 1) H fun (x41 : ByteArray) =>
 jag (⟨#[114, 101, 109, 111, 118, 101, 32]⟩ : ByteArray) x41 fun y31 =>
 jag y31 (⟨#[59]⟩ : ByteArray) fun y32 =>
 k y32 H) (
 Br (x1 == 20) (
 k (⟨#[100, 105, 101, 59]⟩ : ByteArray) H) (
 Br (x1 == 21) (
 k (⟨#[115, 116, 111, 112, 59]⟩ : ByteArray) H) (
 jab n_ fun a42 =>
 Ld .sl (a42.add 3) H fun (x42 : Sl) =>
 IxA 1 x42 0 fun a43 =>
 Ld .ptr a43 H fun (x43 : Option Addr) =>
 CallT Pg jhX [.pointer x43] (.one (.c .str)) H fun (r16 : ByteArray) H16 =>
 jag (⟨#[114, 101, 116, 117, 114, 110, 32]⟩ : ByteArray) r16 fun y33 =>
 jag y33 (⟨#[59]⟩ : ByteArray) fun y34 =>
 k y34 H16))))))))))))
def jkj : Hint := .no
theorem cQdb (n_ : Option Addr) (tabs_ : ByteArray) {H : jaa} {k : ByteArray → jaa → Prop} (h : vQdb n_ tabs_ H k) : CallT Pg fQed [.pointer n_, .string tabs_] (.one (.c .str)) H k := cE jad jkj Tryz.func70 h
def vQdc (n_ : Option Addr) (H : jaa) (k : Bool → jaa → Prop) : Prop :=
 Jn (σ := Bool) (fun kk1 =>
 Br (!n_.isNone) (
 jab n_ fun a1 =>
 Ld (.int .i64) a1 H fun (x1 : Int) =>
 Br (decide (x1 ≥ 30)) (
 jab n_ fun a2 =>
 Ld (.int .i64) a2 H fun (x2 : Int) =>
 kk1 (decide (x2 ≤ 38)) H) (
 kk1 false H)) (
 kk1 false H)) fun j1 H1 =>
 k j1 H1
def jhF : Hint := (hq (.two (.join [(2, (.c .bool))] .no) .no))
theorem cQdc (n_ : Option Addr) {H : jaa} {k : Bool → jaa → Prop} (h : vQdc n_ H k) : CallT Pg fQee [.pointer n_] (.one (.c .bool)) H k := cE jad jhF Tryz.func97 h
def vQdd (n_ : Option Addr) (H : jaa) (k : Bool → jaa → Prop) : Prop :=
 Jn (σ := Bool) (fun kk1 =>
 Br (!n_.isNone) (
 jab n_ fun a1 =>
 Ld (.int .i64) a1 H fun (x1 : Int) =>
 Br (decide (x1 ≥ 10)) (
 jab n_ fun a2 =>
 Ld (.int .i64) a2 H fun (x2 : Int) =>
 kk1 (decide (x2 ≤ 22)) H) (
 kk1 false H)) (
 kk1 false H)) fun j1 H1 =>
 k j1 H1
def jid : Hint := (hq (.two (.join [(2, (.c .bool))] .no) .no))
theorem cQdd (n_ : Option Addr) {H : jaa} {k : Bool → jaa → Prop} (h : vQdd n_ H k) : CallT Pg fQef [.pointer n_] (.one (.c .bool)) H k := cE jad jid Tryz.func98 h
def vQde (s_ : ByteArray) (H : jaa) (k : Bool → jaa → Prop) : Prop :=
 CallT Pg fQbh [.string s_] (.tup [(.c .sl), (.c (.int .i64)), (.c (.int .i64))]) H fun (r1 : Sl × Int × Int) H1 =>
 CallT Pg fQdk [.string s_] (.one (.c .bool)) H1 fun (r2 : Bool) H2 =>
 Jn (σ := Bool) (fun kk1 =>
 Br (r1.2.2 == 0) (
 Br ((r1.1.len : Int) == 2) (
 IxA 3 r1.1 0 fun a1 =>
 Ld (.int .i64) a1 H2 fun (x1 : Int) =>
 Br (x1 == 1) (
 IxA 3 r1.1 0 fun a2 =>
 Ld .str (a2.add 1) H2 fun (x2 : ByteArray) =>
 Br (x2.toList == s_.toList) (
 kk1 (!r2) H2) (
 kk1 false H2)) (
 kk1 false H2)) (
 kk1 false H2)) (
 kk1 false H2)) fun j1 H3 =>
 k j1 H3
def jiw : Hint := (hq (hq (hq (.two (.join [(2, (.c .bool))] .no) .no))))
theorem cQde (s_ : ByteArray) {H : jaa} {k : Bool → jaa → Prop} (h : vQde s_ H k) : CallT Pg fQeg [.string s_] (.one (.c .bool)) H k := cE jad jiw Tryz.func99 h
def vQdf (s_ : ByteArray) (l_ : Sl) (H : jaa) (k : Bool → jaa → Prop) : Prop :=
 LoopT (σ := Int) (fun next1 s1 H1 =>
 Br (decide (s1 < (l_.len : Int))) (
 IxA 1 l_ s1 fun a1 =>
 Ld .str a1 H1 fun (x1 : ByteArray) =>
 Br (x1.toList == s_.toList) (
 k true H1) (
 Lt (IntKind.wrap .i64 (s1 + 1)) fun t1 =>
 next1 t1 H1)) (
 k false H1)) 0 H
def jmW : Hint := (hq (.two (hq (.one (.loop [(5, (.c (.int .i64)))] .no))) .no))
theorem cQdf (s_ : ByteArray) (l_ : Sl) {H : jaa} {k : Bool → jaa → Prop} (h : vQdf s_ l_ H k) : CallT Pg fQeh [.string s_, slV l_] (.one (.c .bool)) H k := cE jad jmW Tryz.func101 h
def vQdg (l_ : Sl) (H : jaa) (k : Bool → jaa → Prop) : Prop :=
 Nw #[.string (⟨#[119, 105, 116, 104]⟩ : ByteArray), .string (⟨#[119, 105, 116, 104, 111, 117, 116]⟩ : ByteArray), .string (⟨#[114, 101, 97, 100, 115]⟩ : ByteArray), .string (⟨#[119, 114, 105, 116, 101, 115]⟩ : ByteArray)] jcC H fun b1 H1 =>
 LoopT (σ := Int) (fun next1 s1 H2 =>
 Br (decide (s1 < 4)) (
 Br (decide (s1 ≥ (l_.len : Int))) (
 k false H2) (
 IxA 1 l_ s1 fun a1 =>
 Ld .ptr a1 H2 fun (x1 : Option Addr) =>
 CallT Pg jkF [.pointer x1, .int .i64 3] (.one (.c .bool)) H2 fun (r1 : Bool) H3 =>
 Jn (σ := Bool) (fun kk1 =>
 Br (!r1) (
 kk1 true H3) (
 IxA 1 l_ s1 fun a2 =>
 Ld .ptr a2 H3 fun (x2 : Option Addr) =>
 jab x2 fun a3 =>
 Ld .str (a3.add 1) H3 fun (x3 : ByteArray) =>
 IxA 1 ⟨some (adr b1), 4, 4⟩ s1 fun a4 =>
 Ld .str a4 H3 fun (x4 : ByteArray) =>
 kk1 (!(x3.toList == x4.toList)) H3)) fun j1 H4 =>
 Br j1 (
 k false H4) (
 Lt (IntKind.wrap .i64 (s1 + 1)) fun t1 =>
 next1 t1 H4))) (
 k true H2)) 0 H1
def jhd : Hint := (hq (hq (.two (hq (.one (.loop [(4, (.c (.int .i64)))] (hq (.two (.one (hq (hq (.two (.join [(35, (.c .bool))] .no) .no)))) .no))))) .no)))
theorem cQdg (l_ : Sl) {H : jaa} {k : Bool → jaa → Prop} (h : vQdg l_ H k) : CallT Pg fQei [slV l_] (.one (.c .bool)) H k := cE jad jhd Tryz.func102 h
def vQdh (n_ : Option Addr) (H : jaa) (k : ByteArray → jaa → Prop) : Prop :=
 jab n_ fun a1 =>
 Ld (.int .i64) a1 H fun (x1 : Int) =>
 Br (x1 == 30) (
 jab n_ fun a2 =>
 Ld (.int .i64) (a2.add 2) H fun (x2 : Int) =>
 CallT Pg fQem [.int .i64 x2] (.one (.c .str)) H fun (r1 : ByteArray) H1 =>
 k r1 H1) (
 Br (x1 == 32) (
 jab n_ fun a3 =>
 Ld .str (a3.add 1) H fun (x3 : ByteArray) =>
 jag x3 (⟨#[46]⟩ : ByteArray) fun y1 =>
 jab n_ fun a4 =>
 Ld .sl (a4.add 3) H fun (x4 : Sl) =>
 IxA 1 x4 0 fun a5 =>
 Ld .ptr a5 H fun (x5 : Option Addr) =>
 jab x5 fun a6 =>
 Ld .str (a6.add 1) H fun (x6 : ByteArray) =>
 jag y1 x6 fun y2 =>
 k y2 H) (
 Br (x1 == 33) (
 jab n_ fun a7 =>
 Ld .sl (a7.add 3) H fun (x7 : Sl) =>
 IxA 1 x7 0 fun a8 =>
 Ld .ptr a8 H fun (x8 : Option Addr) =>
 jab n_ fun a9 =>
 Ld .str (a9.add 1) H fun (x9 : ByteArray) =>
 jab n_ fun a10 =>
 Ld .sl (a10.add 3) H fun (x10 : Sl) =>
 IxA 1 x10 1 fun a11 =>
 Ld .ptr a11 H fun (x11 : Option Addr) =>
 CallT Pg fQeo [.pointer n_] (.one (.c (.int .i64))) H fun (r2 : Int) H2 =>
 Stab [(a11, .pointer x11), (a10.add 3, slV x10), (a9.add 1, .string x9), (a8, .pointer x8), (a7.add 3, slV x7)] H2 <|
 CallT Pg fQen [.pointer x8, .int .i64 r2] (.one (.c .str)) H2 fun (r3 : ByteArray) H3 =>
 Stab [(a11, .pointer x11), (a10.add 3, slV x10), (a9.add 1, .string x9), (a7.add 3, slV x7)] H3 <|
 jag r3 (⟨#[32]⟩ : ByteArray) fun y3 =>
 jag y3 x9 fun y4 =>
 jag y4 (⟨#[32]⟩ : ByteArray) fun y5 =>
 CallT Pg fQeo [.pointer n_] (.one (.c (.int .i64))) H3 fun (r4 : Int) H4 =>
 Stab [(a11, .pointer x11), (a10.add 3, slV x10), (a9.add 1, .string x9), (a8, .pointer x8), (a7.add 3, slV x7)] H4 <|
 Lt (IntKind.wrap .i64 (r4 + 1)) fun t1 =>
 CallT Pg fQen [.pointer x11, .int .i64 t1] (.one (.c .str)) H4 fun (r5 : ByteArray) H5 =>
 Stab [(a10.add 3, slV x10), (a9.add 1, .string x9), (a8, .pointer x8), (a7.add 3, slV x7)] H5 <|
 jag y5 r5 fun y6 =>
 k y6 H5) (
 Br (x1 == 34) (
 jab n_ fun a12 =>
 Ld .str (a12.add 1) H fun (x12 : ByteArray) =>
 jab n_ fun a13 =>
 Ld .sl (a13.add 3) H fun (x13 : Sl) =>
 IxA 1 x13 0 fun a14 =>
 Ld .ptr a14 H fun (x14 : Option Addr) =>
 CallT Pg fQen [.pointer x14, .int .i64 7] (.one (.c .str)) H fun (r6 : ByteArray) H6 =>
 Stab [(a13.add 3, slV x13), (a12.add 1, .string x12)] H6 <|
 jag x12 r6 fun y7 =>
 k y7 H6) (
 Br (x1 == 35) (
 jab n_ fun a15 =>
 Ld .sl (a15.add 3) H fun (x15 : Sl) =>
 IxA 1 x15 0 fun a16 =>
 Ld .ptr a16 H fun (x16 : Option Addr) =>
 jab n_ fun a17 =>
 Ld .sl (a17.add 3) H fun (x17 : Sl) =>
 IxA 1 x17 1 fun a18 =>
 Ld .ptr a18 H fun (x18 : Option Addr) =>
 jab n_ fun a19 =>
 Ld .sl (a19.add 3) H fun (x19 : Sl) =>
 IxA 1 x19 2 fun a20 =>
 Ld .ptr a20 H fun (x20 : Option Addr) =>
 CallT Pg fQen [.pointer x16, .int .i64 0] (.one (.c .str)) H fun (r7 : ByteArray) H7 =>
 Stab [(a20, .pointer x20), (a19.add 3, slV x19), (a18, .pointer x18), (a17.add 3, slV x17), (a15.add 3, slV x15)] H7 <|
 jag r7 (⟨#[32, 63, 32]⟩ : ByteArray) fun y8 =>
 CallT Pg jhX [.pointer x18] (.one (.c .str)) H7 fun (r8 : ByteArray) H8 =>
 Stab [(a20, .pointer x20), (a19.add 3, slV x19), (a17.add 3, slV x17), (a16, .pointer x16), (a15.add 3, slV x15)] H8 <|
 jag y8 r8 fun y9 =>
 jag y9 (⟨#[32, 58, 32]⟩ : ByteArray) fun y10 =>
 CallT Pg jhX [.pointer x20] (.one (.c .str)) H8 fun (r9 : ByteArray) H9 =>
 Stab [(a19.add 3, slV x19), (a18, .pointer x18), (a17.add 3, slV x17), (a16, .pointer x16), (a15.add 3, slV x15)] H9 <|
 jag y10 r9 fun y11 =>
 k y11 H9) (
 Br (x1 == 36) (
 LoopT (σ := ByteArray × Int) (fun next1 s1 H10 =>
 jab n_ fun a21 =>
 Ld .sl (a21.add 3) H10 fun (x21 : Sl) =>
 Br (decide (s1.2 < (x21.len : Int))) (
 Jn (σ := ByteArray) (fun kk1 =>
 Br (decide (s1.2 > 0)) (
 jag s1.1 (⟨#[44, 32]⟩ : ByteArray) fun y12 =>
 kk1 y12 H10) (
 kk1 s1.1 H10)) fun j1 H11 =>
 jab n_ fun a22 =>
 Ld .sl (a22.add 3) H11 fun (x22 : Sl) =>
 IxA 1 x22 s1.2 fun a23 =>
 Ld .ptr a23 H11 fun (x23 : Option Addr) =>
 CallT Pg jhX [.pointer x23] (.one (.c .str)) H11 fun (r10 : ByteArray) H12 =>
 jag j1 r10 fun y13 =>
 Lt (IntKind.wrap .i64 (s1.2 + 1)) fun t2 =>
 next1 (y13, t2) H12) (
 jab n_ fun a24 =>
 Ld .str (a24.add 1) H10 fun (x24 : ByteArray) =>
 jag x24 (⟨#[40]⟩ : ByteArray) fun y14 =>
 jag y14 s1.1 fun y15 =>
 jag y15 (⟨#[41]⟩ : ByteArray) fun y16 =>
 k y16 H10)) (((⟨#[]⟩ : ByteArray), 0)) H) (
 Br (x1 == 37) (
 jab n_ fun a25 =>
 Ld .str (a25.add 1) H fun (x25 : ByteArray) =>
 jag (⟨#[104, 97, 115, 40]⟩ : ByteArray) x25 fun y17 =>
 jag y17 (⟨#[41]⟩ : ByteArray) fun y18 =>
 k y18 H) (
 jab n_ fun a26 =>
 Ld .str (a26.add 1) H fun (x26 : ByteArray) =>
 k x26 H)))))))
def jkB : Hint := (hq (.two (hq (.one (hq (hq (hq (hq (hq (hq (hq (hq (hq (hq (hq (.two (hq (.two (hq (.one (.loop [(3, (.c .str)), (4, (.c (.int .i64)))] (hq (.two (.one (.two (hq (.join [(3, (.c .str))] .no)) .no)) .no))))) .no)) .no)))))))))))))) .no))
theorem cQdh (n_ : Option Addr) {H : jaa} {k : ByteArray → jaa → Prop} (h : vQdh n_ H k) : CallT Pg jhX [.pointer n_] (.one (.c .str)) H k := cE jad jkB Tryz.func103 h
def vQdi (b_ : Option Addr) (tabs_ : ByteArray) (H : jaa) (k : ByteArray → jaa → Prop) : Prop :=
 jag tabs_ (⟨#[9]⟩ : ByteArray) fun y1 =>
 CallT Pg fQd8 [.pointer b_, .string y1] (.one (.c .str)) H fun (r1 : ByteArray) H1 =>
 jag (⟨#[32, 123, 10]⟩ : ByteArray) r1 fun y2 =>
 jag y2 tabs_ fun y3 =>
 jag y3 (⟨#[125]⟩ : ByteArray) fun y4 =>
 k y4 H1
def jkh : Hint := .no
theorem cQdi (b_ : Option Addr) (tabs_ : ByteArray) {H : jaa} {k : ByteArray → jaa → Prop} (h : vQdi b_ tabs_ H k) : CallT Pg fQek [.pointer b_, .string tabs_] (.one (.c .str)) H k := cE jad jkh Tryz.func104 h
def vQdj (l_ : Sl) (H : jaa) (k : ByteArray → jaa → Prop) : Prop :=
 LoopT (σ := ByteArray × Int) (fun next1 s1 H1 =>
 Br (decide (s1.2 < (l_.len : Int))) (
 Jn (σ := ByteArray) (fun kk1 =>
 Br (decide (s1.2 > 0)) (
 jag s1.1 (⟨#[44, 32]⟩ : ByteArray) fun y1 =>
 kk1 y1 H1) (
 kk1 s1.1 H1)) fun j1 H2 =>
 IxA 1 l_ s1.2 fun a1 =>
 Ld .ptr a1 H2 fun (x1 : Option Addr) =>
 jab x1 fun a2 =>
 Ld .str (a2.add 1) H2 fun (x2 : ByteArray) =>
 jag j1 x2 fun y2 =>
 jag y2 (⟨#[123]⟩ : ByteArray) fun y3 =>
 LoopT (σ := ByteArray × Int) (fun next2 s2 H3 =>
 IxA 1 l_ s1.2 fun a3 =>
 Ld .ptr a3 H3 fun (x3 : Option Addr) =>
 jab x3 fun a4 =>
 Ld .sl (a4.add 3) H3 fun (x4 : Sl) =>
 Br (decide (s2.2 < (x4.len : Int))) (
 Jn (σ := ByteArray) (fun kk2 =>
 Br (decide (s2.2 > 0)) (
 jag s2.1 (⟨#[44, 32]⟩ : ByteArray) fun y4 =>
 kk2 y4 H3) (
 kk2 s2.1 H3)) fun j2 H4 =>
 IxA 1 l_ s1.2 fun a5 =>
 Ld .ptr a5 H4 fun (x5 : Option Addr) =>
 jab x5 fun a6 =>
 Ld .sl (a6.add 3) H4 fun (x6 : Sl) =>
 IxA 1 x6 s2.2 fun a7 =>
 Ld .ptr a7 H4 fun (x7 : Option Addr) =>
 jab x7 fun a8 =>
 Ld .str (a8.add 1) H4 fun (x8 : ByteArray) =>
 jag j2 x8 fun y5 =>
 jag y5 (⟨#[58, 32]⟩ : ByteArray) fun y6 =>
 IxA 1 l_ s1.2 fun a9 =>
 Ld .ptr a9 H4 fun (x9 : Option Addr) =>
 jab x9 fun a10 =>
 Ld .sl (a10.add 3) H4 fun (x10 : Sl) =>
 IxA 1 x10 s2.2 fun a11 =>
 Ld .ptr a11 H4 fun (x11 : Option Addr) =>
 jab x11 fun a12 =>
 Ld .sl (a12.add 3) H4 fun (x12 : Sl) =>
 IxA 1 x12 0 fun a13 =>
 Ld .ptr a13 H4 fun (x13 : Option Addr) =>
 CallT Pg jhX [.pointer x13] (.one (.c .str)) H4 fun (r1 : ByteArray) H5 =>
 Stab [(a12.add 3, slV x12), (a11, .pointer x11), (a10.add 3, slV x10), (a9, .pointer x9), (a8.add 1, .string x8), (a7, .pointer x7), (a6.add 3, slV x6), (a5, .pointer x5)] H5 <|
 jag y6 r1 fun y7 =>
 Lt (IntKind.wrap .i64 (s2.2 + 1)) fun t1 =>
 next2 (y7, t1) H5) (
 jag s2.1 (⟨#[125]⟩ : ByteArray) fun y8 =>
 Lt (IntKind.wrap .i64 (s1.2 + 1)) fun t2 =>
 next1 (y8, t2) H3)) (y3, 0) H2) (
 k s1.1 H1)) (((⟨#[]⟩ : ByteArray), 0)) H
def jiv : Hint := (hq (hq (.two (hq (.one (.loop [(3, (.c .str)), (4, (.c (.int .i64)))] (hq (.two (.one (.two (hq (.join [(3, (.c .str))] .no)) (hq (.two (hq (.one (.loop [(3, (.c .str)), (5, (.c (.int .i64)))] (hq (.two (.one (.two (hq (.join [(3, (.c .str))] .no)) .no)) .no))))) .no)))) .no))))) .no)))
theorem cQdj (l_ : Sl) {H : jaa} {k : ByteArray → jaa → Prop} (h : vQdj l_ H k) : CallT Pg fQel [slV l_] (.one (.c .str)) H k := cE jad jiv Tryz.func105 h
def vQdk (n_ : Int) (H : jaa) (k : ByteArray → jaa → Prop) : Prop :=
 LoopT (σ := Int × ByteArray) (fun next1 s1 H1 =>
 Jn (σ := Bool) (fun kk1 =>
 Br ((s1.2.toList == (⟨#[]⟩ : ByteArray).toList)) (
 kk1 true H1) (
 kk1 (decide (s1.1 > 0)) H1)) fun j1 H2 =>
 Br j1 (
 Rem s1.1 10 fun t1 =>
 Rem s1.1 10 fun t2 =>
 Lt (IntKind.wrap .i64 (t2 + 1)) fun t3 =>
 jl7 (⟨#[48, 49, 50, 51, 52, 53, 54, 55, 56, 57]⟩ : ByteArray) t1 t3 fun y1 =>
 jag y1 s1.2 fun y2 =>
 Quo .i64 s1.1 10 fun t4 =>
 next1 (t4, y2) H2) (
 k s1.2 H2)) ((n_, (⟨#[]⟩ : ByteArray))) H
def jii : Hint := (hq (hq (.two (.one (.loop [(0, (.c (.int .i64))), (3, (.c .str))] (.two (.two (.join [(9, (.c .bool))] .no) .no) .no))) .no)))
theorem cQdk (n_ : Int) {H : jaa} {k : ByteArray → jaa → Prop} (h : vQdk n_ H k) : CallT Pg fQem [.int .i64 n_] (.one (.c .str)) H k := cE jad jii Tryz.func135 h
def vQdl (n_ : Option Addr) (least_ : Int) (H : jaa) (k : ByteArray → jaa → Prop) : Prop :=
 CallT Pg fQeo [.pointer n_] (.one (.c (.int .i64))) H fun (r1 : Int) H1 =>
 Br (decide (r1 < least_)) (
 CallT Pg jhX [.pointer n_] (.one (.c .str)) H1 fun (r2 : ByteArray) H2 =>
 jag (⟨#[40]⟩ : ByteArray) r2 fun y1 =>
 jag y1 (⟨#[41]⟩ : ByteArray) fun y2 =>
 k y2 H2) (
 CallT Pg jhX [.pointer n_] (.one (.c .str)) H1 fun (r3 : ByteArray) H3 =>
 k r3 H3)
def jh5 : Hint := .no
theorem cQdl (n_ : Option Addr) (least_ : Int) {H : jaa} {k : ByteArray → jaa → Prop} (h : vQdl n_ least_ H k) : CallT Pg fQen [.pointer n_, .int .i64 least_] (.one (.c .str)) H k := cE jad jh5 Tryz.func136 h
def vQdm (n_ : Option Addr) (H : jaa) (k : Int → jaa → Prop) : Prop :=
 jab n_ fun a1 =>
 Ld (.int .i64) a1 H fun (x1 : Int) =>
 Br (x1 == 35) (
 k (-1) H) (
 jab n_ fun a2 =>
 Ld (.int .i64) a2 H fun (x2 : Int) =>
 Br (x2 != 33) (
 k 7 H) (
 CallT Pg fQdj [] (.one (.c .sl)) H fun (r1 : Sl) H1 =>
 LoopT (σ := Int) (fun next1 s1 H2 =>
 Br (decide (s1 < (r1.len : Int))) (
 jab n_ fun a3 =>
 Ld .str (a3.add 1) H2 fun (x3 : ByteArray) =>
 IxA 1 r1 s1 fun a4 =>
 Ld .sl a4 H2 fun (x4 : Sl) =>
 CallT Pg fQeh [.string x3, slV x4] (.one (.c .bool)) H2 fun (r2 : Bool) H3 =>
 Br r2 (
 k s1 H3) (
 Lt (IntKind.wrap .i64 (s1 + 1)) fun t1 =>
 next1 t1 H3)) (
 k 7 H2)) 0 H1))
def jit : Hint := (hq (hq (hq (hq (.two (hq (.one (.loop [(4, (.c (.int .i64)))] .no))) .no)))))
theorem cQdm (n_ : Option Addr) {H : jaa} {k : Int → jaa → Prop} (h : vQdm n_ H k) : CallT Pg fQeo [.pointer n_] (.one (.c (.int .i64))) H k := cE jad jit Tryz.func137 h
end
section
open Hc
abbrev fQep : FuncId := 4
def vQdn (t_ : Int × ByteArray × Int × Sl × Int) (u_ : Int × ByteArray × Int × Sl × Int) (H : jaa) (k : Bool → jaa → Prop) : Prop :=
 Nw #[.int .i64 t_.1, .string t_.2.1, .int .i64 t_.2.2.1, slV t_.2.2.2.1, .int .i64 t_.2.2.2.2] jlf H fun b1 H1 =>
 Nw #[.int .i64 u_.1, .string u_.2.1, .int .i64 u_.2.2.1, slV u_.2.2.2.1, .int .i64 u_.2.2.2.2] jlf H1 fun b2 H2 =>
 CallT Pg fQb7 [] (.one (.c .bool)) H2 fun (r1 : Bool) H3 =>
 Jn (σ := Bool) (fun kk1 =>
 Br (!r1) (
 kk1 true H3) (
 LdC [(.int .i64), .str, (.int .i64), .sl, (.int .i64)] (adr b1) H3 fun (c1 : Int × ByteArray × Int × Sl × Int) =>
 CallT Pg fQdy [.agg #[.int .i64 c1.1, .string c1.2.1, .int .i64 c1.2.2.1, slV c1.2.2.2.1, .int .i64 c1.2.2.2.2], .int .i64 200000] (.one (.c (.int .i64))) H3 fun (r2 : Int) H5 =>
 Br (decide (r2 ≥ 200000)) (
 kk1 true H5) (
 LdC [(.int .i64), .str, (.int .i64), .sl, (.int .i64)] (adr b2) H5 fun (c2 : Int × ByteArray × Int × Sl × Int) =>
 CallT Pg fQdy [.agg #[.int .i64 c2.1, .string c2.2.1, .int .i64 c2.2.2.1, slV c2.2.2.2.1, .int .i64 c2.2.2.2.2], .int .i64 200000] (.one (.c (.int .i64))) H5 fun (r3 : Int) H6 =>
 kk1 (decide (r3 ≥ 200000)) H6))) fun j1 H4 =>
 Br j1 (
 k r1 H4) (
 LdC [(.int .i64), .str, (.int .i64), .sl, (.int .i64)] (adr b1) H4 fun (c3 : Int × ByteArray × Int × Sl × Int) =>
 CallT Pg fQdz [.agg #[.int .i64 c3.1, .string c3.2.1, .int .i64 c3.2.2.1, slV c3.2.2.2.1, .int .i64 c3.2.2.2.2]] (.one (.c .ptr)) H4 fun (r4 : Option Addr) H7 =>
 LdC [(.int .i64), .str, (.int .i64), .sl, (.int .i64)] (adr b2) H7 fun (c4 : Int × ByteArray × Int × Sl × Int) =>
 CallT Pg fQdz [.agg #[.int .i64 c4.1, .string c4.2.1, .int .i64 c4.2.2.1, slV c4.2.2.2.1, .int .i64 c4.2.2.2.2]] (.one (.c .ptr)) H7 fun (r5 : Option Addr) H8 =>
 LdC [(.int .i64), .str, (.int .i64), .sl, (.int .i64)] (adr b1) H8 fun (c5 : Int × ByteArray × Int × Sl × Int) =>
 CallT Pg fQd0 [.agg #[.int .i64 c5.1, .string c5.2.1, .int .i64 c5.2.2.1, slV c5.2.2.2.1, .int .i64 c5.2.2.2.2]] (.one (.c .ptr)) H8 fun (r6 : Option Addr) H9 =>
 LdC [(.int .i64), .str, (.int .i64), .sl, (.int .i64)] (adr b2) H9 fun (c6 : Int × ByteArray × Int × Sl × Int) =>
 CallT Pg fQd0 [.agg #[.int .i64 c6.1, .string c6.2.1, .int .i64 c6.2.2.1, slV c6.2.2.2.1, .int .i64 c6.2.2.2.2]] (.one (.c .ptr)) H9 fun (r7 : Option Addr) H10 =>
 CallT Pg fQca [.pointer r4] (.one (.c .str)) H10 fun (r8 : ByteArray) H11 =>
 CallT Pg fQcb [.pointer r4, .pointer r5] (.one (.c .bool)) H11 fun (r9 : Bool) H12 =>
 LdC [(.int .i64), .str, (.int .i64), .sl, (.int .i64)] (adr b1) H12 fun (c7 : Int × ByteArray × Int × Sl × Int) =>
 CallT Pg fQdz [.agg #[.int .i64 c7.1, .string c7.2.1, .int .i64 c7.2.2.1, slV c7.2.2.2.1, .int .i64 c7.2.2.2.2]] (.one (.c .ptr)) H12 fun (r10 : Option Addr) H13 =>
 CallT Pg fQcb [.pointer r4, .pointer r10] (.one (.c .bool)) H13 fun (r11 : Bool) H14 =>
 LdC [(.int .i64), .str, (.int .i64), .sl, (.int .i64)] (adr b1) H14 fun (c8 : Int × ByteArray × Int × Sl × Int) =>
 CallT Pg fQd1 [.agg #[.int .i64 c8.1, .string c8.2.1, .int .i64 c8.2.2.1, slV c8.2.2.2.1, .int .i64 c8.2.2.2.2], .pointer r4] (.one (.c .bool)) H14 fun (r12 : Bool) H15 =>
 LdC [(.int .i64), .str, (.int .i64), .sl, (.int .i64)] (adr b2) H15 fun (c9 : Int × ByteArray × Int × Sl × Int) =>
 CallT Pg fQd1 [.agg #[.int .i64 c9.1, .string c9.2.1, .int .i64 c9.2.2.1, slV c9.2.2.2.1, .int .i64 c9.2.2.2.2], .pointer r5] (.one (.c .bool)) H15 fun (r13 : Bool) H16 =>
 CallT Pg jnk [.int .i64 2] (.one (.c .str)) H16 fun (r14 : ByteArray) H17 =>
 Jn (σ := Bool) (fun kk2 =>
 CallT Pg jnk [.int .i64 15] (.one (.c .str)) H17 fun (r15 : ByteArray) H19 =>
 Br (!(r15.toList == (⟨#[]⟩ : ByteArray).toList)) (
 CallT Pg jnk [.int .i64 16] (.one (.c .str)) H19 fun (r16 : ByteArray) H20 =>
 kk2 ((r16.toList == (⟨#[]⟩ : ByteArray).toList)) H20) (
 kk2 false H19)) fun j2 H18 =>
 Jn (σ := Bool) (fun kk3 =>
 Br ((r14.toList == (⟨#[102, 117, 110, 99, 32, 102, 40, 41, 32, 123, 10, 9, 114, 101, 116, 117, 114, 110, 32, 49, 32, 43, 32, 49, 32, 43, 32, 40, 49, 32, 43, 32, 49, 41, 59, 10, 125, 10]⟩ : ByteArray).toList)) (
 Br j2 (
 Br r12 (
 Br r13 (
 Br r11 (
 CallT Pg fQd3 [.pointer r6] (.one (.c .str)) H18 fun (r17 : ByteArray) H22 =>
 Br (r8.toList == r17.toList) (
 CallT Pg fQd4 [.pointer r6, .pointer r7] (.one (.c .bool)) H22 fun (r18 : Bool) H23 =>
 kk3 (r9 == r18) H23) (
 kk3 false H22)) (
 kk3 false H18)) (
 kk3 false H18)) (
 kk3 false H18)) (
 kk3 false H18)) (
 kk3 false H18)) fun j3 H21 =>
 k j3 H21)
def jer : Hint := (hq (hq (.two (.two (.join [(29, (.c .bool))] .no) .no) (hq (hq (hq (hq (hq (hq (hq (hq (hq (hq (.two (.join [(16, (.c .bool))] .no) (.two (.join [(4, (.c .bool))] .no) .no)))))))))))))))
theorem cQdn (t_ : Int × ByteArray × Int × Sl × Int) (u_ : Int × ByteArray × Int × Sl × Int) {H : jaa} {k : Bool → jaa → Prop} (h : vQdn t_ u_ H k) : CallT Pg fQep [.agg #[.int .i64 t_.1, .string t_.2.1, .int .i64 t_.2.2.1, slV t_.2.2.2.1, .int .i64 t_.2.2.2.2], .agg #[.int .i64 u_.1, .string u_.2.1, .int .i64 u_.2.2.1, slV u_.2.2.2.1, .int .i64 u_.2.2.2.2]] (.one (.c .bool)) H k := cE jad jer Tryz.func4 h
end
end Go.Proofs.YtfpmgpblhhcpgaaGreatDoor
namespace Go.Proofs.YtfpmgpblhhcpgaaGreatDoor.Hc.Lex
inductive Skips : Bs → Bs → Prop where
 | nil (u : Bs) : Skips [] u
 | cons (g u : Bs) (n : Nat) (h : evL (g ++ u) = .skip n) (h1 : 1 ≤ n) (h2 : n ≤ g.length) (r : Skips (g.drop n) u) : Skips g u
theorem jkT {c : UInt8} {t : Bs} {k n : Nat} (h : evL (c :: t) = .tok k n) : jbE c = false ∧ jfa (c :: t) = .no ∧ jeg (c :: t) = .tok k n := by
 unfold evL at h
 dsimp only at h
 split at h
 ·cases h
 ·rename_i hb
  split at h
  ·cases h
  ·cases h
  ·rename_i hr
   exact ⟨by simpa using hb, hr, h⟩
theorem jlP {c : UInt8} {t : Bs} (h : c ≠ 47) : jfa (c :: t) = .no := by
 unfold jfa
 have : ∀ x : UInt8, Lib.hasPrefix (c :: t) [47, x] = false := fun x => by
  simp [Lib.hasPrefix, List.isPrefixOf]; exact fun e => absurd e.symm h
 rw [this, this]; rfl
def gapB (k : Nat) : Bs := match k with
 | 0 => [32]
 | 1 => [10]
 | 2 => [32, 47, 42, 32, 120, 32, 42, 47]
 | 3 => [9, 47, 47, 32, 121, 10]
 | _ => [13, 32]
def asm (γ : Nat → Nat) : Nat → List Tk → Bs
 | _, [] => []
 | i, t :: ts => gapB (γ i) ++ t.text ++ asm γ (i + 1) ts
inductive Chain : List Tk → Prop where
 | fin (p : Nat) : Chain [⟨0, [], p⟩]
 | tok (u : Bs) (k n p : Nat) (ts : List Tk) (h : evL u = .tok k n) (h1 : 1 ≤ n) (h2 : n ≤ u.length) (r : Chain ts) : Chain (⟨k, u.take n, p⟩ :: ts)
def sameT (a b : List Tk) : Prop := a.length = b.length ∧ ∀ i (h : i < a.length) (h' : i < b.length), a[i].kind = b[i].kind ∧ a[i].text = b[i].text
end Go.Proofs.YtfpmgpblhhcpgaaGreatDoor.Hc.Lex
namespace Go.Proofs.YtfpmgpblhhcpgaaGreatDoor.Hc.Lex
end Go.Proofs.YtfpmgpblhhcpgaaGreatDoor.Hc.Lex
namespace Go.Proofs.YtfpmgpblhhcpgaaGreatDoor.Hc.Syn
set_option maxRecDepth 100000
section
open Go Hc Hc.Lex
def SgOk (t : Tk) : Prop := t.kind = 3 → jdU t.text = false
abbrev DS := Except (Int × Int) PS
def th {α : Type} (σ : DS) (P : PS → R α) : R α := match σ with
 | .error e => some (.error e)
 | .ok s => P s
def Px {α : Type} (r : R α) (a : α) (τ : DS) : Prop := match r with
 | none => False
 | some (.error e) => τ = .error e
 | some (.ok (x, s)) => x = a ∧ τ = .ok s
theorem th_ok {α : Type} (s : PS) (A : PS → R α) : th (.ok s) A = A s := rfl
theorem Px.bind {α β : Type} {r : R α} {F : α → PS → R β} {a : α} {τ τ' : DS} {y : β} (h : Px r a τ) (h' : Px (th τ (F a)) y τ') : Px (r.bind F) y τ' := by
 cases r with
 | none => exact h.elim
 | some x =>
   cases x with
   | error e =>
     have h : τ = .error e := h
     subst h; exact h'
   | ok p =>
     obtain ⟨rfl, rfl⟩ : p.1 = a ∧ τ = .ok p.2 := h
     exact h'
structure To {α : Type} (G r : R α) : Prop where
 ne : r ≠ none
 px : ∀ y τ, Px r y τ → Px G y τ
theorem To.refl {α : Type} {G : R α} (h : G ≠ none) : To G G := ⟨h, fun _ _ h => h⟩
theorem To.err {α : Type} {G : R α} {e : Int × Int} (h : To G (some (.error e))) : ∀ y, Px G y (.error e) := fun y => h.px y _ rfl
theorem To.ret {α : Type} {G : R α} {y : α} {τ : DS} (h : To G (th τ (jbo y))) : Px G y τ := by
 refine h.px y τ ?_
 cases τ with
 | error e => exact rfl
 | ok s => exact ⟨rfl, rfl⟩
theorem To.step {α β : Type} {G : R β} {r : R α} {F : α → PS → R β} (h : To G (r.bind F)) {a : α} {τ : DS} (hp : Px r a τ) : To G (th τ (F a)) := by
 refine ⟨fun e => ?_, fun y τ' hy => h.px y τ' (hp.bind hy)⟩
 cases r with
 | none => exact hp
 | some x =>
   cases x with
   | error e' =>
     have hp : τ = .error e' := hp
     subst hp; cases e
   | ok p =>
     obtain ⟨rfl, rfl⟩ : p.1 = a ∧ τ = .ok p.2 := hp
     exact h.ne e
def dpD (τ : DS) (d : Int) : Prop := ∀ s, τ = .ok s → s.deep = d
theorem dpD.err {e : Int × Int} {d : Int} : dpD (.error e) d := fun s h => by cases h
theorem Px.dp {α : Type} {τ τ' : DS} {A : PS → R α} {a : α} (h : Px (th τ A) a τ') {d : Int} (hd : dpD τ d) (hA : ∀ s a s', A s = some (.ok (a, s')) → Dp s s') : dpD τ' d := by
 intro s' e
 subst e
 cases τ with
 | error e => exact absurd h (by intro g; cases g)
 | ok s =>
   rw [th_ok] at h
   cases hr : A s with
   | none => rw [hr] at h; exact h.elim
   | some x =>
     rw [hr] at h
     cases x with
     | error e => cases h
     | ok p =>
       obtain ⟨_, h2⟩ : p.1 = a ∧ (.ok s' : DS) = .ok p.2 := h
       cases h2
       exact (hA s p.1 p.2 hr).trans (hd s rfl)
def deeperP (s : PS) : R Unit := if s.deep = 20 then jeJ 101 s else jbo () { s with deep := s.deep + 1 }
def nextP (s : PS) : R Tk := jbo s.hd s.take
def lessP (s : PS) : R Unit := jbo () s.up
def okD : DS → Bool
 | .ok _ => true
 | .error _ => false
def isD (w : Txt) : DS → Bool
 | .ok s => jau w s
 | .error _ => false
def nmD : DS → Bool
 | .ok s => jbf s
 | .error _ => false
end
end Go.Proofs.YtfpmgpblhhcpgaaGreatDoor.Hc.Syn
namespace Go.Proofs.YtfpmgpblhhcpgaaGreatDoor
set_option maxRecDepth 100000
section
open Hc Hc.Lex Hc.Syn
variable {H : jaa}
abbrev TD := TQap
abbrev TQ := TQao
abbrev OwD := Own TD TQ
def DV (L : List Tk) (i : Nat) (pl bd ne st : Int) : DS → Prop
 | .ok s => bd = 0 ∧ s.toks = L.drop i ∧ ne = s.deep ∧ st = s.stmts ∧ (0 ≤ s.deep ∧ s.deep ≤ 20) ∧ (0 ≤ s.stmts ∧ s.stmts ≤ 200)
 | .error (p, e) => bd = e ∧ e ≠ 0 ∧ pl = p
structure DR (H : jaa) (b tb : Nat) (L : List Tk) (σ : DS) : Prop where
 ex : ∃ (sl : Sl) (i : Nat) (pl bd ne st : Int), Row H b TQaq [slV sl, .int .i64 (i : Nat), .int .i64 pl, .int .i64 bd, .int .i64 ne, .int .i64 st] ∧ VecN H jbP 3 sl (jcb L) ∧ sl.a = some (adr tb) ∧ i < L.length ∧ DV L i pl bd ne st σ
 tl : TsOk L
 sg : ∀ t ∈ L, SgOk t
 ne : b ≠ tb
variable {b tb : Nat} {L : List Tk} {σ τ : DS}
theorem DR.lt (h : DR H b tb L σ) : b < H.size := by obtain ⟨_, _, _, _, _, _, q, _⟩ := h.ex; exact q.lt
theorem DR.tlt (h : DR H b tb L σ) : tb < H.size := by
 obtain ⟨sl, i, pl, bd, ne, st, h1, h2, h3, h4, h5⟩ := h.ex
 rcases h2.own with ⟨y1, _⟩ | ⟨c, sp, y1, y2, _⟩
 ·rw [y1] at h3; cases h3
 ·rw [y1] at h3; cases h3; exact y2.lt
theorem DR.upd {H' : jaa} {M : Nat → Prop} (h : DR H b tb L σ) (hU : Upd M H H') (h1 : ¬ M b) (h2 : ¬ M tb) : DR H' b tb L σ := by
 obtain ⟨sl, i, pl, bd, ne, st, g1, g2, g3, g4, g5⟩ := h.ex
 exact ⟨⟨sl, i, pl, bd, ne, st, hU.row g1 h1, g2.upd hU fun c hc => by rw [g3] at hc; cases hc; exact h2, g3, g4, g5⟩, h.tl, h.sg, h.ne⟩
theorem DR.ext {H' : jaa} (h : DR H b tb L σ) (hE : Ext H H') : DR H' b tb L σ := h.upd hE (fun h => h) fun h => h
theorem DR.young {H' : jaa} {b1 : Nat} (h : DR H b tb L σ) (hU : Upd (· = b1) H H') (h1 : b < b1) (h2 : tb < b1) : DR H' b tb L σ := h.upd hU (by omega) (by omega)
theorem DR.rd (h : DR H b tb L σ) : ∃ (sl : Sl) (i : Nat) (t : Tk) (bd ne st : Int), jar H ⟨b, 0, none⟩ = some (slV sl) ∧ jar H ⟨b, 1, none⟩ = some (.int .i64 (i : Nat)) ∧ jar H ⟨b, 3, none⟩ = some (.int .i64 bd) ∧ jar H ⟨b, 4, none⟩ = some (.int .i64 ne) ∧ jar H ⟨b, 5, none⟩ = some (.int .i64 st) ∧
 (∀ {k : Addr → Prop}, (∀ a, jaR H a 0 (jgZ t) → k a) → IxA 3 sl (i : Nat) k) ∧ t ∈ L ∧ (∀ s, σ = .ok s → s.hd = t) ∧ (bd == 0) = okD σ ∧ (∀ s, σ = .ok s → ne = s.deep ∧ st = s.stmts) ∧ sl.len = L.length := by
 obtain ⟨sl, i, pl, bd, ne, st, g1, g2, g3, g4, g5⟩ := h.ex
 have hl := g2.len
 rw [jeo] at hl
 refine ⟨sl, i, L[i], bd, ne, st, (g1.cell 0).trans rfl, (g1.cell 1).trans rfl, (g1.cell 3).trans rfl, (g1.cell 4).trans rfl, (g1.cell 5).trans rfl, fun {k} hk => ?_, List.getElem_mem _, fun s e => ?_, ?_, fun s e => ?_, by omega⟩
 ·refine jjN g2 (by decide) rfl (by omega) fun c hc jar => hk _ (hcells_iff.2 fun j hj => ?_)
  have := jar j hj
  rw [mk_add, Nat.zero_add, this, jhk jfC g4 hj]
 ·subst e
  obtain ⟨_, e2, _⟩ := g5
  unfold PS.hd
  rw [e2, List.drop_eq_getElem_cons g4]; rfl
 ·cases σ with
  | error e => obtain ⟨e1, e2, _⟩ := g5; rw [e1]; exact beq_eq_false_iff_ne.2 e2
  | ok s => rw [g5.1]; rfl
 ·subst e
  exact ⟨g5.2.2.1, g5.2.2.2.1⟩
theorem jlD {w : Txt} {k : Bool → jaa → Prop} (hk : ∀ H', Ext H H' → k (wordsL.contains w) H') : CallT Pg fQdk [.string ⟨⟨w⟩⟩] (.one (.c .bool)) H k := by
 refine cQcv _ ?_
 unfold vQcv
 refine jmi fun r H1 hv hE _ _ => ?_
 have hl : r.len = 26 := by rw [hv.len]; rfl
 refine LoopT.ghost (fun m st H' => ∃ j : Nat, H1 = H' ∧ st = (j : Nat) ∧ m = 26 - j ∧ j ≤ 26 ∧ ∀ x, x < j → wordsL[x]? ≠ some w) 26 ⟨0, rfl, rfl, rfl, by decide, fun x hx => by omega⟩ ?_
 rintro next m _ _ ⟨j, rfl, rfl, rfl, hj, hno⟩ hnext
 refine jaj (fun hlt => ?_) fun hge => ?_
 ·have hj' : j < wordsL.length := by show j < 26; omega
  refine jcc hv (by omega) (by rw [List.length_map]; omega) fun ad hc _ => ?_
  have hc : jar H1 ad = some (.string ⟨⟨wordsL[j]⟩⟩) := hc.trans (by simp [List.getElem?_eq_getElem hj'])
  refine jap hc ?_
  rw [ja3]
  refine jaj (fun e => ?_) fun e => ?_
  ·have e : wordsL[j] = w := e
   have : wordsL.contains w = true := by rw [List.contains_iff_mem, ← e]; exact List.getElem_mem _
   exact this ▸ hk _ hE
  ·have e : ¬ wordsL[j] = w := e
   refine Lt.mk (u := ((j + 1 : Nat) : Int)) (by rw [jac] <;> omega) (hnext (26 - (j + 1)) _ _ (by omega) ⟨j + 1, rfl, rfl, rfl, by omega, fun x hx => ?_⟩)
   by_cases hxj : x = j
   ·subst hxj; rw [List.getElem?_eq_getElem hj']; intro g; exact e (Option.some.inj g)
   ·exact hno x (by omega)
 ·have : wordsL.contains w = false := by
   rw [← Bool.not_eq_true, List.contains_iff_mem]
   intro g
   obtain ⟨x, hx, e⟩ := List.mem_iff_getElem.1 g
   have hx26 : x < 26 := hx
   exact hno x (by omega) (by rw [List.getElem?_eq_getElem hx, e])
  exact this ▸ hk _ hE
def Wd {α : Type} (f : FuncId) (args : List Value) (r : RTy) (b tb : Nat) (L : List Tk) (H : jaa) (res : R α) (Rel : α → r.den → jaa → Prop) : Prop :=
 ∀ k : r.den → jaa → Prop, (∀ d H' a τ, Px res a τ → Upd (· = b) H H' → DR H' b tb L τ → Rel a d H' → k d H') → CallT Pg f args r H k
theorem DR.poke (h : DR H b tb L σ) {τ : DS} {j : Nat} {v : Value} (hj : j < 6)
 (hv : ∀ (sl : Sl) (i : Nat) (pl bd ne st : Int), i < L.length → DV L i pl bd ne st σ → ∃ (i' : Nat) (pl' bd' ne' st' : Int), i' < L.length ∧ [slV sl, .int .i64 (i : Nat), .int .i64 pl, .int .i64 bd, .int .i64 ne, .int .i64 st].set j v = [slV sl, .int .i64 (i' : Nat), .int .i64 pl', .int .i64 bd', .int .i64 ne', .int .i64 st'] ∧ DV L i' pl' bd' ne' st' τ)
 {k : jaa → Prop} (hk : ∀ H', Upd (· = b) H H' → DR H' b tb L τ → k H') : St ⟨b, j, none⟩ v H k := by
 obtain ⟨sl, i, pl, bd, ne, st, g1, g2, g3, g4, g5⟩ := h.ex
 have hne := h.ne
 refine jay g1 (by simpa using hj) fun H1 hU _ hr => hk H1 hU ?_
 obtain ⟨i', pl', bd', ne', st', q0, q1, q2⟩ := hv sl i pl bd ne st g4 g5
 rw [q1] at hr
 exact ⟨⟨sl, i', pl', bd', ne', st', hr, g2.upd hU fun c hc e => by rw [g3] at hc; cases hc; exact hne e.symm, g3, q0, q2⟩, h.tl, h.sg, h.ne⟩
def failD (e : Int) : DS → DS
 | .ok s => .error ((s.hd.at' : Nat), e)
 | .error x => .error x
def nextD : DS → DS
 | .ok s => .ok s.take
 | .error x => .error x
def deepD : DS → DS
 | .ok s => .ok { s with deep := s.deep + 1 }
 | .error x => .error x
def upD : DS → DS
 | .ok s => .ok s.up
 | .error x => .error x
end
section
open Hc Hc.Lex Hc.Syn
variable {H : jaa} {b tb : Nat} {L : List Tk} {σ τ : DS}
abbrev NdD (H : jaa) : Nd → Option Addr → jaa → Prop := fun n d H' => ∃ q, d = some (adr q) ∧ H.size ≤ q ∧ OwD H.size H' n (some q)
theorem jdn {b1 : Nat} {l : List Txt} (hr : Row H b1 jcC (l.map fun t => (Value.string ⟨⟨t⟩⟩))) : Vec H jcC ⟨some (adr b1), l.length, l.length⟩ (l.map fun t => (Value.string ⟨⟨t⟩⟩)) :=
 ⟨by rw [List.length_map], .inr ⟨b1, [], rfl, by simpa using hr, by simp⟩, Nat.le_refl _⟩
variable {e : Int × Int}
structure WkD (f : Nat) : Prop where
 ex : ∀ {H : jaa} {b tb : Nat} {L : List Tk} {σ : DS}, DR H b tb L σ → th σ (exP f 0) ≠ none → Wd fQdo [pA b] (.one (.c .ptr)) b tb L H (th σ (exP f 0)) (NdD H)
 bi : ∀ {H : jaa} {b tb : Nat} {L : List Tk} {σ : DS} (l : Nat), l ≤ 6 → DR H b tb L σ → th σ (exP f (l + 1)) ≠ none → Wd fQdr [pA b, .int .i64 (l : Nat)] (.one (.c .ptr)) b tb L H (th σ (exP f (l + 1))) (NdD H)
 un : ∀ {H : jaa} {b tb : Nat} {L : List Tk} {σ : DS}, DR H b tb L σ → th σ (exP f 7) ≠ none → Wd fQds [pA b] (.one (.c .ptr)) b tb L H (th σ (exP f 7)) (NdD H)
 pr : ∀ {H : jaa} {b tb : Nat} {L : List Tk} {σ : DS}, DR H b tb L σ → th σ (jey f) ≠ none → Wd fQdu [pA b] (.one (.c .ptr)) b tb L H (th σ (jey f)) (NdD H)
def OwP (A : Nat → Prop) (H : jaa) (ns : List Nd) (qs : List (Option Nat)) : Prop := ∃ fp, TrL TD TQ H ns qs fp ∧ fp.Nodup ∧ ∀ x ∈ fp, A x
theorem OwP.one {lo : Nat} {n : Nd} {q : Option Nat} (h : OwD lo H n q) {A : Nat → Prop} (hA : ∀ x, lo ≤ x → x < H.size → A x) : OwP A H [n] [q] := by
 obtain ⟨fp, h1, h2, h3⟩ := (OwnT.one h).ex
 exact ⟨fp, h1, h2, fun x hx => hA x (h3 x hx) (h1.lt x hx)⟩
theorem OwP.upd {A M : Nat → Prop} {H' : jaa} {ns : List Nd} {qs : List (Option Nat)} (h : OwP A H ns qs) (hU : Upd M H H') (hM : ∀ x, A x → x < H.size → ¬ M x) : OwP A H' ns qs := by
 obtain ⟨fp, h1, h2, h3⟩ := h
 exact ⟨fp, h1.upd hU fun x hx => hM x (h3 x hx) (h1.lt x hx), h2, h3⟩
theorem OwP.more {A M : Nat → Prop} {H' : jaa} {ns : List Nd} {qs : List (Option Nat)} (h : OwP A H ns qs) (hU : Upd M H H') (hM : ∀ x, A x → x < H.size → ¬ M x) {n : Nd} {q : Option Nat} (hn : OwD H.size H' n q) (hA : ∀ x, H.size ≤ x → A x) : OwP A H' (ns ++ [n]) (qs ++ [q]) := by
 obtain ⟨fp, h1, h2, h3⟩ := h
 obtain ⟨f, k1, k2, k3⟩ := hn.ex
 refine ⟨fp ++ f, TrL.snoc k1 (h1.upd hU fun x hx => hM x (h3 x hx) (h1.lt x hx)), List.nodup_append.2 ⟨h2, k2, fun x hx y hy e => ?_⟩, fun x hx => ?_⟩
 ·have := h1.lt x hx; have := k3 y hy; omega
 ·rcases List.mem_append.1 hx with g | g
  ·exact h3 x g
  ·exact hA x (k3 x g)
theorem OwP.give {A : Nat → Prop} {ns : List Nd} {qs : List (Option Nat)} (t : OwP A H ns qs) {b1 lo : Nat} {op num at' : Int} {tx : Txt} (hr : Row H b1 TD (ndV op tx num ⟨none, 0, 0⟩ at')) (hA : ∀ x, A x → lo ≤ x ∧ x ≠ b1) (hlb : lo ≤ b1) {m : Nat} (hm : qs.length = m) {K : jaa → Prop}
 (hK : ∀ H', Upd (· = b1) H H' → OwD lo H' (.mk op tx num ns at') (some b1) → K H') : Nw (qs.map jcy).toArray TQ H fun b2 H1 => St ⟨b1, 3, none⟩ (.slice (some (adr b2)) m m) H1 fun H2 => K H2 := by
 obtain ⟨fp, h1, h2, h3⟩ := t
 have hlt := hr.lt
 refine jaq (vs := qs.map jcy) fun b2 H1 hb2 hE1 _ hr2 => jay (hE1.row hr fun h => h) (by simp) fun H2 hU2 _ hr3 => hK H2 ((ExU hE1).trans hU2 fun _ _ e => e) ?_
 have hne : b2 ≠ b1 := by omega
 refine ⟨b1 :: (b2 :: fp), ⟨b1, ⟨some (adr b2), m, m⟩, qs, fp, rfl, hr3, ⟨by simp [hm], .inr ⟨b2, [], rfl, by simpa using hU2.row hr2 hne, by simp [hm]⟩, Nat.le_refl _⟩, (h1.upd hE1 fun _ _ h => h).upd hU2 fun x hx e => (hA x (h3 x hx)).2 e, rfl⟩, List.nodup_cons.2 ⟨fun hx => ?_, List.nodup_cons.2 ⟨fun hx => ?_, h2⟩⟩, fun x hx => ?_⟩
 ·rcases List.mem_cons.1 hx with g | g
  ·exact hne g.symm
  ·exact (hA b1 (h3 b1 g)).2 rfl
 ·have := h1.lt b2 hx; omega
 ·rcases List.mem_cons.1 hx with rfl | hx
  ·exact hlb
  ·rcases List.mem_cons.1 hx with rfl | hx
   ·omega
   ·exact (hA x (h3 x hx)).1
end
end Go.Proofs.YtfpmgpblhhcpgaaGreatDoor
namespace Go.Proofs.YtfpmgpblhhcpgaaGreatDoor.Hc.Syn
set_option maxRecDepth 100000
section
open Go Hc Hc.Lex
end
end Go.Proofs.YtfpmgpblhhcpgaaGreatDoor.Hc.Syn
namespace Go.Proofs.YtfpmgpblhhcpgaaGreatDoor
set_option maxRecDepth 100000
section
open Hc Hc.Lex Hc.Syn
variable {H : jaa} {b tb : Nat} {L : List Tk} {σ τ : DS}
theorem DR.tok {s : PS} (h : DR H b tb L (.ok s)) : s.hd ∈ L := by
 obtain ⟨_, _, t, _, _, _, _, _, _, _, _, _, ht, hs, _⟩ := h.rd
 rw [hs s rfl]; exact ht
def lvT : Nat → List Txt
 | 0 => [[124, 124]]
 | 1 => [[38, 38]]
 | 2 => [[61, 61], [33, 61]]
 | 3 => [[60], [60, 61], [62], [62, 61]]
 | 4 => [[43], [45]]
 | 5 => [[42], [47], [37]]
 | _ => []
theorem lvT_in {l : Nat} {t : Txt} (h : t ∈ lvT l) : jat t = l + 1 ∧ jdU t = false := by
 match l, h with
 | 0, h => simp only [lvT, List.mem_cons, List.not_mem_nil, or_false] at h; subst h; decide
 | 1, h => simp only [lvT, List.mem_cons, List.not_mem_nil, or_false] at h; subst h; decide
 | 2, h => simp only [lvT, List.mem_cons, List.not_mem_nil, or_false] at h; rcases h with rfl | rfl <;> decide
 | 3, h => simp only [lvT, List.mem_cons, List.not_mem_nil, or_false] at h; rcases h with rfl | rfl | rfl | rfl <;> decide
 | 4, h => simp only [lvT, List.mem_cons, List.not_mem_nil, or_false] at h; rcases h with rfl | rfl <;> decide
 | 5, h => simp only [lvT, List.mem_cons, List.not_mem_nil, or_false] at h; rcases h with rfl | rfl | rfl <;> decide
 | n + 6, h => simp [lvT] at h
theorem lvT_of {l : Nat} {t : Txt} (h : jat t = (l : Int) + 1) : t ∈ lvT l := by
 unfold jat at h
 split at h
 ·rename_i e; have : l = 0 := by omega
  subst this; subst e; decide
 split at h
 ·rename_i e; have : l = 1 := by omega
  subst this; subst e; decide
 split at h
 ·rename_i e; have : l = 2 := by omega
  subst this; rcases e with rfl | rfl <;> decide
 split at h
 ·rename_i e; have : l = 3 := by omega
  subst this; rcases e with rfl | rfl | rfl | rfl <;> decide
 split at h
 ·rename_i e; have : l = 4 := by omega
  subst this; rcases e with rfl | rfl <;> decide
 split at h
 ·rename_i e; have : l = 5 := by omega
  subst this; rcases e with rfl | rfl | rfl <;> decide
 ·omega
end
end Go.Proofs.YtfpmgpblhhcpgaaGreatDoor
