import Derived.Test.YtfpmgpblhhcpgaaGreatDoorVPar
import Derived.Test.YtfpmgpblhhcpgaaGreatDoorHcLists
import Derived.Test.YtfpmgpblhhcpgaaGreatDoorProg
set_option linter.unusedVariables false
set_option linter.unusedSimpArgs false
namespace Go.Proofs.YtfpmgpblhhcpgaaGreatDoor
set_option maxRecDepth 100000
section
open Hc
abbrev TQah : TypeId := 99
abbrev fQbg : FuncId := 22
abbrev fQbh : FuncId := 25
abbrev jmO : FuncId := 40
abbrev fQbj : FuncId := 41
abbrev fQbk : FuncId := 47
abbrev fQbl : FuncId := 48
abbrev fQbm : FuncId := 49
abbrev fQbn : FuncId := 50
abbrev fQbo : FuncId := 51
abbrev fQbp : FuncId := 52
abbrev fQbq : FuncId := 71
abbrev jnx : FuncId := 72
abbrev fQbs : FuncId := 73
abbrev fQbt : FuncId := 74
abbrev fQbu : FuncId := 75
abbrev fQbv : FuncId := 76
abbrev fQbw : FuncId := 77
abbrev fQbx : FuncId := 85
abbrev fQby : FuncId := 106
abbrev fQbz : FuncId := 107
abbrev fQb0 : FuncId := 108
abbrev fQb1 : FuncId := 109
abbrev fQb2 : FuncId := 110
abbrev fQb3 : FuncId := 111
abbrev fQb4 : FuncId := 112
abbrev fQb5 : FuncId := 145
abbrev fQb6 : FuncId := 149
def vQbd (src_ : ByteArray) (H : jaa) (k : Sl × Value → jaa → Prop) : Prop :=
 Br (decide ((src_.size : Int) > 8000)) (
 CallT Pg jmO [.int .i64 8000, .int .i64 102] (.one (.c .ptr)) H fun (r1 : Option Addr) H1 =>
 k ((⟨none, 0, 0⟩, (.iface jkO (.pointer r1)))) H1) (
 Nw #[.string src_, .int .i64 0, .slice none 0 0] TQah H fun b1 H2 =>
 CallT Pg fQbj [.pointer (some (adr b1))] (.one (.c .ptr)) H2 fun (r2 : Option Addr) H3 =>
 Br (!r2.isNone) (
 k ((⟨none, 0, 0⟩, (.iface jkO (.pointer r2)))) H3) (
 jab (some (adr b1)) fun a1 =>
 Ld .sl (a1.add 2) H3 fun (x1 : Sl) =>
 k ((x1, (.nilIface))) H3))
def jlS : Hint := .no
theorem cQbd (src_ : ByteArray) {H : jaa} {k : Sl × Value → jaa → Prop} (h : vQbd src_ H k) : CallT Pg fQbg [.string src_] (.tup [(.c .sl), (.c .raw)]) H k := cE jad jlS Tryz.func22 h
def vQbe (at_ : Int) (e_ : Int) (H : jaa) (k : Option Addr → jaa → Prop) : Prop :=
 Nw #[.int .i64 at_, .int .i64 e_] jkH H fun b1 H1 =>
 k (some (adr b1)) H1
def ji6 : Hint := .no
theorem cQbe (at_ : Int) (e_ : Int) {H : jaa} {k : Option Addr → jaa → Prop} (h : vQbe at_ e_ H k) : CallT Pg jmO [.int .i64 at_, .int .i64 e_] (.one (.c .ptr)) H k := cE jad ji6 Tryz.func40 h
def vQbf (r_ : Option Addr) (H : jaa) (k : Option Addr → jaa → Prop) : Prop :=
 JumpT (σ := Option Addr) (fun jump1 =>
 CallT Pg fQbq [.pointer r_] (.one (.c .ptr)) H fun (r1 : Option Addr) H1 =>
 Br (!r1.isNone) (
 k r1 H1) (
 jab r_ fun a1 =>
 Ld (.int .i64) (a1.add 1) H1 fun (x1 : Int) =>
 jab r_ fun a2 =>
 Ld .str a2 H1 fun (x2 : ByteArray) =>
 Br (x1 == (x2.size : Int)) (
 jump1 1 r1 H1) (
 jab r_ fun a3 =>
 Ld .str a3 H1 fun (x3 : ByteArray) =>
 jab r_ fun a4 =>
 Ld (.int .i64) (a4.add 1) H1 fun (x4 : Int) =>
 jdP x3 x4 fun b1 =>
 CallT Pg jnx [.int .u8 b1] (.one (.c .bool)) H1 fun (r2 : Bool) H2 =>
 Br r2 (
 jump1 2 r1 H2) (
 CallT Pg fQbs [.int .u8 b1] (.one (.c .bool)) H2 fun (r3 : Bool) H3 =>
 Br r3 (
 jump1 3 r1 H3) (
 CallT Pg fQbt [.pointer r_] (.one (.c .ptr)) H3 fun (r4 : Option Addr) H4 =>
 jump1 4 r4 H4))))) [(0, fun jump2 s1 H5 =>
 CallT Pg fQbq [.pointer r_] (.one (.c .ptr)) H5 fun (r5 : Option Addr) H6 =>
 Br (!r5.isNone) (
 k r5 H6) (
 jab r_ fun a5 =>
 Ld (.int .i64) (a5.add 1) H6 fun (x5 : Int) =>
 jab r_ fun a6 =>
 Ld .str a6 H6 fun (x6 : ByteArray) =>
 Br (x5 == (x6.size : Int)) (
 jump2 1 r5 H6) (
 jab r_ fun a7 =>
 Ld .str a7 H6 fun (x7 : ByteArray) =>
 jab r_ fun a8 =>
 Ld (.int .i64) (a8.add 1) H6 fun (x8 : Int) =>
 jdP x7 x8 fun b2 =>
 CallT Pg jnx [.int .u8 b2] (.one (.c .bool)) H6 fun (r6 : Bool) H7 =>
 Br r6 (
 jump2 2 r5 H7) (
 CallT Pg fQbs [.int .u8 b2] (.one (.c .bool)) H7 fun (r7 : Bool) H8 =>
 Br r7 (
 jump2 3 r5 H8) (
 CallT Pg fQbt [.pointer r_] (.one (.c .ptr)) H8 fun (r8 : Option Addr) H9 =>
 jump2 4 r8 H9))))),
 (1, fun jump3 s2 H10 =>
 CallT Pg fQbw [.pointer r_, .int .i64 0, .int .i64 0] (.tup []) H10 fun (r9 : Unit) H11 =>
 k none H11),
 (2, fun jump4 s3 H12 =>
 CallT Pg fQbu [.pointer r_] (.one (.c .ptr)) H12 fun (r10 : Option Addr) H13 =>
 jump4 4 r10 H13),
 (3, fun jump5 s4 H14 =>
 CallT Pg fQbv [.pointer r_] (.one (.c .ptr)) H14 fun (r11 : Option Addr) H15 =>
 Br (!r11.isNone) (
 k r11 H15) (
 jump5 0 r11 H15)),
 (4, fun jump6 s5 H16 =>
 Br (!s5.isNone) (
 k s5 H16) (
 jump6 0 s5 H16))]
def jfn : Hint := (hq (.jump [(3, (.c .ptr))] [0, 1, 2, 3, 4] .no (hq (hq (hq (hq (.two .no .no)))))))
theorem cQbf (r_ : Option Addr) {H : jaa} {k : Option Addr → jaa → Prop} (h : vQbf r_ H k) : CallT Pg fQbj [.pointer r_] (.one (.c .ptr)) H k := cE jad jfn Tryz.func41 h
def vQbg (r_ : Option Addr) (H : jaa) (k : Option Addr → jaa → Prop) : Prop :=
 LoopT (σ := Unit) (fun next1 s1 H1 =>
 jab r_ fun a1 =>
 Ld (.int .i64) (a1.add 1) H1 fun (x1 : Int) =>
 jab r_ fun a2 =>
 Ld .str a2 H1 fun (x2 : ByteArray) =>
 Br (decide (x1 < (x2.size : Int))) (
 Jn (σ := Unit) (fun kk1 =>
 CallT Pg fQby [.pointer r_] (.one (.c .str)) H1 fun (r1 : ByteArray) H3 =>
 Jn (σ := Unit) (fun kk2 =>
 jdP r1 0 fun b1 =>
 CallT Pg fQbz [.string (⟨#[32, 9, 10, 13]⟩ : ByteArray), .int .u8 b1] (.one (.c (.int .i64))) H3 fun (r2 : Int) H5 =>
 Jn (σ := Unit) (fun kk3 =>
 Br (decide (r2 ≥ 0)) (
 jab r_ fun a3 =>
 Ld (.int .i64) (a3.add 1) H5 fun (x3 : Int) =>
 Lt (IntKind.wrap .i64 (x3 + 1)) fun t1 =>
 jab r_ fun a4 =>
 St (a4.add 1) (.int .i64 t1) H5 fun H7 =>
 kk3 () H7) (
 CallT Pg fQb0 [.string r1, .string (⟨#[47, 47]⟩ : ByteArray)] (.one (.c .bool)) H5 fun (r3 : Bool) H8 =>
 Jn (σ := Unit) (fun kk4 =>
 Br r3 (
 CallT Pg fQb1 [.string r1, .string (⟨#[10]⟩ : ByteArray)] (.tup [(.c .str), (.c .str), (.c .bool)]) H8 fun (r4 : ByteArray × ByteArray × Bool) H10 =>
 jab r_ fun a5 =>
 Ld (.int .i64) (a5.add 1) H10 fun (x4 : Int) =>
 Lt (IntKind.wrap .i64 (x4 + (r4.1.size : Int))) fun t2 =>
 jab r_ fun a6 =>
 St (a6.add 1) (.int .i64 t2) H10 fun H11 =>
 kk4 () H11) (
 CallT Pg fQb0 [.string r1, .string (⟨#[47, 42]⟩ : ByteArray)] (.one (.c .bool)) H8 fun (r5 : Bool) H12 =>
 Br r5 (
 jl7 r1 2 (r1.size : Nat) fun y1 =>
 CallT Pg fQb1 [.string y1, .string (⟨#[42, 47]⟩ : ByteArray)] (.tup [(.c .str), (.c .str), (.c .bool)]) H12 fun (r6 : ByteArray × ByteArray × Bool) H13 =>
 Br (!r6.2.2) (
 jab r_ fun a7 =>
 Ld (.int .i64) (a7.add 1) H13 fun (x5 : Int) =>
 CallT Pg jmO [.int .i64 x5, .int .i64 90] (.one (.c .ptr)) H13 fun (r7 : Option Addr) H14 =>
 k r7 H14) (
 jab r_ fun a8 =>
 Ld (.int .i64) (a8.add 1) H13 fun (x6 : Int) =>
 Lt (IntKind.wrap .i64 (4 + (r6.1.size : Int))) fun t3 =>
 Lt (IntKind.wrap .i64 (x6 + t3)) fun t4 =>
 jab r_ fun a9 =>
 St (a9.add 1) (.int .i64 t4) H13 fun H15 =>
 kk4 () H15)) (
 k none H12))) fun j4 H9 =>
 kk3 () H9)) fun j3 H6 =>
 kk2 () H6) fun j2 H4 =>
 kk1 () H4) fun j1 H2 =>
 next1 () H2) (
 k none H1)) () H
def jeM : Hint := (hq (.two (.one (.loop [] (hq (.join [] (.one (hq (.join [] (.one (hq (.join [] (hq (hq (.join [] .no))))))))))))) .no))
theorem cQbg (r_ : Option Addr) {H : jaa} {k : Option Addr → jaa → Prop} (h : vQbg r_ H k) : CallT Pg fQbq [.pointer r_] (.one (.c .ptr)) H k := cE jad jeM Tryz.func71 h
def vQbh (c_ : Int) (H : jaa) (k : Bool → jaa → Prop) : Prop :=
 Jn (σ := Bool) (fun kk1 =>
 Br (decide (c_ ≥ 97)) (
 Br (decide (c_ ≤ 122)) (
 kk1 true H) (
 Br (decide (c_ ≥ 65)) (
 kk1 (decide (c_ ≤ 90)) H) (
 kk1 false H))) (
 Br (decide (c_ ≥ 65)) (
 kk1 (decide (c_ ≤ 90)) H) (
 kk1 false H))) fun j1 H1 =>
 k j1 H1
def jie : Hint := (hq (.two (.join [(2, (.c .bool))] .no) .no))
theorem cQbh (c_ : Int) {H : jaa} {k : Bool → jaa → Prop} (h : vQbh c_ H k) : CallT Pg jnx [.int .u8 c_] (.one (.c .bool)) H k := cE jad jie Tryz.func72 h
def vQbi (c_ : Int) (H : jaa) (k : Bool → jaa → Prop) : Prop :=
 Jn (σ := Bool) (fun kk1 =>
 Br (decide (c_ ≥ 48)) (
 kk1 (decide (c_ ≤ 57)) H) (
 kk1 false H)) fun j1 H1 =>
 k j1 H1
def ji2 : Hint := (hq (.two (.join [(2, (.c .bool))] .no) .no))
theorem cQbi (c_ : Int) {H : jaa} {k : Bool → jaa → Prop} (h : vQbi c_ H k) : CallT Pg fQbs [.int .u8 c_] (.one (.c .bool)) H k := cE jad ji2 Tryz.func73 h
def vQbj (r_ : Option Addr) (H : jaa) (k : Option Addr → jaa → Prop) : Prop :=
 CallT Pg fQb2 [.pointer r_] (.one (.c (.int .i64))) H fun (r1 : Int) H1 =>
 Br (r1 == 0) (
 jab r_ fun a1 =>
 Ld (.int .i64) (a1.add 1) H1 fun (x1 : Int) =>
 CallT Pg jmO [.int .i64 x1, .int .i64 90] (.one (.c .ptr)) H1 fun (r2 : Option Addr) H2 =>
 k r2 H2) (
 CallT Pg fQbw [.pointer r_, .int .i64 3, .int .i64 r1] (.tup []) H1 fun (r3 : Unit) H3 =>
 k none H3)
def jee : Hint := .no
theorem cQbj (r_ : Option Addr) {H : jaa} {k : Option Addr → jaa → Prop} (h : vQbj r_ H k) : CallT Pg fQbt [.pointer r_] (.one (.c .ptr)) H k := cE jad jee Tryz.func74 h
def vQbk (r_ : Option Addr) (H : jaa) (k : Option Addr → jaa → Prop) : Prop :=
 CallT Pg fQb3 [.pointer r_, .func (.func 112) #[] #[]] (.one (.c (.int .i64))) H fun (r1 : Int) H1 =>
 Br (decide (r1 > 16)) (
 jab r_ fun a1 =>
 Ld (.int .i64) (a1.add 1) H1 fun (x1 : Int) =>
 CallT Pg jmO [.int .i64 x1, .int .i64 90] (.one (.c .ptr)) H1 fun (r2 : Option Addr) H2 =>
 k r2 H2) (
 CallT Pg fQbw [.pointer r_, .int .i64 1, .int .i64 r1] (.tup []) H1 fun (r3 : Unit) H3 =>
 k none H3)
def jeO : Hint := .no
theorem cQbk (r_ : Option Addr) {H : jaa} {k : Option Addr → jaa → Prop} (h : vQbk r_ H k) : CallT Pg fQbu [.pointer r_] (.one (.c .ptr)) H k := cE jad jeO Tryz.func75 h
def vQbl (r_ : Option Addr) (H : jaa) (k : Option Addr → jaa → Prop) : Prop :=
 CallT Pg fQb3 [.pointer r_, .func (.func 73) #[] #[]] (.one (.c (.int .i64))) H fun (r1 : Int) H1 =>
 jab r_ fun a1 =>
 Ld .str a1 H1 fun (x1 : ByteArray) =>
 jab r_ fun a2 =>
 Ld (.int .i64) (a2.add 1) H1 fun (x2 : Int) =>
 jab r_ fun a3 =>
 Ld (.int .i64) (a3.add 1) H1 fun (x3 : Int) =>
 Lt (IntKind.wrap .i64 (x3 + r1)) fun t1 =>
 jl7 x1 x2 t1 fun y1 =>
 CallT Pg fQao [.string y1, .int .i64 10, .int .i64 64] (.tup [(.c (.int .i64)), (.c .raw)]) H1 fun (r2 : Int × Value) H2 =>
 Jn (σ := Bool) (fun kk1 =>
 IfNil r2.2 fun e1 =>
 Br (!e1) (
 kk1 true H2) (
 Br (decide (r1 > 1)) (
 jdP y1 0 fun b1 =>
 kk1 (b1 == 48) H2) (
 kk1 false H2))) fun j1 H3 =>
 Br j1 (
 jab r_ fun a4 =>
 Ld (.int .i64) (a4.add 1) H3 fun (x4 : Int) =>
 CallT Pg jmO [.int .i64 x4, .int .i64 90] (.one (.c .ptr)) H3 fun (r3 : Option Addr) H4 =>
 k r3 H4) (
 jab r_ fun a5 =>
 Ld (.int .i64) (a5.add 1) H3 fun (x5 : Int) =>
 Lt (IntKind.wrap .i64 (x5 + r1)) fun t2 =>
 Jn (σ := Bool) (fun kk2 =>
 jab r_ fun a6 =>
 Ld .str a6 H3 fun (x6 : ByteArray) =>
 Br (decide (t2 < (x6.size : Int))) (
 jab r_ fun a7 =>
 Ld .str a7 H3 fun (x7 : ByteArray) =>
 jdP x7 t2 fun b2 =>
 CallT Pg jnx [.int .u8 b2] (.one (.c .bool)) H3 fun (r4 : Bool) H6 =>
 Br r4 (
 kk2 true H6) (
 jab r_ fun a8 =>
 Ld .str a8 H6 fun (x8 : ByteArray) =>
 jdP x8 t2 fun b3 =>
 kk2 (b3 == 95) H6)) (
 kk2 false H3)) fun j2 H5 =>
 Br j2 (
 CallT Pg jmO [.int .i64 t2, .int .i64 90] (.one (.c .ptr)) H5 fun (r5 : Option Addr) H7 =>
 k r5 H7) (
 CallT Pg fQbw [.pointer r_, .int .i64 2, .int .i64 r1] (.tup []) H5 fun (r6 : Unit) H8 =>
 k none H8))
def jd9 : Hint := (hq (hq (hq (.two (hq (.two (.join [(40, (.c .bool))] .no) .no)) (.two (hq (.two (.join [(76, (.c .bool))] .no) .no)) .no)))))
theorem cQbl (r_ : Option Addr) {H : jaa} {k : Option Addr → jaa → Prop} (h : vQbl r_ H k) : CallT Pg fQbv [.pointer r_] (.one (.c .ptr)) H k := cE jad jd9 Tryz.func76 h
def vQbm (r_ : Option Addr) (kind_ : Int) (n_ : Int) (H : jaa) (k : Unit → jaa → Prop) : Prop :=
 jab r_ fun a1 =>
 Ld .sl (a1.add 2) H fun (x1 : Sl) =>
 jab r_ fun a2 =>
 Ld .str a2 H fun (x2 : ByteArray) =>
 jab r_ fun a3 =>
 Ld (.int .i64) (a3.add 1) H fun (x3 : Int) =>
 jab r_ fun a4 =>
 Ld (.int .i64) (a4.add 1) H fun (x4 : Int) =>
 Lt (IntKind.wrap .i64 (x4 + n_)) fun t1 =>
 jl7 x2 x3 t1 fun y1 =>
 jab r_ fun a5 =>
 Ld (.int .i64) (a5.add 1) H fun (x5 : Int) =>
 Nw #[.int .i64 kind_, .string y1, .int .i64 x5] jbP H fun b1 H1 =>
 Stab [(a5.add 1, .int .i64 x5), (a4.add 1, .int .i64 x4), (a3.add 1, .int .i64 x3), (a2, .string x2), (a1.add 2, slV x1)] H1 <|
 App jbP 3 32 #[.int .i64 0, .string ByteArray.empty, .int .i64 0] x1 ⟨some (adr b1), 1, 1⟩ H1 fun l1 H2 =>
 Stab [(a5.add 1, .int .i64 x5), (a4.add 1, .int .i64 x4), (a3.add 1, .int .i64 x3), (a2, .string x2)] H2 <|
 jab r_ fun a6 =>
 St (a6.add 2) (slV l1) H2 fun H3 =>
 jab r_ fun a7 =>
 Ld (.int .i64) (a7.add 1) H3 fun (x6 : Int) =>
 Lt (IntKind.wrap .i64 (x6 + n_)) fun t2 =>
 jab r_ fun a8 =>
 St (a8.add 1) (.int .i64 t2) H3 fun H4 =>
 k () H4
def jfh : Hint := .no
theorem cQbm (r_ : Option Addr) (kind_ : Int) (n_ : Int) {H : jaa} {k : Unit → jaa → Prop} (h : vQbm r_ kind_ n_ H k) : CallT Pg fQbw [.pointer r_, .int .i64 kind_, .int .i64 n_] (.tup []) H k := cE jad jfh Tryz.func77 h
def vQbn (r_ : Option Addr) (H : jaa) (k : ByteArray → jaa → Prop) : Prop :=
 jab r_ fun a1 =>
 Ld .str a1 H fun (x1 : ByteArray) =>
 jab r_ fun a2 =>
 Ld (.int .i64) (a2.add 1) H fun (x2 : Int) =>
 jl7 x1 x2 (x1.size : Nat) fun y1 =>
 k y1 H
def jeW : Hint := .no
theorem cQbn (r_ : Option Addr) {H : jaa} {k : ByteArray → jaa → Prop} (h : vQbn r_ H k) : CallT Pg fQby [.pointer r_] (.one (.c .str)) H k := cE jad jeW Tryz.func106 h
def vQbo (r_ : Option Addr) (H : jaa) (k : Int → jaa → Prop) : Prop :=
 Nw #[.string (⟨#[61, 61]⟩ : ByteArray), .string (⟨#[33, 61]⟩ : ByteArray), .string (⟨#[60, 61]⟩ : ByteArray), .string (⟨#[62, 61]⟩ : ByteArray), .string (⟨#[38, 38]⟩ : ByteArray), .string (⟨#[124, 124]⟩ : ByteArray)] jcC H fun b1 H1 =>
 LoopT (σ := Int) (fun next1 s1 H2 =>
 Br (decide (s1 < 6)) (
 IxA 1 ⟨some (adr b1), 6, 6⟩ s1 fun a1 =>
 Ld .str a1 H2 fun (x1 : ByteArray) =>
 CallT Pg fQby [.pointer r_] (.one (.c .str)) H2 fun (r1 : ByteArray) H3 =>
 CallT Pg fQb0 [.string r1, .string x1] (.one (.c .bool)) H3 fun (r2 : Bool) H4 =>
 Br r2 (
 k (x1.size : Int) H4) (
 Lt (IntKind.wrap .i64 (s1 + 1)) fun t1 =>
 next1 t1 H4)) (
 jab r_ fun a2 =>
 Ld .str a2 H2 fun (x2 : ByteArray) =>
 jab r_ fun a3 =>
 Ld (.int .i64) (a3.add 1) H2 fun (x3 : Int) =>
 jdP x2 x3 fun b2 =>
 CallT Pg fQbz [.string (⟨#[43, 45, 42, 47, 37, 60, 62, 33, 61, 40, 41, 123, 125, 44, 59, 58, 63, 46]⟩ : ByteArray), .int .u8 b2] (.one (.c (.int .i64))) H2 fun (r3 : Int) H5 =>
 Stab [(a3.add 1, .int .i64 x3), (a2, .string x2)] H5 <|
 Br (decide (r3 ≥ 0)) (
 k 1 H5) (
 k 0 H5))) 0 H1
def je4 : Hint := (hq (.two (hq (.one (.loop [(7, (.c (.int .i64)))] .no))) .no))
theorem cQbo (r_ : Option Addr) {H : jaa} {k : Int → jaa → Prop} (h : vQbo r_ H k) : CallT Pg fQb2 [.pointer r_] (.one (.c (.int .i64))) H k := cE jad je4 Tryz.func110 h
def vQbp (r_ : Option Addr) (is_ : Value) (H : jaa) (k : Int → jaa → Prop) : Prop :=
 LoopT (σ := Int) (fun next1 s1 H1 =>
 Jn (σ := Bool) (fun kk1 =>
 jab r_ fun a1 =>
 Ld (.int .i64) (a1.add 1) H1 fun (x1 : Int) =>
 Lt (IntKind.wrap .i64 (x1 + s1)) fun t1 =>
 jab r_ fun a2 =>
 Ld .str a2 H1 fun (x2 : ByteArray) =>
 Br (decide (t1 < (x2.size : Int))) (
 jab r_ fun a3 =>
 Ld .str a3 H1 fun (x3 : ByteArray) =>
 jab r_ fun a4 =>
 Ld (.int .i64) (a4.add 1) H1 fun (x4 : Int) =>
 Lt (IntKind.wrap .i64 (x4 + s1)) fun t2 =>
 jdP x3 t2 fun b1 =>
 jkw Pg is_ [.int .u8 b1] (.one (.c .bool)) H1 fun (r1 : Bool) H3 =>
 Stab [(a4.add 1, .int .i64 x4), (a3, .string x3), (a2, .string x2), (a1.add 1, .int .i64 x1)] H3 <|
 kk1 r1 H3) (
 kk1 false H1)) fun j1 H2 =>
 Br j1 (
 Lt (IntKind.wrap .i64 (s1 + 1)) fun t3 =>
 next1 t3 H2) (
 k s1 H2)) 0 H
def jez : Hint := (hq (hq (.two (.one (.loop [(5, (.c (.int .i64)))] (.two (.two (.join [(32, (.c .bool))] .no) .no) .no))) .no)))
theorem cQbp (r_ : Option Addr) (is_ : Value) {H : jaa} {k : Int → jaa → Prop} (h : vQbp r_ is_ H k) : CallT Pg fQb3 [.pointer r_, is_] (.one (.c (.int .i64))) H k := cE jad jez Tryz.func111 h
def vQbq (c_ : Int) (H : jaa) (k : Bool → jaa → Prop) : Prop :=
 Jn (σ := Bool) (fun kk1 =>
 CallT Pg jnx [.int .u8 c_] (.one (.c .bool)) H fun (r1 : Bool) H2 =>
 Br r1 (
 kk1 true H2) (
 CallT Pg fQbs [.int .u8 c_] (.one (.c .bool)) H2 fun (r2 : Bool) H3 =>
 Br r2 (
 kk1 true H3) (
 kk1 (c_ == 95) H3))) fun j1 H1 =>
 k j1 H1
def jd5 : Hint := (hq (.two (.join [(2, (.c .bool))] .no) .no))
theorem cQbq (c_ : Int) {H : jaa} {k : Bool → jaa → Prop} (h : vQbq c_ H k) : CallT Pg fQb4 [.int .u8 c_] (.one (.c .bool)) H k := cE jad jd5 Tryz.func112 h
def vQbr  (H : jaa) (k : Sl → jaa → Prop) : Prop :=
 CallT Pg fQb6 [.string (⟨#[97, 98, 115, 32, 97, 100, 100, 32, 100, 105, 101, 32, 101, 108, 115, 101, 32, 101, 109, 105, 116, 32, 102, 117, 110, 99, 32, 104, 97, 115, 32, 105, 102, 32, 105, 110, 112, 117, 116, 32, 108, 101, 116, 32, 109, 97, 120, 32, 109, 101, 32, 109, 105, 110, 32, 114, 97, 110, 100, 32, 114, 101, 97, 100, 115, 32, 114, 101, 109, 111, 118, 101, 32, 114, 101, 112, 101, 97, 116, 32, 114, 101, 116, 117, 114, 110, 32, 115, 112, 97, 119, 110, 32, 115, 116, 111, 112, 32, 115, 121, 115, 116, 101, 109, 32, 116, 105, 99, 107, 32, 119, 104, 105, 108, 101, 32, 119, 105, 116, 104, 32, 119, 105, 116, 104, 111, 117, 116, 32, 119, 114, 105, 116, 101, 115]⟩ : ByteArray)] (.one (.c .sl)) H fun (r1 : Sl) H1 =>
 k r1 H1
def jiS : Hint := .no
theorem cQbr  {H : jaa} {k : Sl → jaa → Prop} (h : vQbr  H k) : CallT Pg fQav [] (.one (.c .sl)) H k := cE jad jiS Tryz.func126 h
def vQbs (src_ : ByteArray) (H : jaa) (k : Sl × Int × Int → jaa → Prop) : Prop :=
 Br (decide ((src_.size : Int) > 8000)) (
 k (⟨none, 0, 0⟩, 8000, 102) H) (
 LoopT (σ := Sl × Int) (fun next1 s1 H1 =>
 Br (decide (s1.2 < (src_.size : Int))) (
 Jn (σ := Sl × Int) (fun kk1 =>
 jdP src_ s1.2 fun b1 =>
 Jn (σ := Bool) (fun kk2 =>
 Br (b1 == 32) (
 kk2 true H1) (
 Br (b1 == 9) (
 kk2 true H1) (
 Br (b1 == 10) (
 kk2 true H1) (
 kk2 (b1 == 13) H1)))) fun j2 H3 =>
 Br j2 (
 Lt (IntKind.wrap .i64 (s1.2 + 1)) fun t1 =>
 kk1 (s1.1, t1) H3) (
 CallT Pg fQbk [.string src_, .int .i64 s1.2] (.one (.c (.int .i64))) H3 fun (r1 : Int) H4 =>
 Br (decide (r1 < 0)) (
 k (⟨none, 0, 0⟩, s1.2, 90) H4) (
 Br (decide (r1 > s1.2)) (
 kk1 (s1.1, r1) H4) (
 CallT Pg fQbl [.int .u8 b1] (.one (.c .bool)) H4 fun (r2 : Bool) H5 =>
 CallT Pg fQbm [.int .u8 b1] (.one (.c .bool)) H5 fun (r3 : Bool) H6 =>
 CallT Pg fQbn [.string src_, .int .i64 s1.2] (.one (.c .str)) H6 fun (r4 : ByteArray) H7 =>
 Jn (σ := Sl × Int) (fun kk3 =>
 Jn (σ := Sl × Int) (fun kk4 =>
 Br r2 (
 CallT Pg fQbo [.string src_, .int .i64 s1.2] (.one (.c (.int .i64))) H7 fun (r5 : Int) H10 =>
 Lt (IntKind.wrap .i64 (r5 - s1.2)) fun t2 =>
 Br (decide (t2 > 16)) (
 k (⟨none, 0, 0⟩, s1.2, 90) H10) (
 jl7 src_ s1.2 r5 fun y1 =>
 Nw #[.int .i64 1, .string y1, .int .i64 s1.2] jbP H10 fun b2 H11 =>
 App jbP 3 32 #[.int .i64 0, .string ByteArray.empty, .int .i64 0] s1.1 ⟨some (adr b2), 1, 1⟩ H11 fun l1 H12 =>
 kk4 (l1, r5) H12)) (
 Jn (σ := Sl × Int) (fun kk5 =>
 Br r3 (
 CallT Pg fQbp [.string src_, .int .i64 s1.2] (.tup [(.c (.int .i64)), (.c .bool)]) H7 fun (r6 : Int × Bool) H14 =>
 Br (!r6.2) (
 k (⟨none, 0, 0⟩, s1.2, 90) H14) (
 Jn (σ := Unit) (fun kk6 =>
 Br (decide (r6.1 < (src_.size : Int))) (
 jdP src_ r6.1 fun b3 =>
 CallT Pg fQbl [.int .u8 b3] (.one (.c .bool)) H14 fun (r7 : Bool) H16 =>
 Jn (σ := Bool) (fun kk7 =>
 Br r7 (
 kk7 true H16) (
 jdP src_ r6.1 fun b4 =>
 kk7 (b4 == 95) H16)) fun j7 H17 =>
 Br j7 (
 k (⟨none, 0, 0⟩, r6.1, 90) H17) (
 kk6 () H17)) (
 kk6 () H14)) fun j6 H15 =>
 jl7 src_ s1.2 r6.1 fun y2 =>
 Nw #[.int .i64 2, .string y2, .int .i64 s1.2] jbP H15 fun b5 H18 =>
 App jbP 3 32 #[.int .i64 0, .string ByteArray.empty, .int .i64 0] s1.1 ⟨some (adr b5), 1, 1⟩ H18 fun l2 H19 =>
 kk5 (l2, r6.1) H19)) (
 Br (!(r4.toList == (⟨#[]⟩ : ByteArray).toList)) (
 Lt (IntKind.wrap .i64 (s1.2 + (r4.size : Int))) fun t3 =>
 Nw #[.int .i64 3, .string r4, .int .i64 s1.2] jbP H7 fun b6 H20 =>
 App jbP 3 32 #[.int .i64 0, .string ByteArray.empty, .int .i64 0] s1.1 ⟨some (adr b6), 1, 1⟩ H20 fun l3 H21 =>
 kk5 (l3, t3) H21) (
 k (⟨none, 0, 0⟩, s1.2, 90) H7))) fun j5 H13 =>
 kk4 (j5.1, j5.2) H13)) fun j4 H9 =>
 kk3 (j4.1, j4.2) H9) fun j3 H8 =>
 kk1 (j3.1, j3.2) H8)))) fun j1 H2 =>
 next1 (j1.1, j1.2) H2) (
 Nw #[.int .i64 0, .string ByteArray.empty, .int .i64 (src_.size : Int)] jbP H1 fun b7 H22 =>
 App jbP 3 32 #[.int .i64 0, .string ByteArray.empty, .int .i64 0] s1.1 ⟨some (adr b7), 1, 1⟩ H22 fun l4 H23 =>
 k (l4, 0, 0) H23)) (⟨none, 0, 0⟩, 0) H)
def jla : Hint := (hq (hq (hq (hq (.two (.one (.loop [(5, (.c .sl)), (6, (.c (.int .i64)))] (hq (.join [(5, (.c .sl)), (6, (.c (.int .i64)))] (.one (hq (.two (.two (.join [(38, (.c .bool))] .no) .no) (hq (hq (hq (hq (hq (hq (.two (.join [(5, (.c .sl)), (8, (.c (.int .i64)))] (.one (hq (.join [(5, (.c .sl)), (8, (.c (.int .i64)))] (hq (hq (.join [(5, (.c .sl)), (8, (.c (.int .i64)))] (.two (hq (hq (hq (.two (hq (.join [] (.two (hq (.two (.join [(104, (.c .bool))] .no) .no)) .no))) .no)))) .no)))))))) .no)))))))))))))) .no)))))
theorem cQbs (src_ : ByteArray) {H : jaa} {k : Sl × Int × Int → jaa → Prop} (h : vQbs src_ H k) : CallT Pg fQbh [.string src_] (.tup [(.c .sl), (.c (.int .i64)), (.c (.int .i64))]) H k := cE jad jla Tryz.func25 h
def vQbt (src_ : ByteArray) (at_ : Int) (H : jaa) (k : Int → jaa → Prop) : Prop :=
 CallT Pg fQbx [.string src_, .int .i64 at_, .string (⟨#[47, 47]⟩ : ByteArray)] (.one (.c .bool)) H fun (r1 : Bool) H1 =>
 Br r1 (
 LoopT (σ := Int) (fun next1 s1 H2 =>
 Jn (σ := Bool) (fun kk1 =>
 Br (decide (s1 < (src_.size : Int))) (
 jdP src_ s1 fun b1 =>
 kk1 (b1 != 10) H2) (
 kk1 false H2)) fun j1 H3 =>
 Br j1 (
 Lt (IntKind.wrap .i64 (s1 + 1)) fun t1 =>
 next1 t1 H3) (
 k s1 H3)) at_ H1) (
 CallT Pg fQbx [.string src_, .int .i64 at_, .string (⟨#[47, 42]⟩ : ByteArray)] (.one (.c .bool)) H1 fun (r2 : Bool) H4 =>
 Br (!r2) (
 k at_ H4) (
 Lt (IntKind.wrap .i64 (at_ + 2)) fun t2 =>
 LoopT (σ := Int) (fun next2 s2 H5 =>
 Br (decide (s2 < (src_.size : Int))) (
 CallT Pg fQbx [.string src_, .int .i64 s2, .string (⟨#[42, 47]⟩ : ByteArray)] (.one (.c .bool)) H5 fun (r3 : Bool) H6 =>
 Br r3 (
 Lt (IntKind.wrap .i64 (s2 + 2)) fun t3 =>
 k t3 H6) (
 Lt (IntKind.wrap .i64 (s2 + 1)) fun t4 =>
 next2 t4 H6)) (
 k (-1) H5)) t2 H4))
def jh4 : Hint := (hq (hq (.two (hq (.two (.two (.one (.loop [(1, (.c (.int .i64)))] (.two (.two (.join [(22, (.c .bool))] .no) .no) .no))) .no) .no)) (hq (hq (.two (hq (.one (.loop [(7, (.c (.int .i64)))] .no))) .no))))))
theorem cQbt (src_ : ByteArray) (at_ : Int) {H : jaa} {k : Int → jaa → Prop} (h : vQbt src_ at_ H k) : CallT Pg fQbk [.string src_, .int .i64 at_] (.one (.c (.int .i64))) H k := cE jad jh4 Tryz.func47 h
def vQbu (c_ : Int) (H : jaa) (k : Bool → jaa → Prop) : Prop :=
 Jn (σ := Bool) (fun kk1 =>
 Br (decide (c_ ≥ 97)) (
 Br (decide (c_ ≤ 122)) (
 kk1 true H) (
 Br (decide (c_ ≥ 65)) (
 kk1 (decide (c_ ≤ 90)) H) (
 kk1 false H))) (
 Br (decide (c_ ≥ 65)) (
 kk1 (decide (c_ ≤ 90)) H) (
 kk1 false H))) fun j1 H1 =>
 k j1 H1
def jhA : Hint := (hq (.two (.join [(2, (.c .bool))] .no) .no))
theorem cQbu (c_ : Int) {H : jaa} {k : Bool → jaa → Prop} (h : vQbu c_ H k) : CallT Pg fQbl [.int .u8 c_] (.one (.c .bool)) H k := cE jad jhA Tryz.func48 h
def vQbv (c_ : Int) (H : jaa) (k : Bool → jaa → Prop) : Prop :=
 Jn (σ := Bool) (fun kk1 =>
 Br (decide (c_ ≥ 48)) (
 kk1 (decide (c_ ≤ 57)) H) (
 kk1 false H)) fun j1 H1 =>
 k j1 H1
def jiY : Hint := (hq (.two (.join [(2, (.c .bool))] .no) .no))
theorem cQbv (c_ : Int) {H : jaa} {k : Bool → jaa → Prop} (h : vQbv c_ H k) : CallT Pg fQbm [.int .u8 c_] (.one (.c .bool)) H k := cE jad jiY Tryz.func49 h
def vQbw (src_ : ByteArray) (at_ : Int) (H : jaa) (k : ByteArray → jaa → Prop) : Prop :=
 Nw #[.string (⟨#[61, 61]⟩ : ByteArray), .string (⟨#[33, 61]⟩ : ByteArray), .string (⟨#[60, 61]⟩ : ByteArray), .string (⟨#[62, 61]⟩ : ByteArray), .string (⟨#[38, 38]⟩ : ByteArray), .string (⟨#[124, 124]⟩ : ByteArray), .string (⟨#[43]⟩ : ByteArray), .string (⟨#[45]⟩ : ByteArray), .string (⟨#[42]⟩ : ByteArray), .string (⟨#[47]⟩ : ByteArray), .string (⟨#[37]⟩ : ByteArray), .string (⟨#[60]⟩ : ByteArray), .string (⟨#[62]⟩ : ByteArray), .string (⟨#[33]⟩ : ByteArray), .string (⟨#[61]⟩ : ByteArray), .string (⟨#[40]⟩ : ByteArray), .string (⟨#[41]⟩ : ByteArray), .string (⟨#[123]⟩ : ByteArray), .string (⟨#[125]⟩ : ByteArray), .string (⟨#[44]⟩ : ByteArray), .string (⟨#[59]⟩ : ByteArray), .string (⟨#[58]⟩ : ByteArray), .string (⟨#[63]⟩ : ByteArray), .string (⟨#[46]⟩ : ByteArray)] jcC H fun b1 H1 =>
 LoopT (σ := Int) (fun next1 s1 H2 =>
 Br (decide (s1 < 24)) (
 IxA 1 ⟨some (adr b1), 24, 24⟩ s1 fun a1 =>
 Ld .str a1 H2 fun (x1 : ByteArray) =>
 CallT Pg fQbx [.string src_, .int .i64 at_, .string x1] (.one (.c .bool)) H2 fun (r1 : Bool) H3 =>
 Br r1 (
 IxA 1 ⟨some (adr b1), 24, 24⟩ s1 fun a2 =>
 Ld .str a2 H3 fun (x2 : ByteArray) =>
 k x2 H3) (
 Lt (IntKind.wrap .i64 (s1 + 1)) fun t1 =>
 next1 t1 H3)) (
 k (⟨#[]⟩ : ByteArray) H2)) 0 H1
def jkb : Hint := (hq (hq (.two (hq (.one (.loop [(6, (.c (.int .i64)))] .no))) .no)))
theorem cQbw (src_ : ByteArray) (at_ : Int) {H : jaa} {k : ByteArray → jaa → Prop} (h : vQbw src_ at_ H k) : CallT Pg fQbn [.string src_, .int .i64 at_] (.one (.c .str)) H k := cE jad jkb Tryz.func50 h
def vQbx (src_ : ByteArray) (at_ : Int) (H : jaa) (k : Int → jaa → Prop) : Prop :=
 LoopT (σ := Int) (fun next1 s1 H1 =>
 Br (decide (s1 < (src_.size : Int))) (
 jdP src_ s1 fun b1 =>
 CallT Pg fQbl [.int .u8 b1] (.one (.c .bool)) H1 fun (r1 : Bool) H2 =>
 jdP src_ s1 fun b2 =>
 CallT Pg fQbm [.int .u8 b2] (.one (.c .bool)) H2 fun (r2 : Bool) H3 =>
 Jn (σ := Bool) (fun kk1 =>
 Br (!r1) (
 Br (!r2) (
 jdP src_ s1 fun b3 =>
 kk1 (b3 != 95) H3) (
 kk1 false H3)) (
 kk1 false H3)) fun j1 H4 =>
 Br j1 (
 k s1 H4) (
 Lt (IntKind.wrap .i64 (s1 + 1)) fun t1 =>
 next1 t1 H4)) (
 k s1 H1)) at_ H
def jki : Hint := (hq (.two (.one (.loop [(1, (.c (.int .i64)))] (hq (.one (hq (hq (.two (.two (.join [(30, (.c .bool))] .no) .no) .no))))))) .no))
theorem cQbx (src_ : ByteArray) (at_ : Int) {H : jaa} {k : Int → jaa → Prop} (h : vQbx src_ at_ H k) : CallT Pg fQbo [.string src_, .int .i64 at_] (.one (.c (.int .i64))) H k := cE jad jki Tryz.func51 h
def vQby (src_ : ByteArray) (at_ : Int) (H : jaa) (k : Int × Bool → jaa → Prop) : Prop :=
 LoopT (σ := Int × Int × Bool) (fun next1 s1 H1 =>
 Jn (σ := Bool) (fun kk1 =>
 Br (decide (s1.1 < (src_.size : Int))) (
 jdP src_ s1.1 fun b1 =>
 Br (decide (b1 ≥ 48)) (
 jdP src_ s1.1 fun b2 =>
 kk1 (decide (b2 ≤ 57)) H1) (
 kk1 false H1)) (
 kk1 false H1)) fun j1 H2 =>
 Br j1 (
 jdP src_ s1.1 fun b3 =>
 Lt (IntKind.wrap .u8 (b3 - 48)) fun t1 =>
 Jn (σ := Bool) (fun kk2 =>
 Br s1.2.2 (
 kk2 true H2) (
 Lt (IntKind.wrap .u64 (9223372036854775807 - (IntKind.wrap .u64 t1))) fun t2 =>
 Quo .u64 t2 10 fun t3 =>
 kk2 (decide (s1.2.1 > t3)) H2)) fun j2 H3 =>
 Jn (σ := Int) (fun kk3 =>
 Br (!j2) (
 Lt (IntKind.wrap .u64 (10 * s1.2.1)) fun t4 =>
 Lt (IntKind.wrap .u64 (t4 + (IntKind.wrap .u64 t1))) fun t5 =>
 kk3 t5 H3) (
 kk3 s1.2.1 H3)) fun j3 H4 =>
 Lt (IntKind.wrap .i64 (s1.1 + 1)) fun t6 =>
 next1 (t6, j3, j2) H4) (
 Jn (σ := Int × Bool) (fun kk4 =>
 Br (!s1.2.2) (
 Lt (IntKind.wrap .i64 (at_ + 1)) fun t7 =>
 Br (s1.1 == t7) (
 kk4 (s1.1, true) H2) (
 jdP src_ at_ fun b4 =>
 kk4 (s1.1, b4 != 48) H2)) (
 kk4 (s1.1, false) H2)) fun j4 H5 =>
 k (j4.1, j4.2) H5)) (at_, 0, false) H
def jhO : Hint := (hq (hq (hq (hq (.two (.one (.loop [(1, (.c (.int .i64))), (6, (.c (.int .u64))), (7, (.c .bool))] (.two (.two (.join [(26, (.c .bool))] .no) .no) (.one (hq (.two (.join [(7, (.c .bool))] .no) (.two (hq (.join [(6, (.c (.int .u64)))] .no)) .no))))))) (.two (.join [(4, (.c (.int .i64))), (5, (.c .bool))] .no) .no))))))
theorem cQby (src_ : ByteArray) (at_ : Int) {H : jaa} {k : Int × Bool → jaa → Prop} (h : vQby src_ at_ H k) : CallT Pg fQbp [.string src_, .int .i64 at_] (.tup [(.c (.int .i64)), (.c .bool)]) H k := cE jad jhO Tryz.func52 h
def vQbz (src_ : ByteArray) (at_ : Int) (s_ : ByteArray) (H : jaa) (k : Bool → jaa → Prop) : Prop :=
 Jn (σ := Bool) (fun kk1 =>
 Lt (IntKind.wrap .i64 (at_ + (s_.size : Int))) fun t1 =>
 Br (decide (t1 ≤ (src_.size : Int))) (
 Lt (IntKind.wrap .i64 (at_ + (s_.size : Int))) fun t2 =>
 jl7 src_ at_ t2 fun y1 =>
 kk1 (y1.toList == s_.toList) H) (
 kk1 false H)) fun j1 H1 =>
 k j1 H1
def jh0 : Hint := (hq (.two (.join [(6, (.c .bool))] .no) .no))
theorem cQbz (src_ : ByteArray) (at_ : Int) (s_ : ByteArray) {H : jaa} {k : Bool → jaa → Prop} (h : vQbz src_ at_ s_ H k) : CallT Pg fQbx [.string src_, .int .i64 at_, .string s_] (.one (.c .bool)) H k := cE jad jh0 Tryz.func85 h
def vQb0  (H : jaa) (k : Sl → jaa → Prop) : Prop :=
 Nw #[.string (⟨#[97, 98, 115]⟩ : ByteArray), .string (⟨#[97, 100, 100]⟩ : ByteArray), .string (⟨#[100, 105, 101]⟩ : ByteArray), .string (⟨#[101, 108, 115, 101]⟩ : ByteArray), .string (⟨#[101, 109, 105, 116]⟩ : ByteArray), .string (⟨#[102, 117, 110, 99]⟩ : ByteArray), .string (⟨#[104, 97, 115]⟩ : ByteArray), .string (⟨#[105, 102]⟩ : ByteArray), .string (⟨#[105, 110, 112, 117, 116]⟩ : ByteArray), .string (⟨#[108, 101, 116]⟩ : ByteArray), .string (⟨#[109, 97, 120]⟩ : ByteArray), .string (⟨#[109, 101]⟩ : ByteArray), .string (⟨#[109, 105, 110]⟩ : ByteArray), .string (⟨#[114, 97, 110, 100]⟩ : ByteArray), .string (⟨#[114, 101, 97, 100, 115]⟩ : ByteArray), .string (⟨#[114, 101, 109, 111, 118, 101]⟩ : ByteArray), .string (⟨#[114, 101, 112, 101, 97, 116]⟩ : ByteArray), .string (⟨#[114, 101, 116, 117, 114, 110]⟩ : ByteArray), .string (⟨#[115, 112, 97, 119, 110]⟩ : ByteArray), .string (⟨#[115, 116, 111, 112]⟩ : ByteArray), .string (⟨#[115, 121, 115, 116, 101, 109]⟩ : ByteArray), .string (⟨#[116, 105, 99, 107]⟩ : ByteArray), .string (⟨#[119, 104, 105, 108, 101]⟩ : ByteArray), .string (⟨#[119, 105, 116, 104]⟩ : ByteArray), .string (⟨#[119, 105, 116, 104, 111, 117, 116]⟩ : ByteArray), .string (⟨#[119, 114, 105, 116, 101, 115]⟩ : ByteArray)] jcC H fun b1 H1 =>
 k ⟨some (adr b1), 26, 26⟩ H1
def jjg : Hint := .no
theorem cQb0  {H : jaa} {k : Sl → jaa → Prop} (h : vQb0  H k) : CallT Pg fQb5 [] (.one (.c .sl)) H k := cE jad jjg Tryz.func145 h
end
end Go.Proofs.YtfpmgpblhhcpgaaGreatDoor
