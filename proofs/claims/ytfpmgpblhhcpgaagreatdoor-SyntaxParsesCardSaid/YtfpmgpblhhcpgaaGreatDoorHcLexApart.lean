/-
 Tokens stand at their places; put together again they are the same.
-/
import Derived.Test.YtfpmgpblhhcpgaaGreatDoorVPri
import Derived.Test.YtfpmgpblhhcpgaaGreatDoorHcLists
import Derived.Test.YtfpmgpblhhcpgaaGreatDoorProg
import Derived.Test.YtfpmgpblhhcpgaaGreatDoorLexA
set_option linter.unusedVariables false
set_option linter.unusedSimpArgs false
namespace Go.Proofs.YtfpmgpblhhcpgaaGreatDoor
set_option maxRecDepth 100000
section
open Hc
abbrev jbJ : TypeId := 28
abbrev jho : TypeId := 67
abbrev TQaq : TypeId := 64
abbrev fQc5 : FuncId := 9
abbrev jk6 : FuncId := 26
abbrev jek : FuncId := 27
abbrev jjr : FuncId := 28
abbrev fQc9 : FuncId := 29
abbrev fQda : FuncId := 30
abbrev jeK : FuncId := 53
abbrev jkG : FuncId := 54
abbrev jeF : FuncId := 55
abbrev fQde : FuncId := 56
abbrev jly : FuncId := 57
abbrev fQdg : FuncId := 86
abbrev jmI : FuncId := 87
abbrev fQdi : FuncId := 88
abbrev fQdj : FuncId := 100
abbrev fQdk : FuncId := 119
abbrev fQdl : FuncId := 120
abbrev fQdm : FuncId := 121
abbrev fQdn : FuncId := 122
abbrev jh7 : FuncId := 123
abbrev fQdp : FuncId := 124
abbrev fQdq : FuncId := 146
abbrev fQdr : FuncId := 147
abbrev jnM : FuncId := 172
abbrev fQdt : FuncId := 173
abbrev fQdu : FuncId := 190
abbrev fQdv : FuncId := 196
abbrev fQdw : FuncId := 197
abbrev fQdx : FuncId := 198
def vQcu (src_ : ByteArray) (H : jaa) (k : Option Addr × Int × Int → jaa → Prop) : Prop :=
 CallT Pg fQbh [.string src_] (.tup [(.c .sl), (.c (.int .i64)), (.c (.int .i64))]) H fun (r1 : Sl × Int × Int) H1 =>
 Br (r1.2.2 != 0) (
 k (none, r1.2.1, r1.2.2) H1) (
 Nw #[slV r1.1, .int .i64 0, .int .i64 0, .int .i64 0, .int .i64 0, .int .i64 0] TQaq H1 fun b1 H2 =>
 Nw #[.int .i64 1, .string ByteArray.empty, .int .i64 0, .slice none 0 0, .int .i64 0] jho H2 fun b2 H3 =>
 LoopT (σ := Int × Int) (fun next1 s1 H4 =>
 Jn (σ := Bool) (fun kk1 =>
 CallT Pg jk6 [.pointer (some (adr b1))] (.one (.c .bool)) H4 fun (r2 : Bool) H6 =>
 Br r2 (
 jab (some (adr b1)) fun a1 =>
 Ld .sl a1 H6 fun (x1 : Sl) =>
 jab (some (adr b1)) fun a2 =>
 Ld (.int .i64) (a2.add 1) H6 fun (x2 : Int) =>
 IxA 3 x1 x2 fun a3 =>
 Ld (.int .i64) a3 H6 fun (x3 : Int) =>
 kk1 (x3 != 0) H6) (
 kk1 false H6)) fun j1 H5 =>
 Br j1 (
 Jn (σ := Int × Int) (fun kk2 =>
 CallT Pg jek [.pointer (some (adr b1)), .string (⟨#[115, 121, 115, 116, 101, 109]⟩ : ByteArray)] (.one (.c .bool)) H5 fun (r3 : Bool) H8 =>
 CallT Pg jek [.pointer (some (adr b1)), .string (⟨#[102, 117, 110, 99]⟩ : ByteArray)] (.one (.c .bool)) H8 fun (r4 : Bool) H9 =>
 Jn (σ := Int × Int) (fun kk3 =>
 Jn (σ := Int × Int) (fun kk4 =>
 Br r3 (
 Lt (IntKind.wrap .i64 (s1.1 + 1)) fun t1 =>
 Jn (σ := Unit) (fun kk5 =>
 Br (decide (t1 > 16)) (
 CallT Pg jjr [.pointer (some (adr b1)), .int .i64 102] (.tup []) H9 fun (r5 : Unit) H13 =>
 kk5 () H13) (
 kk5 () H9)) fun j5 H12 =>
 jab (some (adr b2)) fun a4 =>
 Ld .sl (a4.add 3) H12 fun (x4 : Sl) =>
 CallT Pg fQc9 [.pointer (some (adr b1))] (.one (.c .ptr)) H12 fun (r6 : Option Addr) H14 =>
 Stab [(a4.add 3, slV x4)] H14 <|
 Nw #[.pointer r6] jbJ H14 fun b3 H15 =>
 Stab [(a4.add 3, slV x4)] H15 <|
 App jbJ 1 8 #[.pointer none] x4 ⟨some (adr b3), 1, 1⟩ H15 fun l1 H16 =>
 jab (some (adr b2)) fun a5 =>
 St (a5.add 3) (slV l1) H16 fun H17 =>
 kk4 (t1, s1.2) H17) (
 Jn (σ := Int) (fun kk6 =>
 Br r4 (
 Lt (IntKind.wrap .i64 (s1.2 + 1)) fun t2 =>
 Jn (σ := Unit) (fun kk7 =>
 Br (decide (t2 > 16)) (
 CallT Pg jjr [.pointer (some (adr b1)), .int .i64 102] (.tup []) H9 fun (r7 : Unit) H20 =>
 kk7 () H20) (
 kk7 () H9)) fun j7 H19 =>
 jab (some (adr b2)) fun a6 =>
 Ld .sl (a6.add 3) H19 fun (x5 : Sl) =>
 CallT Pg fQda [.pointer (some (adr b1))] (.one (.c .ptr)) H19 fun (r8 : Option Addr) H21 =>
 Stab [(a6.add 3, slV x5)] H21 <|
 Nw #[.pointer r8] jbJ H21 fun b4 H22 =>
 Stab [(a6.add 3, slV x5)] H22 <|
 App jbJ 1 8 #[.pointer none] x5 ⟨some (adr b4), 1, 1⟩ H22 fun l2 H23 =>
 jab (some (adr b2)) fun a7 =>
 St (a7.add 3) (slV l2) H23 fun H24 =>
 kk6 t2 H24) (
 CallT Pg jjr [.pointer (some (adr b1)), .int .i64 100] (.tup []) H9 fun (r9 : Unit) H25 =>
 kk6 s1.2 H25)) fun j6 H18 =>
 kk4 (s1.1, j6) H18)) fun j4 H11 =>
 kk3 (j4.1, j4.2) H11) fun j3 H10 =>
 kk2 (j3.1, j3.2) H10) fun j2 H7 =>
 next1 (j2.1, j2.2) H7) (
 jab (some (adr b1)) fun a8 =>
 Ld (.int .i64) (a8.add 3) H5 fun (x6 : Int) =>
 Br (x6 != 0) (
 jab (some (adr b1)) fun a9 =>
 Ld (.int .i64) (a9.add 2) H5 fun (x7 : Int) =>
 jab (some (adr b1)) fun a10 =>
 Ld (.int .i64) (a10.add 3) H5 fun (x8 : Int) =>
 k (none, x7, x8) H5) (
 k ((some (adr b2), 0, 0)) H5))) (0, 0) H3)
def jjp : Hint := (hq (hq (hq (hq (hq (hq (hq (.two (.one (.loop [(10, (.c (.int .i64))), (11, (.c (.int .i64)))] (.two (.two (.join [(44, (.c .bool))] .no) .no) (.join [(10, (.c (.int .i64))), (11, (.c (.int .i64)))] (.one (hq (hq (.join [(10, (.c (.int .i64))), (11, (.c (.int .i64)))] (.one (hq (.join [(10, (.c (.int .i64))), (11, (.c (.int .i64)))] (.two (hq (.two (hq (.join [] .no)) .no)) (hq (.join [(11, (.c (.int .i64)))] (.two (hq (.two (hq (.join [] .no)) .no)) .no))))))))))))))) .no))))))))
theorem cQcu (src_ : ByteArray) {H : jaa} {k : Option Addr × Int × Int → jaa → Prop} (h : vQcu src_ H k) : CallT Pg fQc5 [.string src_] (.tup [(.c .ptr), (.c (.int .i64)), (.c (.int .i64))]) H k := cE jad jjp Tryz.func9 h
def vQcv (p_ : Option Addr) (H : jaa) (k : Bool → jaa → Prop) : Prop :=
 jab p_ fun a1 =>
 Ld (.int .i64) (a1.add 3) H fun (x1 : Int) =>
 k (x1 == 0) H
def jfH : Hint := .no
theorem cQcv (p_ : Option Addr) {H : jaa} {k : Bool → jaa → Prop} (h : vQcv p_ H k) : CallT Pg jk6 [.pointer p_] (.one (.c .bool)) H k := cE jad jfH Tryz.func26 h
def vQcw (p_ : Option Addr) (s_ : ByteArray) (H : jaa) (k : Bool → jaa → Prop) : Prop :=
 jab p_ fun a1 =>
 Ld .sl a1 H fun (x1 : Sl) =>
 jab p_ fun a2 =>
 Ld (.int .i64) (a2.add 1) H fun (x2 : Int) =>
 IxA 3 x1 x2 fun a3 =>
 LdC [(.int .i64), .str, (.int .i64)] a3 H fun (c1 : Int × ByteArray × Int) =>
 Nw #[.int .i64 0, .string ByteArray.empty, .int .i64 0] jbc H fun b1 H1 =>
 Stab [(a3.add 0, .int .i64 c1.1), (a3.add 1, .string c1.2.1), (a3.add 2, .int .i64 c1.2.2), (a2.add 1, .int .i64 x2), (a1, slV x1)] H1 <|
 St ((adr b1).add 0) (.int .i64 c1.1) H1 fun H2 =>
 St ((adr b1).add 1) (.string c1.2.1) H2 fun H3 =>
 St ((adr b1).add 2) (.int .i64 c1.2.2) H3 fun H4 =>
 Jn (σ := Bool) (fun kk1 =>
 jab p_ fun a4 =>
 Ld (.int .i64) (a4.add 3) H4 fun (x3 : Int) =>
 Br (x3 == 0) (
 Ld (.int .i64) (adr b1) H4 fun (x4 : Int) =>
 Br (x4 == 3) (
 Ld .str ((adr b1).add 1) H4 fun (x5 : ByteArray) =>
 kk1 (x5.toList == s_.toList) H4) (
 Ld (.int .i64) (adr b1) H4 fun (x6 : Int) =>
 Br (x6 == 1) (
 Ld .str ((adr b1).add 1) H4 fun (x7 : ByteArray) =>
 kk1 (x7.toList == s_.toList) H4) (
 kk1 false H4))) (
 kk1 false H4)) fun j1 H5 =>
 k j1 H5
def jgC : Hint := (hq (hq (.two (.join [(4, (.c .bool))] .no) .no)))
theorem cQcw (p_ : Option Addr) (s_ : ByteArray) {H : jaa} {k : Bool → jaa → Prop} (h : vQcw p_ s_ H k) : CallT Pg jek [.pointer p_, .string s_] (.one (.c .bool)) H k := cE jad jgC Tryz.func27 h
def vQcx (p_ : Option Addr) (e_ : Int) (H : jaa) (k : Unit → jaa → Prop) : Prop :=
 jab p_ fun a1 =>
 Ld (.int .i64) (a1.add 3) H fun (x1 : Int) =>
 Jn (σ := Unit) (fun kk1 =>
 Br (x1 == 0) (
 jab p_ fun a2 =>
 St (a2.add 3) (.int .i64 e_) H fun H2 =>
 jab p_ fun a3 =>
 Ld .sl a3 H2 fun (x2 : Sl) =>
 jab p_ fun a4 =>
 Ld (.int .i64) (a4.add 1) H2 fun (x3 : Int) =>
 IxA 3 x2 x3 fun a5 =>
 Ld (.int .i64) (a5.add 2) H2 fun (x4 : Int) =>
 jab p_ fun a6 =>
 St (a6.add 2) (.int .i64 x4) H2 fun H3 =>
 kk1 () H3) (
 kk1 () H)) fun j1 H1 =>
 k () H1
def jfS : Hint := (hq (.join [] .no))
theorem cQcx (p_ : Option Addr) (e_ : Int) {H : jaa} {k : Unit → jaa → Prop} (h : vQcx p_ e_ H k) : CallT Pg jjr [.pointer p_, .int .i64 e_] (.tup []) H k := cE jad jfS Tryz.func28 h
def vQcy (p_ : Option Addr) (H : jaa) (k : Option Addr → jaa → Prop) : Prop :=
 CallT Pg jeK [.pointer p_, .string (⟨#[115, 121, 115, 116, 101, 109]⟩ : ByteArray)] (.one (.agg [(.int .i64), .str, (.int .i64)])) H fun (r1 : Int × ByteArray × Int) H1 =>
 Nw #[.int .i64 2, .string ByteArray.empty, .int .i64 0, .slice none 0 0, .int .i64 r1.2.2] jho H1 fun b1 H2 =>
 CallT Pg jkG [.pointer p_] (.one (.agg [(.int .i64), .str, (.int .i64)])) H2 fun (r2 : Int × ByteArray × Int) H3 =>
 jab (some (adr b1)) fun a1 =>
 St (a1.add 1) (.string r2.2.1) H3 fun H4 =>
 Nw #[.string (⟨#[119, 105, 116, 104]⟩ : ByteArray), .string (⟨#[119, 105, 116, 104, 111, 117, 116]⟩ : ByteArray), .string (⟨#[114, 101, 97, 100, 115]⟩ : ByteArray), .string (⟨#[119, 114, 105, 116, 101, 115]⟩ : ByteArray)] jcC H4 fun b2 H5 =>
 LoopT (σ := Int) (fun next1 s1 H6 =>
 Br (decide (s1 < 4)) (
 IxA 1 ⟨some (adr b2), 4, 4⟩ s1 fun a2 =>
 Ld .str a2 H6 fun (x1 : ByteArray) =>
 Nw #[.int .i64 3, .string x1, .int .i64 0, .slice none 0 0, .int .i64 (-1)] jho H6 fun b3 H7 =>
 IxA 1 ⟨some (adr b2), 4, 4⟩ s1 fun a3 =>
 Ld .str a3 H7 fun (x2 : ByteArray) =>
 CallT Pg jek [.pointer p_, .string x2] (.one (.c .bool)) H7 fun (r3 : Bool) H8 =>
 Jn (σ := Unit) (fun kk1 =>
 Br r3 (
 CallT Pg jeF [.pointer p_] (.one (.agg [(.int .i64), .str, (.int .i64)])) H8 fun (r4 : Int × ByteArray × Int) H10 =>
 jab (some (adr b3)) fun a4 =>
 St (a4.add 4) (.int .i64 r4.2.2) H10 fun H11 =>
 CallT Pg fQde [.pointer p_, .pointer (some (adr b3)), .int .i64 8000] (.tup []) H11 fun (r5 : Unit) H12 =>
 kk1 () H12) (
 kk1 () H8)) fun j1 H9 =>
 jab (some (adr b1)) fun a5 =>
 Ld .sl (a5.add 3) H9 fun (x3 : Sl) =>
 Nw #[.pointer (some (adr b3))] jbJ H9 fun b4 H13 =>
 App jbJ 1 8 #[.pointer none] x3 ⟨some (adr b4), 1, 1⟩ H13 fun l1 H14 =>
 jab (some (adr b1)) fun a6 =>
 St (a6.add 3) (slV l1) H14 fun H15 =>
 Lt (IntKind.wrap .i64 (s1 + 1)) fun t1 =>
 next1 t1 H15) (
 CallT Pg jly [.pointer p_] (.one (.c .ptr)) H6 fun (r6 : Option Addr) H16 =>
 LoopT (σ := Int) (fun next2 s2 H17 =>
 Br (decide (s2 < 4)) (
 Jn (σ := Unit) (fun kk2 =>
 jab (some (adr b1)) fun a7 =>
 Ld .sl (a7.add 3) H17 fun (x4 : Sl) =>
 IxA 1 x4 s2 fun a8 =>
 Ld .ptr a8 H17 fun (x5 : Option Addr) =>
 jab x5 fun a9 =>
 Ld (.int .i64) (a9.add 4) H17 fun (x6 : Int) =>
 Jn (σ := Unit) (fun kk3 =>
 Br (decide (x6 < 0)) (
 jab (some (adr b1)) fun a10 =>
 Ld .sl (a10.add 3) H17 fun (x7 : Sl) =>
 IxA 1 x7 s2 fun a11 =>
 Ld .ptr a11 H17 fun (x8 : Option Addr) =>
 jab r6 fun a12 =>
 Ld (.int .i64) (a12.add 4) H17 fun (x9 : Int) =>
 jab x8 fun a13 =>
 St (a13.add 4) (.int .i64 x9) H17 fun H20 =>
 kk3 () H20) (
 kk3 () H17)) fun j3 H19 =>
 kk2 () H19) fun j2 H18 =>
 Lt (IntKind.wrap .i64 (s2 + 1)) fun t2 =>
 next2 t2 H18) (
 jab (some (adr b1)) fun a14 =>
 Ld .sl (a14.add 3) H17 fun (x10 : Sl) =>
 Nw #[.pointer r6] jbJ H17 fun b5 H21 =>
 App jbJ 1 8 #[.pointer none] x10 ⟨some (adr b5), 1, 1⟩ H21 fun l2 H22 =>
 jab (some (adr b1)) fun a15 =>
 St (a15.add 3) (slV l2) H22 fun H23 =>
 k (some (adr b1)) H23)) 0 H16)) 0 H5
def jeE : Hint := (hq (hq (hq (hq (.two (hq (.one (.loop [(5, (.c (.int .i64)))] (hq (.two (.one (hq (hq (.two (hq (.join [] .no)) .no)))) .no))))) (hq (.two (hq (.one (.loop [(9, (.c (.int .i64)))] (hq (.two (.join [] (.one (hq (.join [] .no)))) .no))))) .no)))))))
theorem cQcy (p_ : Option Addr) {H : jaa} {k : Option Addr → jaa → Prop} (h : vQcy p_ H k) : CallT Pg fQc9 [.pointer p_] (.one (.c .ptr)) H k := cE jad jeE Tryz.func29 h
def vQcz (p_ : Option Addr) (H : jaa) (k : Option Addr → jaa → Prop) : Prop :=
 CallT Pg jeK [.pointer p_, .string (⟨#[102, 117, 110, 99]⟩ : ByteArray)] (.one (.agg [(.int .i64), .str, (.int .i64)])) H fun (r1 : Int × ByteArray × Int) H1 =>
 Nw #[.int .i64 4, .string ByteArray.empty, .int .i64 0, .slice none 0 0, .int .i64 r1.2.2] jho H1 fun b1 H2 =>
 CallT Pg jkG [.pointer p_] (.one (.agg [(.int .i64), .str, (.int .i64)])) H2 fun (r2 : Int × ByteArray × Int) H3 =>
 jab (some (adr b1)) fun a1 =>
 St (a1.add 1) (.string r2.2.1) H3 fun H4 =>
 CallT Pg jeK [.pointer p_, .string (⟨#[40]⟩ : ByteArray)] (.one (.agg [(.int .i64), .str, (.int .i64)])) H4 fun (r3 : Int × ByteArray × Int) H5 =>
 Nw #[.int .i64 3, .string (⟨#[102, 117, 110, 99]⟩ : ByteArray), .int .i64 0, .slice none 0 0, .int .i64 r3.2.2] jho H5 fun b2 H6 =>
 CallT Pg jek [.pointer p_, .string (⟨#[41]⟩ : ByteArray)] (.one (.c .bool)) H6 fun (r4 : Bool) H7 =>
 Jn (σ := Unit) (fun kk1 =>
 Br (!r4) (
 CallT Pg fQde [.pointer p_, .pointer (some (adr b2)), .int .i64 4] (.tup []) H7 fun (r5 : Unit) H9 =>
 kk1 () H9) (
 kk1 () H7)) fun j1 H8 =>
 CallT Pg jeK [.pointer p_, .string (⟨#[41]⟩ : ByteArray)] (.one (.agg [(.int .i64), .str, (.int .i64)])) H8 fun (r6 : Int × ByteArray × Int) H10 =>
 CallT Pg jly [.pointer p_] (.one (.c .ptr)) H10 fun (r7 : Option Addr) H11 =>
 Nw #[.pointer (some (adr b2)), .pointer r7] jbJ H11 fun b3 H12 =>
 jab (some (adr b1)) fun a2 =>
 St (a2.add 3) (.slice (some (adr b3)) 2 2) H12 fun H13 =>
 k (some (adr b1)) H13
def jdw : Hint := (hq (hq (hq (hq (hq (.two (hq (.join [] .no)) .no))))))
theorem cQcz (p_ : Option Addr) {H : jaa} {k : Option Addr → jaa → Prop} (h : vQcz p_ H k) : CallT Pg fQda [.pointer p_] (.one (.c .ptr)) H k := cE jad jdw Tryz.func30 h
def vQc0 (p_ : Option Addr) (s_ : ByteArray) (H : jaa) (k : Int × ByteArray × Int → jaa → Prop) : Prop :=
 Nw #[.int .i64 0, .string ByteArray.empty, .int .i64 0] jbc H fun b1 H1 =>
 CallT Pg jek [.pointer p_, .string s_] (.one (.c .bool)) H1 fun (r1 : Bool) H2 =>
 Jn (σ := Unit) (fun kk1 =>
 Br (!r1) (
 CallT Pg jjr [.pointer p_, .int .i64 100] (.tup []) H2 fun (r2 : Unit) H4 =>
 kk1 () H4) (
 kk1 () H2)) fun j1 H3 =>
 CallT Pg jeF [.pointer p_] (.one (.agg [(.int .i64), .str, (.int .i64)])) H3 fun (r3 : Int × ByteArray × Int) H5 =>
 St ((adr b1).add 0) (.int .i64 r3.1) H5 fun H6 =>
 St ((adr b1).add 1) (.string r3.2.1) H6 fun H7 =>
 St ((adr b1).add 2) (.int .i64 r3.2.2) H7 fun H8 =>
 LdC [(.int .i64), .str, (.int .i64)] (adr b1) H8 fun (c1 : Int × ByteArray × Int) =>
 k (c1.1, c1.2.1, c1.2.2) H8
def jfF : Hint := (hq (hq (.two (hq (.join [] .no)) .no)))
theorem cQc0 (p_ : Option Addr) (s_ : ByteArray) {H : jaa} {k : Int × ByteArray × Int → jaa → Prop} (h : vQc0 p_ s_ H k) : CallT Pg jeK [.pointer p_, .string s_] (.one (.agg [(.int .i64), .str, (.int .i64)])) H k := cE jad jfF Tryz.func53 h
def vQc1 (p_ : Option Addr) (H : jaa) (k : Int × ByteArray × Int → jaa → Prop) : Prop :=
 Nw #[.int .i64 0, .string ByteArray.empty, .int .i64 0] jbc H fun b1 H1 =>
 CallT Pg fQdg [.pointer p_] (.one (.c .bool)) H1 fun (r1 : Bool) H2 =>
 Jn (σ := Unit) (fun kk1 =>
 Br (!r1) (
 CallT Pg jjr [.pointer p_, .int .i64 100] (.tup []) H2 fun (r2 : Unit) H4 =>
 kk1 () H4) (
 kk1 () H2)) fun j1 H3 =>
 CallT Pg jeF [.pointer p_] (.one (.agg [(.int .i64), .str, (.int .i64)])) H3 fun (r3 : Int × ByteArray × Int) H5 =>
 St ((adr b1).add 0) (.int .i64 r3.1) H5 fun H6 =>
 St ((adr b1).add 1) (.string r3.2.1) H6 fun H7 =>
 St ((adr b1).add 2) (.int .i64 r3.2.2) H7 fun H8 =>
 LdC [(.int .i64), .str, (.int .i64)] (adr b1) H8 fun (c1 : Int × ByteArray × Int) =>
 k (c1.1, c1.2.1, c1.2.2) H8
def jfr : Hint := (hq (hq (.two (hq (.join [] .no)) .no)))
theorem cQc1 (p_ : Option Addr) {H : jaa} {k : Int × ByteArray × Int → jaa → Prop} (h : vQc1 p_ H k) : CallT Pg jkG [.pointer p_] (.one (.agg [(.int .i64), .str, (.int .i64)])) H k := cE jad jfr Tryz.func54 h
def vQc2 (p_ : Option Addr) (H : jaa) (k : Int × ByteArray × Int → jaa → Prop) : Prop :=
 Nw #[.int .i64 0, .string ByteArray.empty, .int .i64 0] jbc H fun b1 H1 =>
 jab p_ fun a1 =>
 Ld .sl a1 H1 fun (x1 : Sl) =>
 jab p_ fun a2 =>
 Ld (.int .i64) (a2.add 1) H1 fun (x2 : Int) =>
 IxA 3 x1 x2 fun a3 =>
 LdC [(.int .i64), .str, (.int .i64)] a3 H1 fun (c1 : Int × ByteArray × Int) =>
 Nw #[.int .i64 0, .string ByteArray.empty, .int .i64 0] jbc H1 fun b2 H2 =>
 Stab [(a3.add 0, .int .i64 c1.1), (a3.add 1, .string c1.2.1), (a3.add 2, .int .i64 c1.2.2), (a2.add 1, .int .i64 x2), (a1, slV x1)] H2 <|
 St ((adr b2).add 0) (.int .i64 c1.1) H2 fun H3 =>
 St ((adr b2).add 1) (.string c1.2.1) H3 fun H4 =>
 St ((adr b2).add 2) (.int .i64 c1.2.2) H4 fun H5 =>
 Jn (σ := Bool) (fun kk1 =>
 jab p_ fun a4 =>
 Ld (.int .i64) (a4.add 3) H5 fun (x3 : Int) =>
 Br (x3 == 0) (
 jab p_ fun a5 =>
 Ld (.int .i64) (a5.add 1) H5 fun (x4 : Int) =>
 Lt (IntKind.wrap .i64 (x4 + 1)) fun t1 =>
 jab p_ fun a6 =>
 Ld .sl a6 H5 fun (x5 : Sl) =>
 kk1 (decide (t1 < (x5.len : Int))) H5) (
 kk1 false H5)) fun j1 H6 =>
 Jn (σ := Unit) (fun kk2 =>
 Br j1 (
 jab p_ fun a7 =>
 Ld (.int .i64) (a7.add 1) H6 fun (x6 : Int) =>
 Lt (IntKind.wrap .i64 (x6 + 1)) fun t2 =>
 jab p_ fun a8 =>
 St (a8.add 1) (.int .i64 t2) H6 fun H8 =>
 kk2 () H8) (
 kk2 () H6)) fun j2 H7 =>
 LdC [(.int .i64), .str, (.int .i64)] (adr b2) H7 fun (c2 : Int × ByteArray × Int) =>
 St ((adr b1).add 0) (.int .i64 c2.1) H7 fun H9 =>
 St ((adr b1).add 1) (.string c2.2.1) H9 fun H10 =>
 St ((adr b1).add 2) (.int .i64 c2.2.2) H10 fun H11 =>
 LdC [(.int .i64), .str, (.int .i64)] (adr b1) H11 fun (c3 : Int × ByteArray × Int) =>
 k (c3.1, c3.2.1, c3.2.2) H11
def jfG : Hint := (hq (hq (.two (.two (.join [(31, (.c .bool))] .no) (.join [] .no)) .no)))
theorem cQc2 (p_ : Option Addr) {H : jaa} {k : Int × ByteArray × Int → jaa → Prop} (h : vQc2 p_ H k) : CallT Pg jeF [.pointer p_] (.one (.agg [(.int .i64), .str, (.int .i64)])) H k := cE jad jfG Tryz.func55 h
def vQc3 (p_ : Option Addr) (n_ : Option Addr) (most_ : Int) (H : jaa) (k : Unit → jaa → Prop) : Prop :=
 LoopT (σ := Unit) (fun next1 s1 H1 =>
 CallT Pg jk6 [.pointer p_] (.one (.c .bool)) H1 fun (r1 : Bool) H2 =>
 Br r1 (
 CallT Pg fQdg [.pointer p_] (.one (.c .bool)) H2 fun (r2 : Bool) H3 =>
 Jn (σ := Bool) (fun kk1 =>
 Br r2 (
 jab n_ fun a1 =>
 Ld .sl (a1.add 3) H3 fun (x1 : Sl) =>
 kk1 (decide ((x1.len : Int) ≥ most_)) H3) (
 kk1 false H3)) fun j1 H4 =>
 Jn (σ := Unit) (fun kk2 =>
 Br j1 (
 CallT Pg jjr [.pointer p_, .int .i64 102] (.tup []) H4 fun (r3 : Unit) H6 =>
 kk2 () H6) (
 kk2 () H4)) fun j2 H5 =>
 CallT Pg jkG [.pointer p_] (.one (.agg [(.int .i64), .str, (.int .i64)])) H5 fun (r4 : Int × ByteArray × Int) H7 =>
 Nw #[.int .i64 0, .string ByteArray.empty, .int .i64 0] jbc H7 fun b1 H8 =>
 St ((adr b1).add 0) (.int .i64 r4.1) H8 fun H9 =>
 St ((adr b1).add 1) (.string r4.2.1) H9 fun H10 =>
 St ((adr b1).add 2) (.int .i64 r4.2.2) H10 fun H11 =>
 jab n_ fun a2 =>
 Ld .sl (a2.add 3) H11 fun (x2 : Sl) =>
 Ld .str ((adr b1).add 1) H11 fun (x3 : ByteArray) =>
 Ld (.int .i64) ((adr b1).add 2) H11 fun (x4 : Int) =>
 Nw #[.int .i64 31, .string x3, .int .i64 0, .slice none 0 0, .int .i64 x4] jho H11 fun b2 H12 =>
 Stab [((adr b1).add 2, .int .i64 x4), ((adr b1).add 1, .string x3), (a2.add 3, slV x2)] H12 <|
 Nw #[.pointer (some (adr b2))] jbJ H12 fun b3 H13 =>
 Stab [((adr b1).add 2, .int .i64 x4), ((adr b1).add 1, .string x3), (a2.add 3, slV x2)] H13 <|
 App jbJ 1 8 #[.pointer none] x2 ⟨some (adr b3), 1, 1⟩ H13 fun l1 H14 =>
 Stab [((adr b1).add 2, .int .i64 x4), ((adr b1).add 1, .string x3)] H14 <|
 jab n_ fun a3 =>
 St (a3.add 3) (slV l1) H14 fun H15 =>
 CallT Pg jek [.pointer p_, .string (⟨#[44]⟩ : ByteArray)] (.one (.c .bool)) H15 fun (r5 : Bool) H16 =>
 Br (!r5) (
 k () H16) (
 CallT Pg jeF [.pointer p_] (.one (.agg [(.int .i64), .str, (.int .i64)])) H16 fun (r6 : Int × ByteArray × Int) H17 =>
 next1 () H17)) (
 k () H2)) () H
def jfi : Hint := (.one (.loop [] (hq (.one (hq (.two (.two (.join [(22, (.c .bool))] .no) (.join [] .no)) .no))))))
theorem cQc3 (p_ : Option Addr) (n_ : Option Addr) (most_ : Int) {H : jaa} {k : Unit → jaa → Prop} (h : vQc3 p_ n_ most_ H k) : CallT Pg fQde [.pointer p_, .pointer n_, .int .i64 most_] (.tup []) H k := cE jad jfi Tryz.func56 h
def vQc4 (p_ : Option Addr) (H : jaa) (k : Option Addr → jaa → Prop) : Prop :=
 CallT Pg jek [.pointer p_, .string (⟨#[123]⟩ : ByteArray)] (.one (.c .bool)) H fun (r1 : Bool) H1 =>
 Jn (σ := Unit) (fun kk1 =>
 Br r1 (
 CallT Pg jmI [.pointer p_] (.tup []) H1 fun (r2 : Unit) H3 =>
 kk1 () H3) (
 kk1 () H1)) fun j1 H2 =>
 CallT Pg jeK [.pointer p_, .string (⟨#[123]⟩ : ByteArray)] (.one (.agg [(.int .i64), .str, (.int .i64)])) H2 fun (r3 : Int × ByteArray × Int) H4 =>
 Nw #[.int .i64 5, .string ByteArray.empty, .int .i64 0, .slice none 0 0, .int .i64 r3.2.2] jho H4 fun b1 H5 =>
 Jn (σ := Unit) (fun kk2 =>
 LoopT (σ := Unit) (fun next1 s1 H7 =>
 CallT Pg jk6 [.pointer p_] (.one (.c .bool)) H7 fun (r4 : Bool) H8 =>
 Br r4 (
 CallT Pg jek [.pointer p_, .string (⟨#[125]⟩ : ByteArray)] (.one (.c .bool)) H8 fun (r5 : Bool) H9 =>
 Br r5 (
 kk2 () H9) (
 jab (some (adr b1)) fun a1 =>
 Ld .sl (a1.add 3) H9 fun (x1 : Sl) =>
 CallT Pg fQdi [.pointer p_] (.one (.c .ptr)) H9 fun (r6 : Option Addr) H10 =>
 Stab [(a1.add 3, slV x1)] H10 <|
 Nw #[.pointer r6] jbJ H10 fun b2 H11 =>
 Stab [(a1.add 3, slV x1)] H11 <|
 App jbJ 1 8 #[.pointer none] x1 ⟨some (adr b2), 1, 1⟩ H11 fun l1 H12 =>
 jab (some (adr b1)) fun a2 =>
 St (a2.add 3) (slV l1) H12 fun H13 =>
 next1 () H13)) (
 kk2 () H8)) () H5) fun j2 H6 =>
 CallT Pg jeK [.pointer p_, .string (⟨#[125]⟩ : ByteArray)] (.one (.agg [(.int .i64), .str, (.int .i64)])) H6 fun (r7 : Int × ByteArray × Int) H14 =>
 jab p_ fun a3 =>
 Ld (.int .i64) (a3.add 4) H14 fun (x2 : Int) =>
 Lt (IntKind.wrap .i64 (x2 - 1)) fun t1 =>
 jab p_ fun a4 =>
 St (a4.add 4) (.int .i64 t1) H14 fun H15 =>
 k (some (adr b1)) H15
def jfe : Hint := (hq (hq (.two (hq (.join [] .no)) (hq (.two (.join [] (.one (.loop [] .no))) .no)))))
theorem cQc4 (p_ : Option Addr) {H : jaa} {k : Option Addr → jaa → Prop} (h : vQc4 p_ H k) : CallT Pg jly [.pointer p_] (.one (.c .ptr)) H k := cE jad jfe Tryz.func57 h
def vQc5 (p_ : Option Addr) (H : jaa) (k : Bool → jaa → Prop) : Prop :=
 jab p_ fun a1 =>
 Ld .sl a1 H fun (x1 : Sl) =>
 jab p_ fun a2 =>
 Ld (.int .i64) (a2.add 1) H fun (x2 : Int) =>
 IxA 3 x1 x2 fun a3 =>
 LdC [(.int .i64), .str, (.int .i64)] a3 H fun (c1 : Int × ByteArray × Int) =>
 Nw #[.int .i64 0, .string ByteArray.empty, .int .i64 0] jbc H fun b1 H1 =>
 Stab [(a3.add 0, .int .i64 c1.1), (a3.add 1, .string c1.2.1), (a3.add 2, .int .i64 c1.2.2), (a2.add 1, .int .i64 x2), (a1, slV x1)] H1 <|
 St ((adr b1).add 0) (.int .i64 c1.1) H1 fun H2 =>
 St ((adr b1).add 1) (.string c1.2.1) H2 fun H3 =>
 St ((adr b1).add 2) (.int .i64 c1.2.2) H3 fun H4 =>
 Ld .str ((adr b1).add 1) H4 fun (x3 : ByteArray) =>
 CallT Pg fQdk [.string x3] (.one (.c .bool)) H4 fun (r1 : Bool) H5 =>
 Jn (σ := Bool) (fun kk1 =>
 jab p_ fun a4 =>
 Ld (.int .i64) (a4.add 3) H5 fun (x4 : Int) =>
 Br (x4 == 0) (
 Ld (.int .i64) (adr b1) H5 fun (x5 : Int) =>
 Br (x5 == 1) (
 kk1 (!r1) H5) (
 kk1 false H5)) (
 kk1 false H5)) fun j1 H6 =>
 k j1 H6
def jer : Hint := (hq (hq (hq (.two (.join [(2, (.c .bool))] .no) .no))))
theorem cQc5 (p_ : Option Addr) {H : jaa} {k : Bool → jaa → Prop} (h : vQc5 p_ H k) : CallT Pg fQdg [.pointer p_] (.one (.c .bool)) H k := cE jad jer Tryz.func86 h
def vQc6 (p_ : Option Addr) (H : jaa) (k : Unit → jaa → Prop) : Prop :=
 jab p_ fun a1 =>
 Ld (.int .i64) (a1.add 4) H fun (x1 : Int) =>
 Jn (σ := Unit) (fun kk1 =>
 Br (decide (x1 ≥ 20)) (
 CallT Pg jjr [.pointer p_, .int .i64 101] (.tup []) H fun (r1 : Unit) H2 =>
 kk1 () H2) (
 kk1 () H)) fun j1 H1 =>
 jab p_ fun a2 =>
 Ld (.int .i64) (a2.add 4) H1 fun (x2 : Int) =>
 Lt (IntKind.wrap .i64 (x2 + 1)) fun t1 =>
 jab p_ fun a3 =>
 St (a3.add 4) (.int .i64 t1) H1 fun H3 =>
 k () H3
def jeQ : Hint := (.two (hq (.join [] .no)) .no)
theorem cQc6 (p_ : Option Addr) {H : jaa} {k : Unit → jaa → Prop} (h : vQc6 p_ H k) : CallT Pg jmI [.pointer p_] (.tup []) H k := cE jad jeQ Tryz.func87 h
def vQc7 (p_ : Option Addr) (H : jaa) (k : Option Addr → jaa → Prop) : Prop :=
 CallT Pg fQdl [.pointer p_] (.tup []) H fun (r1 : Unit) H1 =>
 CallT Pg fQdg [.pointer p_] (.one (.c .bool)) H1 fun (r2 : Bool) H2 =>
 Br r2 (
 CallT Pg fQdm [.pointer p_] (.one (.c .ptr)) H2 fun (r3 : Option Addr) H3 =>
 k r3 H3) (
 jab p_ fun a1 =>
 Ld .sl a1 H2 fun (x1 : Sl) =>
 jab p_ fun a2 =>
 Ld (.int .i64) (a2.add 1) H2 fun (x2 : Int) =>
 IxA 3 x1 x2 fun a3 =>
 LdC [(.int .i64), .str, (.int .i64)] a3 H2 fun (c1 : Int × ByteArray × Int) =>
 Nw #[.int .i64 0, .string ByteArray.empty, .int .i64 0] jbc H2 fun b1 H4 =>
 Stab [(a3.add 0, .int .i64 c1.1), (a3.add 1, .string c1.2.1), (a3.add 2, .int .i64 c1.2.2), (a2.add 1, .int .i64 x2), (a1, slV x1)] H4 <|
 St ((adr b1).add 0) (.int .i64 c1.1) H4 fun H5 =>
 St ((adr b1).add 1) (.string c1.2.1) H5 fun H6 =>
 St ((adr b1).add 2) (.int .i64 c1.2.2) H6 fun H7 =>
 Ld (.int .i64) ((adr b1).add 2) H7 fun (x3 : Int) =>
 Nw #[.int .i64 0, .string ByteArray.empty, .int .i64 0, .slice none 0 0, .int .i64 x3] jho H7 fun b2 H8 =>
 CallT Pg jk6 [.pointer p_] (.one (.c .bool)) H8 fun (r4 : Bool) H9 =>
 Br (!r4) (
 k (some (adr b2)) H9) (
 Ld .str ((adr b1).add 1) H9 fun (x4 : ByteArray) =>
 Jn (σ := Unit) (fun kk1 =>
 Br ((x4.toList == (⟨#[105, 102]⟩ : ByteArray).toList)) (
 CallT Pg fQdn [.pointer p_] (.one (.c .ptr)) H9 fun (r5 : Option Addr) H11 =>
 k r5 H11) (
 Jn (σ := Bool) (fun kk2 =>
 Br ((x4.toList == (⟨#[119, 104, 105, 108, 101]⟩ : ByteArray).toList)) (
 kk2 true H9) (
 kk2 ((x4.toList == (⟨#[114, 101, 112, 101, 97, 116]⟩ : ByteArray).toList)) H9)) fun j2 H12 =>
 Br j2 (
 jab (some (adr b2)) fun a4 =>
 St a4 (.int .i64 14) H12 fun H13 =>
 Ld .str ((adr b1).add 1) H13 fun (x5 : ByteArray) =>
 Jn (σ := Unit) (fun kk3 =>
 Br ((x5.toList == (⟨#[114, 101, 112, 101, 97, 116]⟩ : ByteArray).toList)) (
 jab (some (adr b2)) fun a5 =>
 St a5 (.int .i64 15) H13 fun H15 =>
 kk3 () H15) (
 kk3 () H13)) fun j3 H14 =>
 CallT Pg jeF [.pointer p_] (.one (.agg [(.int .i64), .str, (.int .i64)])) H14 fun (r6 : Int × ByteArray × Int) H16 =>
 jab (some (adr b2)) fun a6 =>
 Ld .sl (a6.add 3) H16 fun (x6 : Sl) =>
 CallT Pg jh7 [.pointer p_] (.one (.c .ptr)) H16 fun (r7 : Option Addr) H17 =>
 Stab [(a6.add 3, slV x6)] H17 <|
 Nw #[.pointer r7] jbJ H17 fun b3 H18 =>
 Stab [(a6.add 3, slV x6)] H18 <|
 App jbJ 1 8 #[.pointer none] x6 ⟨some (adr b3), 1, 1⟩ H18 fun l1 H19 =>
 jab (some (adr b2)) fun a7 =>
 St (a7.add 3) (slV l1) H19 fun H20 =>
 jab (some (adr b2)) fun a8 =>
 Ld .sl (a8.add 3) H20 fun (x7 : Sl) =>
 CallT Pg jly [.pointer p_] (.one (.c .ptr)) H20 fun (r8 : Option Addr) H21 =>
 Stab [(a8.add 3, slV x7)] H21 <|
 Nw #[.pointer r8] jbJ H21 fun b4 H22 =>
 Stab [(a8.add 3, slV x7)] H22 <|
 App jbJ 1 8 #[.pointer none] x7 ⟨some (adr b4), 1, 1⟩ H22 fun l2 H23 =>
 jab (some (adr b2)) fun a9 =>
 St (a9.add 3) (slV l2) H23 fun H24 =>
 k (some (adr b2)) H24) (
 Jn (σ := Unit) (fun kk4 =>
 Br ((x4.toList == (⟨#[108, 101, 116]⟩ : ByteArray).toList)) (
 CallT Pg jeF [.pointer p_] (.one (.agg [(.int .i64), .str, (.int .i64)])) H12 fun (r9 : Int × ByteArray × Int) H26 =>
 jab (some (adr b2)) fun a10 =>
 St a10 (.int .i64 10) H26 fun H27 =>
 CallT Pg jkG [.pointer p_] (.one (.agg [(.int .i64), .str, (.int .i64)])) H27 fun (r10 : Int × ByteArray × Int) H28 =>
 jab (some (adr b2)) fun a11 =>
 St (a11.add 1) (.string r10.2.1) H28 fun H29 =>
 CallT Pg jeK [.pointer p_, .string (⟨#[61]⟩ : ByteArray)] (.one (.agg [(.int .i64), .str, (.int .i64)])) H29 fun (r11 : Int × ByteArray × Int) H30 =>
 jab (some (adr b2)) fun a12 =>
 Ld .sl (a12.add 3) H30 fun (x8 : Sl) =>
 CallT Pg jh7 [.pointer p_] (.one (.c .ptr)) H30 fun (r12 : Option Addr) H31 =>
 Stab [(a12.add 3, slV x8)] H31 <|
 Nw #[.pointer r12] jbJ H31 fun b5 H32 =>
 Stab [(a12.add 3, slV x8)] H32 <|
 App jbJ 1 8 #[.pointer none] x8 ⟨some (adr b5), 1, 1⟩ H32 fun l3 H33 =>
 jab (some (adr b2)) fun a13 =>
 St (a13.add 3) (slV l3) H33 fun H34 =>
 kk4 () H34) (
 Jn (σ := Unit) (fun kk5 =>
 Br ((x4.toList == (⟨#[101, 109, 105, 116]⟩ : ByteArray).toList)) (
 CallT Pg jeF [.pointer p_] (.one (.agg [(.int .i64), .str, (.int .i64)])) H12 fun (r13 : Int × ByteArray × Int) H36 =>
 jab (some (adr b2)) fun a14 =>
 St a14 (.int .i64 16) H36 fun H37 =>
 jab (some (adr b2)) fun a15 =>
 Ld .sl (a15.add 3) H37 fun (x9 : Sl) =>
 CallT Pg jh7 [.pointer p_] (.one (.c .ptr)) H37 fun (r14 : Option Addr) H38 =>
 Stab [(a15.add 3, slV x9)] H38 <|
 Nw #[.pointer r14] jbJ H38 fun b6 H39 =>
 Stab [(a15.add 3, slV x9)] H39 <|
 App jbJ 1 8 #[.pointer none] x9 ⟨some (adr b6), 1, 1⟩ H39 fun l4 H40 =>
 jab (some (adr b2)) fun a16 =>
 St (a16.add 3) (slV l4) H40 fun H41 =>
 CallT Pg jeK [.pointer p_, .string (⟨#[44]⟩ : ByteArray)] (.one (.agg [(.int .i64), .str, (.int .i64)])) H41 fun (r15 : Int × ByteArray × Int) H42 =>
 jab (some (adr b2)) fun a17 =>
 Ld .sl (a17.add 3) H42 fun (x10 : Sl) =>
 CallT Pg jh7 [.pointer p_] (.one (.c .ptr)) H42 fun (r16 : Option Addr) H43 =>
 Stab [(a17.add 3, slV x10)] H43 <|
 Nw #[.pointer r16] jbJ H43 fun b7 H44 =>
 Stab [(a17.add 3, slV x10)] H44 <|
 App jbJ 1 8 #[.pointer none] x10 ⟨some (adr b7), 1, 1⟩ H44 fun l5 H45 =>
 jab (some (adr b2)) fun a18 =>
 St (a18.add 3) (slV l5) H45 fun H46 =>
 kk5 () H46) (
 Jn (σ := Unit) (fun kk6 =>
 Br ((x4.toList == (⟨#[115, 112, 97, 119, 110]⟩ : ByteArray).toList)) (
 CallT Pg jeF [.pointer p_] (.one (.agg [(.int .i64), .str, (.int .i64)])) H12 fun (r17 : Int × ByteArray × Int) H48 =>
 jab (some (adr b2)) fun a19 =>
 St a19 (.int .i64 17) H48 fun H49 =>
 CallT Pg jek [.pointer p_, .string (⟨#[59]⟩ : ByteArray)] (.one (.c .bool)) H49 fun (r18 : Bool) H50 =>
 LoopT (σ := Bool) (fun next1 s1 H51 =>
 Jn (σ := Bool) (fun kk7 =>
 Br s1 (
 CallT Pg jk6 [.pointer p_] (.one (.c .bool)) H51 fun (r19 : Bool) H53 =>
 kk7 r19 H53) (
 kk7 false H51)) fun j7 H52 =>
 Br j7 (
 Jn (σ := Bool) (fun kk8 =>
 jab (some (adr b2)) fun a20 =>
 Ld .sl (a20.add 3) H52 fun (x11 : Sl) =>
 CallT Pg fQdp [.pointer p_] (.one (.c .ptr)) H52 fun (r20 : Option Addr) H55 =>
 Stab [(a20.add 3, slV x11)] H55 <|
 Nw #[.pointer r20] jbJ H55 fun b8 H56 =>
 Stab [(a20.add 3, slV x11)] H56 <|
 App jbJ 1 8 #[.pointer none] x11 ⟨some (adr b8), 1, 1⟩ H56 fun l6 H57 =>
 jab (some (adr b2)) fun a21 =>
 St (a21.add 3) (slV l6) H57 fun H58 =>
 CallT Pg jek [.pointer p_, .string (⟨#[44]⟩ : ByteArray)] (.one (.c .bool)) H58 fun (r21 : Bool) H59 =>
 Jn (σ := Unit) (fun kk9 =>
 Br r21 (
 CallT Pg jeF [.pointer p_] (.one (.agg [(.int .i64), .str, (.int .i64)])) H59 fun (r22 : Int × ByteArray × Int) H61 =>
 kk9 () H61) (
 kk9 () H59)) fun j9 H60 =>
 kk8 r21 H60) fun j8 H54 =>
 next1 j8 H54) (
 kk6 () H52)) (!r18) H50) (
 Jn (σ := Unit) (fun kk10 =>
 Br ((x4.toList == (⟨#[97, 100, 100]⟩ : ByteArray).toList)) (
 CallT Pg jeF [.pointer p_] (.one (.agg [(.int .i64), .str, (.int .i64)])) H12 fun (r23 : Int × ByteArray × Int) H63 =>
 jab (some (adr b2)) fun a22 =>
 St a22 (.int .i64 18) H63 fun H64 =>
 jab (some (adr b2)) fun a23 =>
 Ld .sl (a23.add 3) H64 fun (x12 : Sl) =>
 CallT Pg fQdp [.pointer p_] (.one (.c .ptr)) H64 fun (r24 : Option Addr) H65 =>
 Stab [(a23.add 3, slV x12)] H65 <|
 Nw #[.pointer r24] jbJ H65 fun b9 H66 =>
 Stab [(a23.add 3, slV x12)] H66 <|
 App jbJ 1 8 #[.pointer none] x12 ⟨some (adr b9), 1, 1⟩ H66 fun l7 H67 =>
 jab (some (adr b2)) fun a24 =>
 St (a24.add 3) (slV l7) H67 fun H68 =>
 kk10 () H68) (
 Jn (σ := Unit) (fun kk11 =>
 Br ((x4.toList == (⟨#[114, 101, 109, 111, 118, 101]⟩ : ByteArray).toList)) (
 CallT Pg jeF [.pointer p_] (.one (.agg [(.int .i64), .str, (.int .i64)])) H12 fun (r25 : Int × ByteArray × Int) H70 =>
 jab (some (adr b2)) fun a25 =>
 St a25 (.int .i64 19) H70 fun H71 =>
 CallT Pg jkG [.pointer p_] (.one (.agg [(.int .i64), .str, (.int .i64)])) H71 fun (r26 : Int × ByteArray × Int) H72 =>
 jab (some (adr b2)) fun a26 =>
 St (a26.add 1) (.string r26.2.1) H72 fun H73 =>
 kk11 () H73) (
 Jn (σ := Unit) (fun kk12 =>
 Br ((x4.toList == (⟨#[100, 105, 101]⟩ : ByteArray).toList)) (
 CallT Pg jeF [.pointer p_] (.one (.agg [(.int .i64), .str, (.int .i64)])) H12 fun (r27 : Int × ByteArray × Int) H75 =>
 jab (some (adr b2)) fun a27 =>
 St a27 (.int .i64 20) H75 fun H76 =>
 kk12 () H76) (
 Jn (σ := Unit) (fun kk13 =>
 Br ((x4.toList == (⟨#[115, 116, 111, 112]⟩ : ByteArray).toList)) (
 CallT Pg jeF [.pointer p_] (.one (.agg [(.int .i64), .str, (.int .i64)])) H12 fun (r28 : Int × ByteArray × Int) H78 =>
 jab (some (adr b2)) fun a28 =>
 St a28 (.int .i64 21) H78 fun H79 =>
 kk13 () H79) (
 Jn (σ := Unit) (fun kk14 =>
 Br ((x4.toList == (⟨#[114, 101, 116, 117, 114, 110]⟩ : ByteArray).toList)) (
 CallT Pg jeF [.pointer p_] (.one (.agg [(.int .i64), .str, (.int .i64)])) H12 fun (r29 : Int × ByteArray × Int) H81 =>
 jab (some (adr b2)) fun a29 =>
 St a29 (.int .i64 22) H81 fun H82 =>
 jab (some (adr b2)) fun a30 =>
 Ld .sl (a30.add 3) H82 fun (x13 : Sl) =>
 CallT Pg jh7 [.pointer p_] (.one (.c .ptr)) H82 fun (r30 : Option Addr) H83 =>
 Stab [(a30.add 3, slV x13)] H83 <|
 Nw #[.pointer r30] jbJ H83 fun b10 H84 =>
 Stab [(a30.add 3, slV x13)] H84 <|
 App jbJ 1 8 #[.pointer none] x13 ⟨some (adr b10), 1, 1⟩ H84 fun l8 H85 =>
 jab (some (adr b2)) fun a31 =>
 St (a31.add 3) (slV l8) H85 fun H86 =>
 kk14 () H86) (
 kk14 () H12)) fun j14 H80 =>
 kk13 () H80)) fun j13 H77 =>
 kk12 () H77)) fun j12 H74 =>
 kk11 () H74)) fun j11 H69 =>
 kk10 () H69)) fun j10 H62 =>
 kk6 () H62)) fun j6 H47 =>
 kk5 () H47)) fun j5 H35 =>
 kk4 () H35)) fun j4 H25 =>
 kk1 () H25))) fun j1 H10 =>
 CallT Pg jeK [.pointer p_, .string (⟨#[59]⟩ : ByteArray)] (.one (.agg [(.int .i64), .str, (.int .i64)])) H10 fun (r31 : Int × ByteArray × Int) H87 =>
 k (some (adr b2)) H87))
def jfq : Hint := (hq (hq (hq (hq (hq (hq (hq (.two (hq (.join [] (.one (hq (hq (.two (hq (.join [(39, (.c .bool))] .no)) (.two (hq (.two (hq (.join [] .no)) .no)) (hq (.join [] (hq (hq (.join [] (hq (hq (.join [] (.two (hq (hq (hq (hq (.one (.loop [(7, (.c .bool))] (.two (.two (.join [(148, (.c .bool))] .no) .no) (.join [(7, (.c .bool))] (.one (hq (hq (hq (.join [] .no))))))))))))) (hq (.join [] (hq (hq (.join [] (hq (hq (.join [] (hq (hq (.join [] (hq (hq (.join [] .no)))))))))))))))))))))))))))))) .no))))))))
theorem cQc7 (p_ : Option Addr) {H : jaa} {k : Option Addr → jaa → Prop} (h : vQc7 p_ H k) : CallT Pg fQdi [.pointer p_] (.one (.c .ptr)) H k := cE jad jfq Tryz.func88 h
def vQc8  (H : jaa) (k : Sl → jaa → Prop) : Prop :=
 Nw #[.string (⟨#[124, 124]⟩ : ByteArray)] jcC H fun b1 H1 =>
 Nw #[.string (⟨#[38, 38]⟩ : ByteArray)] jcC H1 fun b2 H2 =>
 Nw #[.string (⟨#[61, 61]⟩ : ByteArray), .string (⟨#[33, 61]⟩ : ByteArray)] jcC H2 fun b3 H3 =>
 Nw #[.string (⟨#[60]⟩ : ByteArray), .string (⟨#[60, 61]⟩ : ByteArray), .string (⟨#[62]⟩ : ByteArray), .string (⟨#[62, 61]⟩ : ByteArray)] jcC H3 fun b4 H4 =>
 Nw #[.string (⟨#[43]⟩ : ByteArray), .string (⟨#[45]⟩ : ByteArray)] jcC H4 fun b5 H5 =>
 Nw #[.string (⟨#[42]⟩ : ByteArray), .string (⟨#[47]⟩ : ByteArray), .string (⟨#[37]⟩ : ByteArray)] jcC H5 fun b6 H6 =>
 Nw #[.slice (some (adr b1)) 1 1, .slice (some (adr b2)) 1 1, .slice (some (adr b3)) 2 2, .slice (some (adr b4)) 4 4, .slice (some (adr b5)) 2 2, .slice (some (adr b6)) 3 3] TQai H6 fun b7 H7 =>
 k ⟨some (adr b7), 6, 6⟩ H7
def jiP : Hint := .no
theorem cQc8  {H : jaa} {k : Sl → jaa → Prop} (h : vQc8  H k) : CallT Pg fQdj [] (.one (.c .sl)) H k := cE jad jiP Tryz.func100 h
def vQc9 (s_ : ByteArray) (H : jaa) (k : Bool → jaa → Prop) : Prop :=
 CallT Pg fQb5 [] (.one (.c .sl)) H fun (r1 : Sl) H1 =>
 LoopT (σ := Int) (fun next1 s1 H2 =>
 Br (decide (s1 < (r1.len : Int))) (
 IxA 1 r1 s1 fun a1 =>
 Ld .str a1 H2 fun (x1 : ByteArray) =>
 Br (x1.toList == s_.toList) (
 k true H2) (
 Lt (IntKind.wrap .i64 (s1 + 1)) fun t1 =>
 next1 t1 H2)) (
 k false H2)) 0 H1
def jhU : Hint := (hq (hq (.two (hq (.one (.loop [(4, (.c (.int .i64)))] .no))) .no)))
theorem cQc9 (s_ : ByteArray) {H : jaa} {k : Bool → jaa → Prop} (h : vQc9 s_ H k) : CallT Pg fQdk [.string s_] (.one (.c .bool)) H k := cE jad jhU Tryz.func119 h
def vQda (p_ : Option Addr) (H : jaa) (k : Unit → jaa → Prop) : Prop :=
 CallT Pg fQdq [.pointer p_] (.one (.c .bool)) H fun (r1 : Bool) H1 =>
 Jn (σ := Unit) (fun kk1 =>
 Br (!r1) (
 CallT Pg jjr [.pointer p_, .int .i64 100] (.tup []) H1 fun (r2 : Unit) H3 =>
 kk1 () H3) (
 kk1 () H1)) fun j1 H2 =>
 jab p_ fun a1 =>
 Ld (.int .i64) (a1.add 5) H2 fun (x1 : Int) =>
 Lt (IntKind.wrap .i64 (x1 + 1)) fun t1 =>
 jab p_ fun a2 =>
 St (a2.add 5) (.int .i64 t1) H2 fun H4 =>
 jab p_ fun a3 =>
 Ld (.int .i64) (a3.add 5) H4 fun (x2 : Int) =>
 Jn (σ := Unit) (fun kk2 =>
 Br (decide (x2 > 200)) (
 CallT Pg jjr [.pointer p_, .int .i64 102] (.tup []) H4 fun (r3 : Unit) H6 =>
 kk2 () H6) (
 kk2 () H4)) fun j2 H5 =>
 k () H5
def jeo : Hint := (hq (.two (hq (.join [] .no)) (hq (hq (.join [] .no)))))
theorem cQda (p_ : Option Addr) {H : jaa} {k : Unit → jaa → Prop} (h : vQda p_ H k) : CallT Pg fQdl [.pointer p_] (.tup []) H k := cE jad jeo Tryz.func120 h
def vQdb (p_ : Option Addr) (H : jaa) (k : Option Addr → jaa → Prop) : Prop :=
 CallT Pg jkG [.pointer p_] (.one (.agg [(.int .i64), .str, (.int .i64)])) H fun (r1 : Int × ByteArray × Int) H1 =>
 Nw #[.int .i64 0, .string ByteArray.empty, .int .i64 0] jbc H1 fun b1 H2 =>
 St ((adr b1).add 0) (.int .i64 r1.1) H2 fun H3 =>
 St ((adr b1).add 1) (.string r1.2.1) H3 fun H4 =>
 St ((adr b1).add 2) (.int .i64 r1.2.2) H4 fun H5 =>
 Ld .str ((adr b1).add 1) H5 fun (x1 : ByteArray) =>
 Ld (.int .i64) ((adr b1).add 2) H5 fun (x2 : Int) =>
 Nw #[.int .i64 11, .string x1, .int .i64 0, .slice none 0 0, .int .i64 x2] jho H5 fun b2 H6 =>
 CallT Pg jek [.pointer p_, .string (⟨#[46]⟩ : ByteArray)] (.one (.c .bool)) H6 fun (r2 : Bool) H7 =>
 Jn (σ := Unit) (fun kk1 =>
 Br r2 (
 CallT Pg jeF [.pointer p_] (.one (.agg [(.int .i64), .str, (.int .i64)])) H7 fun (r3 : Int × ByteArray × Int) H9 =>
 CallT Pg jkG [.pointer p_] (.one (.agg [(.int .i64), .str, (.int .i64)])) H9 fun (r4 : Int × ByteArray × Int) H10 =>
 Nw #[.int .i64 0, .string ByteArray.empty, .int .i64 0] jbc H10 fun b3 H11 =>
 St ((adr b3).add 0) (.int .i64 r4.1) H11 fun H12 =>
 St ((adr b3).add 1) (.string r4.2.1) H12 fun H13 =>
 St ((adr b3).add 2) (.int .i64 r4.2.2) H13 fun H14 =>
 jab (some (adr b2)) fun a1 =>
 St a1 (.int .i64 12) H14 fun H15 =>
 jab (some (adr b2)) fun a2 =>
 Ld .sl (a2.add 3) H15 fun (x3 : Sl) =>
 Ld .str ((adr b3).add 1) H15 fun (x4 : ByteArray) =>
 Ld (.int .i64) ((adr b3).add 2) H15 fun (x5 : Int) =>
 Nw #[.int .i64 31, .string x4, .int .i64 0, .slice none 0 0, .int .i64 x5] jho H15 fun b4 H16 =>
 Stab [((adr b3).add 2, .int .i64 x5), ((adr b3).add 1, .string x4), (a2.add 3, slV x3)] H16 <|
 Nw #[.pointer (some (adr b4))] jbJ H16 fun b5 H17 =>
 Stab [((adr b3).add 2, .int .i64 x5), ((adr b3).add 1, .string x4), (a2.add 3, slV x3)] H17 <|
 App jbJ 1 8 #[.pointer none] x3 ⟨some (adr b5), 1, 1⟩ H17 fun l1 H18 =>
 Stab [((adr b3).add 2, .int .i64 x5), ((adr b3).add 1, .string x4)] H18 <|
 jab (some (adr b2)) fun a3 =>
 St (a3.add 3) (slV l1) H18 fun H19 =>
 kk1 () H19) (
 kk1 () H7)) fun j1 H8 =>
 CallT Pg jeK [.pointer p_, .string (⟨#[61]⟩ : ByteArray)] (.one (.agg [(.int .i64), .str, (.int .i64)])) H8 fun (r5 : Int × ByteArray × Int) H20 =>
 jab (some (adr b2)) fun a4 =>
 Ld .sl (a4.add 3) H20 fun (x6 : Sl) =>
 CallT Pg jh7 [.pointer p_] (.one (.c .ptr)) H20 fun (r6 : Option Addr) H21 =>
 Stab [(a4.add 3, slV x6)] H21 <|
 Nw #[.pointer r6] jbJ H21 fun b6 H22 =>
 Stab [(a4.add 3, slV x6)] H22 <|
 App jbJ 1 8 #[.pointer none] x6 ⟨some (adr b6), 1, 1⟩ H22 fun l2 H23 =>
 jab (some (adr b2)) fun a5 =>
 St (a5.add 3) (slV l2) H23 fun H24 =>
 CallT Pg jeK [.pointer p_, .string (⟨#[59]⟩ : ByteArray)] (.one (.agg [(.int .i64), .str, (.int .i64)])) H24 fun (r7 : Int × ByteArray × Int) H25 =>
 k (some (adr b2)) H25
def jd5 : Hint := (hq (hq (hq (hq (.two (hq (.join [] .no)) .no)))))
theorem cQdb (p_ : Option Addr) {H : jaa} {k : Option Addr → jaa → Prop} (h : vQdb p_ H k) : CallT Pg fQdm [.pointer p_] (.one (.c .ptr)) H k := cE jad jd5 Tryz.func121 h
def vQdc (p_ : Option Addr) (H : jaa) (k : Option Addr → jaa → Prop) : Prop :=
 CallT Pg jeK [.pointer p_, .string (⟨#[105, 102]⟩ : ByteArray)] (.one (.agg [(.int .i64), .str, (.int .i64)])) H fun (r1 : Int × ByteArray × Int) H1 =>
 Nw #[.int .i64 13, .string ByteArray.empty, .int .i64 0, .slice none 0 0, .int .i64 r1.2.2] jho H1 fun b1 H2 =>
 jab (some (adr b1)) fun a1 =>
 Ld .sl (a1.add 3) H2 fun (x1 : Sl) =>
 CallT Pg jh7 [.pointer p_] (.one (.c .ptr)) H2 fun (r2 : Option Addr) H3 =>
 Stab [(a1.add 3, slV x1)] H3 <|
 Nw #[.pointer r2] jbJ H3 fun b2 H4 =>
 Stab [(a1.add 3, slV x1)] H4 <|
 App jbJ 1 8 #[.pointer none] x1 ⟨some (adr b2), 1, 1⟩ H4 fun l1 H5 =>
 jab (some (adr b1)) fun a2 =>
 St (a2.add 3) (slV l1) H5 fun H6 =>
 jab (some (adr b1)) fun a3 =>
 Ld .sl (a3.add 3) H6 fun (x2 : Sl) =>
 CallT Pg jly [.pointer p_] (.one (.c .ptr)) H6 fun (r3 : Option Addr) H7 =>
 Stab [(a3.add 3, slV x2)] H7 <|
 Nw #[.pointer r3] jbJ H7 fun b3 H8 =>
 Stab [(a3.add 3, slV x2)] H8 <|
 App jbJ 1 8 #[.pointer none] x2 ⟨some (adr b3), 1, 1⟩ H8 fun l2 H9 =>
 jab (some (adr b1)) fun a4 =>
 St (a4.add 3) (slV l2) H9 fun H10 =>
 CallT Pg jek [.pointer p_, .string (⟨#[101, 108, 115, 101]⟩ : ByteArray)] (.one (.c .bool)) H10 fun (r4 : Bool) H11 =>
 Br (!r4) (
 k (some (adr b1)) H11) (
 CallT Pg jeF [.pointer p_] (.one (.agg [(.int .i64), .str, (.int .i64)])) H11 fun (r5 : Int × ByteArray × Int) H12 =>
 CallT Pg jek [.pointer p_, .string (⟨#[105, 102]⟩ : ByteArray)] (.one (.c .bool)) H12 fun (r6 : Bool) H13 =>
 Jn (σ := Unit) (fun kk1 =>
 Br r6 (
 CallT Pg fQdl [.pointer p_] (.tup []) H13 fun (r7 : Unit) H15 =>
 jab (some (adr b1)) fun a5 =>
 Ld .sl (a5.add 3) H15 fun (x3 : Sl) =>
 CallT Pg fQdn [.pointer p_] (.one (.c .ptr)) H15 fun (r8 : Option Addr) H16 =>
 Stab [(a5.add 3, slV x3)] H16 <|
 Nw #[.pointer r8] jbJ H16 fun b4 H17 =>
 Stab [(a5.add 3, slV x3)] H17 <|
 App jbJ 1 8 #[.pointer none] x3 ⟨some (adr b4), 1, 1⟩ H17 fun l3 H18 =>
 jab (some (adr b1)) fun a6 =>
 St (a6.add 3) (slV l3) H18 fun H19 =>
 kk1 () H19) (
 jab (some (adr b1)) fun a7 =>
 Ld .sl (a7.add 3) H13 fun (x4 : Sl) =>
 CallT Pg jly [.pointer p_] (.one (.c .ptr)) H13 fun (r9 : Option Addr) H20 =>
 Stab [(a7.add 3, slV x4)] H20 <|
 Nw #[.pointer r9] jbJ H20 fun b5 H21 =>
 Stab [(a7.add 3, slV x4)] H21 <|
 App jbJ 1 8 #[.pointer none] x4 ⟨some (adr b5), 1, 1⟩ H21 fun l4 H22 =>
 jab (some (adr b1)) fun a8 =>
 St (a8.add 3) (slV l4) H22 fun H23 =>
 kk1 () H23)) fun j1 H14 =>
 k (some (adr b1)) H14)
def jdg : Hint := (hq (hq (hq (hq (hq (hq (hq (hq (.two (hq (.join [] .no)) .no)))))))))
theorem cQdc (p_ : Option Addr) {H : jaa} {k : Option Addr → jaa → Prop} (h : vQdc p_ H k) : CallT Pg fQdn [.pointer p_] (.one (.c .ptr)) H k := cE jad jdg Tryz.func122 h
def vQdd (p_ : Option Addr) (H : jaa) (k : Option Addr → jaa → Prop) : Prop :=
 CallT Pg fQdr [.pointer p_, .int .i64 0] (.one (.c .ptr)) H fun (r1 : Option Addr) H1 =>
 CallT Pg jek [.pointer p_, .string (⟨#[63]⟩ : ByteArray)] (.one (.c .bool)) H1 fun (r2 : Bool) H2 =>
 Br (!r2) (
 k r1 H2) (
 CallT Pg jmI [.pointer p_] (.tup []) H2 fun (r3 : Unit) H3 =>
 CallT Pg jeK [.pointer p_, .string (⟨#[63]⟩ : ByteArray)] (.one (.agg [(.int .i64), .str, (.int .i64)])) H3 fun (r4 : Int × ByteArray × Int) H4 =>
 Nw #[.int .i64 35, .string ByteArray.empty, .int .i64 0, .slice none 0 0, .int .i64 r4.2.2] jho H4 fun b1 H5 =>
 CallT Pg jh7 [.pointer p_] (.one (.c .ptr)) H5 fun (r5 : Option Addr) H6 =>
 CallT Pg jeK [.pointer p_, .string (⟨#[58]⟩ : ByteArray)] (.one (.agg [(.int .i64), .str, (.int .i64)])) H6 fun (r6 : Int × ByteArray × Int) H7 =>
 CallT Pg jh7 [.pointer p_] (.one (.c .ptr)) H7 fun (r7 : Option Addr) H8 =>
 jab p_ fun a1 =>
 Ld (.int .i64) (a1.add 4) H8 fun (x1 : Int) =>
 Lt (IntKind.wrap .i64 (x1 - 1)) fun t1 =>
 jab p_ fun a2 =>
 St (a2.add 4) (.int .i64 t1) H8 fun H9 =>
 Nw #[.pointer r1, .pointer r5, .pointer r7] jbJ H9 fun b2 H10 =>
 jab (some (adr b1)) fun a3 =>
 St (a3.add 3) (.slice (some (adr b2)) 3 3) H10 fun H11 =>
 k (some (adr b1)) H11)
def jfs : Hint := .no
theorem cQdd (p_ : Option Addr) {H : jaa} {k : Option Addr → jaa → Prop} (h : vQdd p_ H k) : CallT Pg jh7 [.pointer p_] (.one (.c .ptr)) H k := cE jad jfs Tryz.func123 h
def vQde (p_ : Option Addr) (H : jaa) (k : Option Addr → jaa → Prop) : Prop :=
 CallT Pg jkG [.pointer p_] (.one (.agg [(.int .i64), .str, (.int .i64)])) H fun (r1 : Int × ByteArray × Int) H1 =>
 Nw #[.int .i64 0, .string ByteArray.empty, .int .i64 0] jbc H1 fun b1 H2 =>
 St ((adr b1).add 0) (.int .i64 r1.1) H2 fun H3 =>
 St ((adr b1).add 1) (.string r1.2.1) H3 fun H4 =>
 St ((adr b1).add 2) (.int .i64 r1.2.2) H4 fun H5 =>
 Ld .str ((adr b1).add 1) H5 fun (x1 : ByteArray) =>
 Ld (.int .i64) ((adr b1).add 2) H5 fun (x2 : Int) =>
 Nw #[.int .i64 23, .string x1, .int .i64 0, .slice none 0 0, .int .i64 x2] jho H5 fun b2 H6 =>
 CallT Pg jek [.pointer p_, .string (⟨#[123]⟩ : ByteArray)] (.one (.c .bool)) H6 fun (r2 : Bool) H7 =>
 Jn (σ := Unit) (fun kk1 =>
 Br r2 (
 CallT Pg jmI [.pointer p_] (.tup []) H7 fun (r3 : Unit) H9 =>
 kk1 () H9) (
 kk1 () H7)) fun j1 H8 =>
 CallT Pg jeK [.pointer p_, .string (⟨#[123]⟩ : ByteArray)] (.one (.agg [(.int .i64), .str, (.int .i64)])) H8 fun (r4 : Int × ByteArray × Int) H10 =>
 CallT Pg jek [.pointer p_, .string (⟨#[125]⟩ : ByteArray)] (.one (.c .bool)) H10 fun (r5 : Bool) H11 =>
 LoopT (σ := Bool) (fun next1 s1 H12 =>
 Jn (σ := Bool) (fun kk2 =>
 Br s1 (
 CallT Pg jk6 [.pointer p_] (.one (.c .bool)) H12 fun (r6 : Bool) H14 =>
 kk2 r6 H14) (
 kk2 false H12)) fun j2 H13 =>
 Br j2 (
 Jn (σ := Bool) (fun kk3 =>
 CallT Pg jkG [.pointer p_] (.one (.agg [(.int .i64), .str, (.int .i64)])) H13 fun (r7 : Int × ByteArray × Int) H16 =>
 Nw #[.int .i64 0, .string ByteArray.empty, .int .i64 0] jbc H16 fun b3 H17 =>
 St ((adr b3).add 0) (.int .i64 r7.1) H17 fun H18 =>
 St ((adr b3).add 1) (.string r7.2.1) H18 fun H19 =>
 St ((adr b3).add 2) (.int .i64 r7.2.2) H19 fun H20 =>
 Ld .str ((adr b3).add 1) H20 fun (x3 : ByteArray) =>
 Ld (.int .i64) ((adr b3).add 2) H20 fun (x4 : Int) =>
 Nw #[.int .i64 24, .string x3, .int .i64 0, .slice none 0 0, .int .i64 x4] jho H20 fun b4 H21 =>
 CallT Pg jeK [.pointer p_, .string (⟨#[58]⟩ : ByteArray)] (.one (.agg [(.int .i64), .str, (.int .i64)])) H21 fun (r8 : Int × ByteArray × Int) H22 =>
 jab (some (adr b4)) fun a1 =>
 Ld .sl (a1.add 3) H22 fun (x5 : Sl) =>
 CallT Pg jh7 [.pointer p_] (.one (.c .ptr)) H22 fun (r9 : Option Addr) H23 =>
 Stab [(a1.add 3, slV x5)] H23 <|
 Nw #[.pointer r9] jbJ H23 fun b5 H24 =>
 Stab [(a1.add 3, slV x5)] H24 <|
 App jbJ 1 8 #[.pointer none] x5 ⟨some (adr b5), 1, 1⟩ H24 fun l1 H25 =>
 jab (some (adr b4)) fun a2 =>
 St (a2.add 3) (slV l1) H25 fun H26 =>
 jab (some (adr b2)) fun a3 =>
 Ld .sl (a3.add 3) H26 fun (x6 : Sl) =>
 Nw #[.pointer (some (adr b4))] jbJ H26 fun b6 H27 =>
 App jbJ 1 8 #[.pointer none] x6 ⟨some (adr b6), 1, 1⟩ H27 fun l2 H28 =>
 jab (some (adr b2)) fun a4 =>
 St (a4.add 3) (slV l2) H28 fun H29 =>
 CallT Pg jek [.pointer p_, .string (⟨#[44]⟩ : ByteArray)] (.one (.c .bool)) H29 fun (r10 : Bool) H30 =>
 Jn (σ := Unit) (fun kk4 =>
 Br r10 (
 CallT Pg jeF [.pointer p_] (.one (.agg [(.int .i64), .str, (.int .i64)])) H30 fun (r11 : Int × ByteArray × Int) H32 =>
 kk4 () H32) (
 kk4 () H30)) fun j4 H31 =>
 kk3 r10 H31) fun j3 H15 =>
 next1 j3 H15) (
 CallT Pg jeK [.pointer p_, .string (⟨#[125]⟩ : ByteArray)] (.one (.agg [(.int .i64), .str, (.int .i64)])) H13 fun (r12 : Int × ByteArray × Int) H33 =>
 jab p_ fun a5 =>
 Ld (.int .i64) (a5.add 4) H33 fun (x7 : Int) =>
 Lt (IntKind.wrap .i64 (x7 - 1)) fun t1 =>
 jab p_ fun a6 =>
 St (a6.add 4) (.int .i64 t1) H33 fun H34 =>
 k (some (adr b2)) H34)) (!r5) H11
def jfA : Hint := (hq (hq (hq (hq (.two (hq (.join [] .no)) (hq (hq (.two (hq (.one (.loop [(7, (.c .bool))] (.two (.two (.join [(33, (.c .bool))] .no) .no) (.join [(7, (.c .bool))] (.one (hq (hq (hq (hq (hq (hq (hq (.join [] .no)))))))))))))) .no))))))))
theorem cQde (p_ : Option Addr) {H : jaa} {k : Option Addr → jaa → Prop} (h : vQde p_ H k) : CallT Pg fQdp [.pointer p_] (.one (.c .ptr)) H k := cE jad jfA Tryz.func124 h
def vQdf (p_ : Option Addr) (H : jaa) (k : Bool → jaa → Prop) : Prop :=
 Nw #[.string (⟨#[108, 101, 116]⟩ : ByteArray), .string (⟨#[105, 102]⟩ : ByteArray), .string (⟨#[119, 104, 105, 108, 101]⟩ : ByteArray), .string (⟨#[114, 101, 112, 101, 97, 116]⟩ : ByteArray), .string (⟨#[101, 109, 105, 116]⟩ : ByteArray), .string (⟨#[115, 112, 97, 119, 110]⟩ : ByteArray), .string (⟨#[97, 100, 100]⟩ : ByteArray), .string (⟨#[114, 101, 109, 111, 118, 101]⟩ : ByteArray), .string (⟨#[100, 105, 101]⟩ : ByteArray), .string (⟨#[115, 116, 111, 112]⟩ : ByteArray), .string (⟨#[114, 101, 116, 117, 114, 110]⟩ : ByteArray)] jcC H fun b1 H1 =>
 LoopT (σ := Int) (fun next1 s1 H2 =>
 Br (decide (s1 < 11)) (
 IxA 1 ⟨some (adr b1), 11, 11⟩ s1 fun a1 =>
 Ld .str a1 H2 fun (x1 : ByteArray) =>
 CallT Pg jek [.pointer p_, .string x1] (.one (.c .bool)) H2 fun (r1 : Bool) H3 =>
 Br r1 (
 k true H3) (
 Lt (IntKind.wrap .i64 (s1 + 1)) fun t1 =>
 next1 t1 H3)) (
 CallT Pg fQdg [.pointer p_] (.one (.c .bool)) H2 fun (r2 : Bool) H4 =>
 k r2 H4)) 0 H1
def je3 : Hint := (hq (hq (.two (hq (.one (.loop [(4, (.c (.int .i64)))] .no))) .no)))
theorem cQdf (p_ : Option Addr) {H : jaa} {k : Bool → jaa → Prop} (h : vQdf p_ H k) : CallT Pg fQdq [.pointer p_] (.one (.c .bool)) H k := cE jad je3 Tryz.func146 h
def vQdg (p_ : Option Addr) (level_ : Int) (H : jaa) (k : Option Addr → jaa → Prop) : Prop :=
 Br (level_ == 6) (
 CallT Pg jnM [.pointer p_] (.one (.c .ptr)) H fun (r1 : Option Addr) H1 =>
 k r1 H1) (
 Lt (IntKind.wrap .i64 (level_ + 1)) fun t1 =>
 CallT Pg fQdr [.pointer p_, .int .i64 t1] (.one (.c .ptr)) H fun (r2 : Option Addr) H2 =>
 Jn (σ := Option Addr) (fun kk1 =>
 LoopT (σ := Option Addr) (fun next1 s1 H4 =>
 CallT Pg jk6 [.pointer p_] (.one (.c .bool)) H4 fun (r3 : Bool) H5 =>
 Br r3 (
 CallT Pg fQdj [] (.one (.c .sl)) H5 fun (r4 : Sl) H6 =>
 IxA 1 r4 level_ fun a1 =>
 Ld .sl a1 H6 fun (x1 : Sl) =>
 CallT Pg fQdt [.pointer p_, slV x1] (.one (.c .bool)) H6 fun (r5 : Bool) H7 =>
 Br (!r5) (
 kk1 s1 H7) (
 CallT Pg jeF [.pointer p_] (.one (.agg [(.int .i64), .str, (.int .i64)])) H7 fun (r6 : Int × ByteArray × Int) H8 =>
 Nw #[.int .i64 0, .string ByteArray.empty, .int .i64 0] jbc H8 fun b1 H9 =>
 St ((adr b1).add 0) (.int .i64 r6.1) H9 fun H10 =>
 St ((adr b1).add 1) (.string r6.2.1) H10 fun H11 =>
 St ((adr b1).add 2) (.int .i64 r6.2.2) H11 fun H12 =>
 Lt (IntKind.wrap .i64 (level_ + 1)) fun t2 =>
 CallT Pg fQdr [.pointer p_, .int .i64 t2] (.one (.c .ptr)) H12 fun (r7 : Option Addr) H13 =>
 Ld .str ((adr b1).add 1) H13 fun (x2 : ByteArray) =>
 Ld (.int .i64) ((adr b1).add 2) H13 fun (x3 : Int) =>
 Nw #[.pointer s1, .pointer r7] jbJ H13 fun b2 H14 =>
 Nw #[.int .i64 33, .string x2, .int .i64 0, .slice (some (adr b2)) 2 2, .int .i64 x3] jho H14 fun b3 H15 =>
 next1 (some (adr b3)) H15)) (
 kk1 s1 H5)) r2 H2) fun j1 H3 =>
 k j1 H3)
def jeM : Hint := (hq (hq (hq (.two (.join [(5, (.c .ptr))] (.one (.loop [(5, (.c .ptr))] .no))) .no))))
theorem cQdg (p_ : Option Addr) (level_ : Int) {H : jaa} {k : Option Addr → jaa → Prop} (h : vQdg p_ level_ H k) : CallT Pg fQdr [.pointer p_, .int .i64 level_] (.one (.c .ptr)) H k := cE jad jeM Tryz.func147 h
def vQdh (p_ : Option Addr) (H : jaa) (k : Option Addr → jaa → Prop) : Prop :=
 Nw #[.string (⟨#[45]⟩ : ByteArray), .string (⟨#[33]⟩ : ByteArray)] jcC H fun b1 H1 =>
 CallT Pg fQdt [.pointer p_, .slice (some (adr b1)) 2 2] (.one (.c .bool)) H1 fun (r1 : Bool) H2 =>
 Br (!r1) (
 CallT Pg fQdu [.pointer p_] (.one (.c .ptr)) H2 fun (r2 : Option Addr) H3 =>
 k r2 H3) (
 CallT Pg jmI [.pointer p_] (.tup []) H2 fun (r3 : Unit) H4 =>
 CallT Pg jeF [.pointer p_] (.one (.agg [(.int .i64), .str, (.int .i64)])) H4 fun (r4 : Int × ByteArray × Int) H5 =>
 Nw #[.int .i64 0, .string ByteArray.empty, .int .i64 0] jbc H5 fun b2 H6 =>
 St ((adr b2).add 0) (.int .i64 r4.1) H6 fun H7 =>
 St ((adr b2).add 1) (.string r4.2.1) H7 fun H8 =>
 St ((adr b2).add 2) (.int .i64 r4.2.2) H8 fun H9 =>
 Ld .str ((adr b2).add 1) H9 fun (x1 : ByteArray) =>
 Ld (.int .i64) ((adr b2).add 2) H9 fun (x2 : Int) =>
 CallT Pg jnM [.pointer p_] (.one (.c .ptr)) H9 fun (r5 : Option Addr) H10 =>
 Stab [((adr b2).add 2, .int .i64 x2), ((adr b2).add 1, .string x1)] H10 <|
 Nw #[.pointer r5] jbJ H10 fun b3 H11 =>
 Stab [((adr b2).add 2, .int .i64 x2), ((adr b2).add 1, .string x1)] H11 <|
 Nw #[.int .i64 34, .string x1, .int .i64 0, .slice (some (adr b3)) 1 1, .int .i64 x2] jho H11 fun b4 H12 =>
 Stab [((adr b2).add 2, .int .i64 x2), ((adr b2).add 1, .string x1)] H12 <|
 jab p_ fun a1 =>
 Ld (.int .i64) (a1.add 4) H12 fun (x3 : Int) =>
 Lt (IntKind.wrap .i64 (x3 - 1)) fun t1 =>
 jab p_ fun a2 =>
 St (a2.add 4) (.int .i64 t1) H12 fun H13 =>
 k (some (adr b4)) H13)
def je5 : Hint := .no
theorem cQdh (p_ : Option Addr) {H : jaa} {k : Option Addr → jaa → Prop} (h : vQdh p_ H k) : CallT Pg jnM [.pointer p_] (.one (.c .ptr)) H k := cE jad je5 Tryz.func172 h
def vQdi (p_ : Option Addr) (l_ : Sl) (H : jaa) (k : Bool → jaa → Prop) : Prop :=
 LoopT (σ := Int) (fun next1 s1 H1 =>
 Br (decide (s1 < (l_.len : Int))) (
 IxA 1 l_ s1 fun a1 =>
 Ld .str a1 H1 fun (x1 : ByteArray) =>
 CallT Pg jek [.pointer p_, .string x1] (.one (.c .bool)) H1 fun (r1 : Bool) H2 =>
 Br r1 (
 k true H2) (
 Lt (IntKind.wrap .i64 (s1 + 1)) fun t1 =>
 next1 t1 H2)) (
 k false H1)) 0 H
def jeS : Hint := (hq (.two (hq (.one (.loop [(5, (.c (.int .i64)))] .no))) .no))
theorem cQdi (p_ : Option Addr) (l_ : Sl) {H : jaa} {k : Bool → jaa → Prop} (h : vQdi p_ l_ H k) : CallT Pg fQdt [.pointer p_, slV l_] (.one (.c .bool)) H k := cE jad jeS Tryz.func173 h
def vQdj (p_ : Option Addr) (H : jaa) (k : Option Addr → jaa → Prop) : Prop :=
 jab p_ fun a1 =>
 Ld .sl a1 H fun (x1 : Sl) =>
 jab p_ fun a2 =>
 Ld (.int .i64) (a2.add 1) H fun (x2 : Int) =>
 IxA 3 x1 x2 fun a3 =>
 LdC [(.int .i64), .str, (.int .i64)] a3 H fun (c1 : Int × ByteArray × Int) =>
 Nw #[.int .i64 0, .string ByteArray.empty, .int .i64 0] jbc H fun b1 H1 =>
 Stab [(a3.add 0, .int .i64 c1.1), (a3.add 1, .string c1.2.1), (a3.add 2, .int .i64 c1.2.2), (a2.add 1, .int .i64 x2), (a1, slV x1)] H1 <|
 St ((adr b1).add 0) (.int .i64 c1.1) H1 fun H2 =>
 St ((adr b1).add 1) (.string c1.2.1) H2 fun H3 =>
 St ((adr b1).add 2) (.int .i64 c1.2.2) H3 fun H4 =>
 Ld (.int .i64) ((adr b1).add 2) H4 fun (x3 : Int) =>
 Nw #[.int .i64 0, .string ByteArray.empty, .int .i64 0, .slice none 0 0, .int .i64 x3] jho H4 fun b2 H5 =>
 CallT Pg fQdg [.pointer p_] (.one (.c .bool)) H5 fun (r1 : Bool) H6 =>
 Nw #[.string (⟨#[114, 97, 110, 100]⟩ : ByteArray), .string (⟨#[105, 110, 112, 117, 116]⟩ : ByteArray), .string (⟨#[109, 105, 110]⟩ : ByteArray), .string (⟨#[109, 97, 120]⟩ : ByteArray), .string (⟨#[97, 98, 115]⟩ : ByteArray)] jcC H6 fun b3 H7 =>
 CallT Pg fQdt [.pointer p_, .slice (some (adr b3)) 5 5] (.one (.c .bool)) H7 fun (r2 : Bool) H8 =>
 Nw #[.string (⟨#[116, 105, 99, 107]⟩ : ByteArray), .string (⟨#[109, 101]⟩ : ByteArray)] jcC H8 fun b4 H9 =>
 CallT Pg fQdt [.pointer p_, .slice (some (adr b4)) 2 2] (.one (.c .bool)) H9 fun (r3 : Bool) H10 =>
 CallT Pg jek [.pointer p_, .string (⟨#[104, 97, 115]⟩ : ByteArray)] (.one (.c .bool)) H10 fun (r4 : Bool) H11 =>
 CallT Pg jek [.pointer p_, .string (⟨#[40]⟩ : ByteArray)] (.one (.c .bool)) H11 fun (r5 : Bool) H12 =>
 Jn (σ := Option Addr) (fun kk1 =>
 CallT Pg jk6 [.pointer p_] (.one (.c .bool)) H12 fun (r6 : Bool) H14 =>
 Jn (σ := Option Addr) (fun kk2 =>
 Br (!r6) (
 kk2 (some (adr b2)) H14) (
 Ld (.int .i64) (adr b1) H14 fun (x4 : Int) =>
 Jn (σ := Option Addr) (fun kk3 =>
 Br (x4 == 2) (
 CallT Pg jeF [.pointer p_] (.one (.agg [(.int .i64), .str, (.int .i64)])) H14 fun (r7 : Int × ByteArray × Int) H17 =>
 jab (some (adr b2)) fun a4 =>
 St a4 (.int .i64 30) H17 fun H18 =>
 Ld .str ((adr b1).add 1) H18 fun (x5 : ByteArray) =>
 CallT Pg fQdv [.string x5] (.one (.c (.int .i64))) H18 fun (r8 : Int) H19 =>
 jab (some (adr b2)) fun a5 =>
 St (a5.add 2) (.int .i64 r8) H19 fun H20 =>
 kk3 (some (adr b2)) H20) (
 Br r1 (
 CallT Pg jeF [.pointer p_] (.one (.agg [(.int .i64), .str, (.int .i64)])) H14 fun (r9 : Int × ByteArray × Int) H21 =>
 LdC [(.int .i64), .str, (.int .i64)] (adr b1) H21 fun (c2 : Int × ByteArray × Int) =>
 CallT Pg fQdw [.pointer p_, .agg #[.int .i64 c2.1, .string c2.2.1, .int .i64 c2.2.2]] (.one (.c .ptr)) H21 fun (r10 : Option Addr) H22 =>
 k r10 H22) (
 Jn (σ := Option Addr) (fun kk4 =>
 Br r2 (
 CallT Pg jeF [.pointer p_] (.one (.agg [(.int .i64), .str, (.int .i64)])) H14 fun (r11 : Int × ByteArray × Int) H24 =>
 jab (some (adr b2)) fun a6 =>
 St a6 (.int .i64 36) H24 fun H25 =>
 Ld .str ((adr b1).add 1) H25 fun (x6 : ByteArray) =>
 jab (some (adr b2)) fun a7 =>
 St (a7.add 1) (.string x6) H25 fun H26 =>
 CallT Pg fQdx [.pointer p_, .pointer (some (adr b2))] (.tup []) H26 fun (r12 : Unit) H27 =>
 kk4 (some (adr b2)) H27) (
 Jn (σ := Option Addr) (fun kk5 =>
 Br r3 (
 CallT Pg jeF [.pointer p_] (.one (.agg [(.int .i64), .str, (.int .i64)])) H14 fun (r13 : Int × ByteArray × Int) H29 =>
 jab (some (adr b2)) fun a8 =>
 St a8 (.int .i64 38) H29 fun H30 =>
 Ld .str ((adr b1).add 1) H30 fun (x7 : ByteArray) =>
 jab (some (adr b2)) fun a9 =>
 St (a9.add 1) (.string x7) H30 fun H31 =>
 kk5 (some (adr b2)) H31) (
 Jn (σ := Option Addr) (fun kk6 =>
 Br r4 (
 CallT Pg jeF [.pointer p_] (.one (.agg [(.int .i64), .str, (.int .i64)])) H14 fun (r14 : Int × ByteArray × Int) H33 =>
 jab (some (adr b2)) fun a10 =>
 St a10 (.int .i64 37) H33 fun H34 =>
 CallT Pg jeK [.pointer p_, .string (⟨#[40]⟩ : ByteArray)] (.one (.agg [(.int .i64), .str, (.int .i64)])) H34 fun (r15 : Int × ByteArray × Int) H35 =>
 CallT Pg jkG [.pointer p_] (.one (.agg [(.int .i64), .str, (.int .i64)])) H35 fun (r16 : Int × ByteArray × Int) H36 =>
 jab (some (adr b2)) fun a11 =>
 St (a11.add 1) (.string r16.2.1) H36 fun H37 =>
 CallT Pg jeK [.pointer p_, .string (⟨#[41]⟩ : ByteArray)] (.one (.agg [(.int .i64), .str, (.int .i64)])) H37 fun (r17 : Int × ByteArray × Int) H38 =>
 kk6 (some (adr b2)) H38) (
 Jn (σ := Option Addr) (fun kk7 =>
 Br r5 (
 CallT Pg jmI [.pointer p_] (.tup []) H14 fun (r18 : Unit) H40 =>
 CallT Pg jeF [.pointer p_] (.one (.agg [(.int .i64), .str, (.int .i64)])) H40 fun (r19 : Int × ByteArray × Int) H41 =>
 CallT Pg jh7 [.pointer p_] (.one (.c .ptr)) H41 fun (r20 : Option Addr) H42 =>
 CallT Pg jeK [.pointer p_, .string (⟨#[41]⟩ : ByteArray)] (.one (.agg [(.int .i64), .str, (.int .i64)])) H42 fun (r21 : Int × ByteArray × Int) H43 =>
 jab p_ fun a12 =>
 Ld (.int .i64) (a12.add 4) H43 fun (x8 : Int) =>
 Lt (IntKind.wrap .i64 (x8 - 1)) fun t1 =>
 jab p_ fun a13 =>
 St (a13.add 4) (.int .i64 t1) H43 fun H44 =>
 kk7 r20 H44) (
 CallT Pg jjr [.pointer p_, .int .i64 100] (.tup []) H14 fun (r22 : Unit) H45 =>
 kk7 (some (adr b2)) H45)) fun j7 H39 =>
 kk6 j7 H39)) fun j6 H32 =>
 kk5 j6 H32)) fun j5 H28 =>
 kk4 j5 H28)) fun j4 H23 =>
 kk3 j4 H23))) fun j3 H16 =>
 kk2 j3 H16)) fun j2 H15 =>
 kk1 j2 H15) fun j1 H13 =>
 k j1 H13
def jeh : Hint := (hq (hq (hq (hq (hq (hq (hq (hq (.two (.join [(4, (.c .ptr))] (.one (hq (.join [(4, (.c .ptr))] (hq (hq (.join [(4, (.c .ptr))] (hq (hq (hq (hq (.join [(4, (.c .ptr))] (hq (hq (.join [(4, (.c .ptr))] (hq (hq (.join [(4, (.c .ptr))] (hq (hq (.join [(4, (.c .ptr))] .no))))))))))))))))))))) .no)))))))))
theorem cQdj (p_ : Option Addr) {H : jaa} {k : Option Addr → jaa → Prop} (h : vQdj p_ H k) : CallT Pg fQdu [.pointer p_] (.one (.c .ptr)) H k := cE jad jeh Tryz.func190 h
def vQdk (s_ : ByteArray) (H : jaa) (k : Int → jaa → Prop) : Prop :=
 LoopT (σ := Int × Int) (fun next1 s1 H1 =>
 Br (decide (s1.2 < (s_.size : Int))) (
 Lt (IntKind.wrap .i64 (10 * s1.1)) fun t1 =>
 jeB s_ s1.2 fun b1 =>
 Lt (IntKind.wrap .u8 (b1 - 48)) fun t2 =>
 Lt (IntKind.wrap .i64 (t1 + (IntKind.wrap .i64 t2))) fun t3 =>
 Lt (IntKind.wrap .i64 (s1.2 + 1)) fun t4 =>
 next1 (t3, t4) H1) (
 k s1.1 H1)) (0, 0) H
def jiJ : Hint := (hq (hq (.two (hq (.one (.loop [(3, (.c (.int .i64))), (4, (.c (.int .i64)))] .no))) .no)))
theorem cQdk (s_ : ByteArray) {H : jaa} {k : Int → jaa → Prop} (h : vQdk s_ H k) : CallT Pg fQdv [.string s_] (.one (.c (.int .i64))) H k := cE jad jiJ Tryz.func196 h
def vQdl (p_ : Option Addr) (t_ : Int × ByteArray × Int) (H : jaa) (k : Option Addr → jaa → Prop) : Prop :=
 Nw #[.int .i64 t_.1, .string t_.2.1, .int .i64 t_.2.2] jbc H fun b1 H1 =>
 Ld .str ((adr b1).add 1) H1 fun (x1 : ByteArray) =>
 Ld (.int .i64) ((adr b1).add 2) H1 fun (x2 : Int) =>
 Nw #[.int .i64 31, .string x1, .int .i64 0, .slice none 0 0, .int .i64 x2] jho H1 fun b2 H2 =>
 CallT Pg jek [.pointer p_, .string (⟨#[46]⟩ : ByteArray)] (.one (.c .bool)) H2 fun (r1 : Bool) H3 =>
 CallT Pg jek [.pointer p_, .string (⟨#[40]⟩ : ByteArray)] (.one (.c .bool)) H3 fun (r2 : Bool) H4 =>
 Jn (σ := Unit) (fun kk1 =>
 Br r1 (
 CallT Pg jeF [.pointer p_] (.one (.agg [(.int .i64), .str, (.int .i64)])) H4 fun (r3 : Int × ByteArray × Int) H6 =>
 CallT Pg jkG [.pointer p_] (.one (.agg [(.int .i64), .str, (.int .i64)])) H6 fun (r4 : Int × ByteArray × Int) H7 =>
 Nw #[.int .i64 0, .string ByteArray.empty, .int .i64 0] jbc H7 fun b3 H8 =>
 St ((adr b3).add 0) (.int .i64 r4.1) H8 fun H9 =>
 St ((adr b3).add 1) (.string r4.2.1) H9 fun H10 =>
 St ((adr b3).add 2) (.int .i64 r4.2.2) H10 fun H11 =>
 jab (some (adr b2)) fun a1 =>
 St a1 (.int .i64 32) H11 fun H12 =>
 Ld .str ((adr b3).add 1) H12 fun (x3 : ByteArray) =>
 Ld (.int .i64) ((adr b3).add 2) H12 fun (x4 : Int) =>
 Nw #[.int .i64 31, .string x3, .int .i64 0, .slice none 0 0, .int .i64 x4] jho H12 fun b4 H13 =>
 Nw #[.pointer (some (adr b4))] jbJ H13 fun b5 H14 =>
 jab (some (adr b2)) fun a2 =>
 St (a2.add 3) (.slice (some (adr b5)) 1 1) H14 fun H15 =>
 kk1 () H15) (
 kk1 () H4)) fun j1 H5 =>
 Jn (σ := Unit) (fun kk2 =>
 Br r2 (
 jab (some (adr b2)) fun a3 =>
 St a3 (.int .i64 36) H5 fun H17 =>
 CallT Pg fQdx [.pointer p_, .pointer (some (adr b2))] (.tup []) H17 fun (r5 : Unit) H18 =>
 kk2 () H18) (
 kk2 () H5)) fun j2 H16 =>
 k (some (adr b2)) H16
def je2 : Hint := (hq (hq (hq (hq (.two (hq (.join [] .no)) (.two (hq (.join [] .no)) .no))))))
theorem cQdl (p_ : Option Addr) (t_ : Int × ByteArray × Int) {H : jaa} {k : Option Addr → jaa → Prop} (h : vQdl p_ t_ H k) : CallT Pg fQdw [.pointer p_, .agg #[.int .i64 t_.1, .string t_.2.1, .int .i64 t_.2.2]] (.one (.c .ptr)) H k := cE jad je2 Tryz.func197 h
def vQdm (p_ : Option Addr) (n_ : Option Addr) (H : jaa) (k : Unit → jaa → Prop) : Prop :=
 CallT Pg jek [.pointer p_, .string (⟨#[40]⟩ : ByteArray)] (.one (.c .bool)) H fun (r1 : Bool) H1 =>
 Jn (σ := Unit) (fun kk1 =>
 Br r1 (
 CallT Pg jmI [.pointer p_] (.tup []) H1 fun (r2 : Unit) H3 =>
 kk1 () H3) (
 kk1 () H1)) fun j1 H2 =>
 CallT Pg jeK [.pointer p_, .string (⟨#[40]⟩ : ByteArray)] (.one (.agg [(.int .i64), .str, (.int .i64)])) H2 fun (r3 : Int × ByteArray × Int) H4 =>
 CallT Pg jek [.pointer p_, .string (⟨#[41]⟩ : ByteArray)] (.one (.c .bool)) H4 fun (r4 : Bool) H5 =>
 LoopT (σ := Bool) (fun next1 s1 H6 =>
 Jn (σ := Bool) (fun kk2 =>
 Br s1 (
 CallT Pg jk6 [.pointer p_] (.one (.c .bool)) H6 fun (r5 : Bool) H8 =>
 kk2 r5 H8) (
 kk2 false H6)) fun j2 H7 =>
 Br j2 (
 Jn (σ := Bool) (fun kk3 =>
 jab n_ fun a1 =>
 Ld .sl (a1.add 3) H7 fun (x1 : Sl) =>
 CallT Pg jh7 [.pointer p_] (.one (.c .ptr)) H7 fun (r6 : Option Addr) H10 =>
 Stab [(a1.add 3, slV x1)] H10 <|
 Nw #[.pointer r6] jbJ H10 fun b1 H11 =>
 Stab [(a1.add 3, slV x1)] H11 <|
 App jbJ 1 8 #[.pointer none] x1 ⟨some (adr b1), 1, 1⟩ H11 fun l1 H12 =>
 jab n_ fun a2 =>
 St (a2.add 3) (slV l1) H12 fun H13 =>
 CallT Pg jek [.pointer p_, .string (⟨#[44]⟩ : ByteArray)] (.one (.c .bool)) H13 fun (r7 : Bool) H14 =>
 Jn (σ := Unit) (fun kk4 =>
 Br r7 (
 CallT Pg jeF [.pointer p_] (.one (.agg [(.int .i64), .str, (.int .i64)])) H14 fun (r8 : Int × ByteArray × Int) H16 =>
 kk4 () H16) (
 kk4 () H14)) fun j4 H15 =>
 kk3 r7 H15) fun j3 H9 =>
 next1 j3 H9) (
 CallT Pg jeK [.pointer p_, .string (⟨#[41]⟩ : ByteArray)] (.one (.agg [(.int .i64), .str, (.int .i64)])) H7 fun (r9 : Int × ByteArray × Int) H17 =>
 jab p_ fun a3 =>
 Ld (.int .i64) (a3.add 4) H17 fun (x2 : Int) =>
 Lt (IntKind.wrap .i64 (x2 - 1)) fun t1 =>
 jab p_ fun a4 =>
 St (a4.add 4) (.int .i64 t1) H17 fun H18 =>
 k () H18)) (!r4) H5
def jfy : Hint := (hq (.two (hq (.join [] .no)) (hq (hq (.two (hq (.one (.loop [(6, (.c .bool))] (.two (.two (.join [(22, (.c .bool))] .no) .no) (.join [(6, (.c .bool))] (.one (hq (hq (hq (.join [] .no)))))))))) .no)))))
theorem cQdm (p_ : Option Addr) (n_ : Option Addr) {H : jaa} {k : Unit → jaa → Prop} (h : vQdm p_ n_ H k) : CallT Pg fQdx [.pointer p_, .pointer n_] (.tup []) H k := cE jad jfy Tryz.func198 h
end
section
open Hc
abbrev TQar : TypeId := 49
abbrev fQdy : FuncId := 11
abbrev fQdz : FuncId := 12
abbrev fQd0 : FuncId := 31
def vQdn (a_ : Option Addr) (b_ : Option Addr) (H : jaa) (k : Bool → jaa → Prop) : Prop :=
 Jn (σ := Bool) (fun kk1 =>
 Br a_.isNone (
 kk1 true H) (
 kk1 b_.isNone H)) fun j1 H1 =>
 Br j1 (
 Jn (σ := Bool) (fun kk2 =>
 Br a_.isNone (
 kk2 b_.isNone H1) (
 kk2 false H1)) fun j2 H2 =>
 k j2 H2) (
 Jn (σ := Bool) (fun kk3 =>
 jab a_ fun a1 =>
 Ld (.int .i64) a1 H1 fun (x1 : Int) =>
 jab b_ fun a2 =>
 Ld (.int .i64) a2 H1 fun (x2 : Int) =>
 Br (x1 != x2) (
 kk3 true H1) (
 jab a_ fun a3 =>
 Ld .str (a3.add 1) H1 fun (x3 : ByteArray) =>
 jab b_ fun a4 =>
 Ld .str (a4.add 1) H1 fun (x4 : ByteArray) =>
 Br (!(x3.toList == x4.toList)) (
 kk3 true H1) (
 jab a_ fun a5 =>
 Ld (.int .i64) (a5.add 2) H1 fun (x5 : Int) =>
 jab b_ fun a6 =>
 Ld (.int .i64) (a6.add 2) H1 fun (x6 : Int) =>
 Br (x5 != x6) (
 kk3 true H1) (
 jab a_ fun a7 =>
 Ld (.int .i64) (a7.add 4) H1 fun (x7 : Int) =>
 jab b_ fun a8 =>
 Ld (.int .i64) (a8.add 4) H1 fun (x8 : Int) =>
 Br (x7 != x8) (
 kk3 true H1) (
 jab a_ fun a9 =>
 Ld .sl (a9.add 3) H1 fun (x9 : Sl) =>
 jab b_ fun a10 =>
 Ld .sl (a10.add 3) H1 fun (x10 : Sl) =>
 kk3 ((x9.len : Int) != (x10.len : Int)) H1))))) fun j3 H3 =>
 Br j3 (
 k false H3) (
 LoopT (σ := Int) (fun next1 s1 H4 =>
 jab a_ fun a11 =>
 Ld .sl (a11.add 3) H4 fun (x11 : Sl) =>
 Br (decide (s1 < (x11.len : Int))) (
 jab a_ fun a12 =>
 Ld .sl (a12.add 3) H4 fun (x12 : Sl) =>
 IxA 1 x12 s1 fun a13 =>
 Ld .ptr a13 H4 fun (x13 : Option Addr) =>
 jab b_ fun a14 =>
 Ld .sl (a14.add 3) H4 fun (x14 : Sl) =>
 IxA 1 x14 s1 fun a15 =>
 Ld .ptr a15 H4 fun (x15 : Option Addr) =>
 CallT Pg fQdy [.pointer x13, .pointer x15] (.one (.c .bool)) H4 fun (r1 : Bool) H5 =>
 Stab [(a14.add 3, slV x14), (a12.add 3, slV x12)] H5 <|
 Br (!r1) (
 k false H5) (
 Lt (IntKind.wrap .i64 (s1 + 1)) fun t1 =>
 next1 t1 H5)) (
 k true H4)) 0 H3))
def jl2 : Hint := (hq (.two (.two (.join [(12, (.c .bool))] .no) (.two (.two (.join [(4, (.c .bool))] .no) .no) .no)) (.two (.two (.join [(73, (.c .bool))] .no) .no) (.two (hq (.one (.loop [(5, (.c (.int .i64)))] .no))) .no))))
theorem cQdn (a_ : Option Addr) (b_ : Option Addr) {H : jaa} {k : Bool → jaa → Prop} (h : vQdn a_ b_ H k) : CallT Pg fQdy [.pointer a_, .pointer b_] (.one (.c .bool)) H k := cE jad jl2 Tryz.func11 h
def vQdo (n_ : Option Addr) (l_ : Sl) (H : jaa) (k : Sl → jaa → Prop) : Prop :=
 Br n_.isNone (
 k l_ H) (
 jab n_ fun a1 =>
 Ld .sl (a1.add 3) H fun (x1 : Sl) =>
 Nw #[slV x1] TQar H fun b1 H1 =>
 App TQar 1 24 #[.slice none 0 0] l_ ⟨some (adr b1), 1, 1⟩ H1 fun l1 H2 =>
 LoopT (σ := Sl × Int) (fun next1 s1 H3 =>
 jab n_ fun a2 =>
 Ld .sl (a2.add 3) H3 fun (x2 : Sl) =>
 Br (decide (s1.2 < (x2.len : Int))) (
 jab n_ fun a3 =>
 Ld .sl (a3.add 3) H3 fun (x3 : Sl) =>
 IxA 1 x3 s1.2 fun a4 =>
 Ld .ptr a4 H3 fun (x4 : Option Addr) =>
 CallT Pg fQd0 [.pointer x4, slV s1.1] (.one (.c .sl)) H3 fun (r1 : Sl) H4 =>
 Lt (IntKind.wrap .i64 (s1.2 + 1)) fun t1 =>
 next1 (r1, t1) H4) (
 k s1.1 H3)) (l1, 0) H2)
def jjg : Hint := (hq (hq (hq (.two (hq (.one (.loop [(1, (.c .sl)), (5, (.c (.int .i64)))] .no))) .no))))
theorem cQdo (n_ : Option Addr) (l_ : Sl) {H : jaa} {k : Sl → jaa → Prop} (h : vQdo n_ l_ H k) : CallT Pg fQd0 [.pointer n_, slV l_] (.one (.c .sl)) H k := cE jad jjg Tryz.func31 h
def vQdp (n_ : Option Addr) (H : jaa) (k : Bool → jaa → Prop) : Prop :=
 CallT Pg fQd0 [.pointer n_, .slice none 0 0] (.one (.c .sl)) H fun (r1 : Sl) H1 =>
 Jn (σ := Sl) (fun kk1 =>
 Br (!n_.isNone) (
 Nw #[.pointer n_] jbl H1 fun b1 H3 =>
 App jbl 1 8 #[.pointer none] ⟨none, 0, 0⟩ ⟨some (adr b1), 1, 1⟩ H3 fun l1 H4 =>
 kk1 l1 H4) (
 kk1 ⟨none, 0, 0⟩ H1)) fun j1 H2 =>
 LoopT (σ := Sl × Int) (fun next1 s1 H5 =>
 Br (decide (s1.2 < (r1.len : Int))) (
 IxA 1 r1 s1.2 fun a1 =>
 Ld .sl a1 H5 fun (x1 : Sl) =>
 App jbl 1 8 #[.pointer none] s1.1 x1 H5 fun l2 H6 =>
 Lt (IntKind.wrap .i64 (s1.2 + 1)) fun t1 =>
 next1 (l2, t1) H6) (
 LoopT (σ := Int) (fun next2 s2 H7 =>
 Br (decide (s2 < (r1.len : Int))) (
 Nw #[.int .i64 0, .string ByteArray.empty, .int .i64 s2, .slice none 0 0, .int .i64 0] jh8 H7 fun b2 H8 =>
 LoopT (σ := Int) (fun next3 s3 H9 =>
 IxA 1 r1 s2 fun a2 =>
 Ld .sl a2 H9 fun (x2 : Sl) =>
 Br (decide (s3 < (x2.len : Int))) (
 IxA 1 r1 s2 fun a3 =>
 Ld .sl a3 H9 fun (x3 : Sl) =>
 IxA 1 x3 s3 fun a4 =>
 St a4 (.pointer (some (adr b2))) H9 fun H10 =>
 Lt (IntKind.wrap .i64 (s3 + 1)) fun t2 =>
 next3 t2 H10) (
 Lt (IntKind.wrap .i64 (s2 + 1)) fun t3 =>
 next2 t3 H9)) 0 H8) (
 LoopT (σ := Sl × Int) (fun next4 s4 H11 =>
 Br (decide (s4.2 < (r1.len : Int))) (
 IxA 1 s4.1 s4.2 fun a5 =>
 Ld .sl a5 H11 fun (x4 : Sl) =>
 LoopT (σ := Sl × Int) (fun next5 s5 H12 =>
 Br (decide (s5.2 < 20)) (
 Nw #[.int .i64 0, .string ByteArray.empty, .int .i64 s4.2, .slice none 0 0, .int .i64 0] jh8 H12 fun b3 H13 =>
 Nw #[.pointer (some (adr b3))] jbl H13 fun b4 H14 =>
 App jbl 1 8 #[.pointer none] s5.1 ⟨some (adr b4), 1, 1⟩ H14 fun l3 H15 =>
 Lt (IntKind.wrap .i64 (s5.2 + 1)) fun t4 =>
 next5 (l3, t4) H15) (
 Nw #[slV s5.1] TQar H12 fun b5 H16 =>
 App TQar 1 24 #[.slice none 0 0] s4.1 ⟨some (adr b5), 1, 1⟩ H16 fun l4 H17 =>
 Lt (IntKind.wrap .i64 (s4.2 + 1)) fun t5 =>
 next4 (l4, t5) H17)) (x4, 0) H11) (
 LoopT (σ := Int) (fun next6 s6 H18 =>
 Br (decide (s6 < (s4.1.len : Int))) (
 LoopT (σ := Int) (fun next7 s7 H19 =>
 IxA 1 s4.1 s6 fun a6 =>
 Ld .sl a6 H19 fun (x5 : Sl) =>
 Br (decide (s7 < (x5.len : Int))) (
 Jn (σ := Bool) (fun kk2 =>
 IxA 1 s4.1 s6 fun a7 =>
 Ld .sl a7 H19 fun (x6 : Sl) =>
 IxA 1 x6 s7 fun a8 =>
 Ld .ptr a8 H19 fun (x7 : Option Addr) =>
 Br x7.isNone (
 kk2 true H19) (
 IxA 1 s4.1 s6 fun a9 =>
 Ld .sl a9 H19 fun (x8 : Sl) =>
 IxA 1 x8 s7 fun a10 =>
 Ld .ptr a10 H19 fun (x9 : Option Addr) =>
 jab x9 fun a11 =>
 Ld (.int .i64) (a11.add 2) H19 fun (x10 : Int) =>
 Rem s6 (r1.len : Int) fun t6 =>
 kk2 (x10 != t6) H19)) fun j2 H20 =>
 Br j2 (
 k false H20) (
 Lt (IntKind.wrap .i64 (s7 + 1)) fun t7 =>
 next7 t7 H20)) (
 Lt (IntKind.wrap .i64 (s6 + 1)) fun t8 =>
 next6 t8 H19)) 0 H18) (
 LoopT (σ := Int) (fun next8 s8 H21 =>
 Br (decide (s8 < (s1.1.len : Int))) (
 IxA 1 s1.1 s8 fun a12 =>
 Ld .ptr a12 H21 fun (x11 : Option Addr) =>
 jab x11 fun a13 =>
 St a13 (.int .i64 (-7)) H21 fun H22 =>
 IxA 1 s1.1 s8 fun a14 =>
 Ld .ptr a14 H22 fun (x12 : Option Addr) =>
 jab x12 fun a15 =>
 St (a15.add 1) (.string (⟨#[109, 105, 110, 101]⟩ : ByteArray)) H22 fun H23 =>
 IxA 1 s1.1 s8 fun a16 =>
 Ld .ptr a16 H23 fun (x13 : Option Addr) =>
 jab x13 fun a17 =>
 St (a17.add 4) (.int .i64 (-7)) H23 fun H24 =>
 Lt (IntKind.wrap .i64 (s8 + 1)) fun t9 =>
 next8 t9 H24) (
 k true H21)) 0 H18)) 0 H11)) (r1, 0) H7)) 0 H5)) (j1, 0) H2
def jjl : Hint := (hq (hq (hq (.two (hq (.join [(4, (.c .sl))] .no)) (.two (hq (.one (.loop [(4, (.c .sl)), (5, (.c (.int .i64)))] .no))) (hq (.two (hq (.one (.loop [(7, (.c (.int .i64)))] (hq (.two (.one (hq (hq (.one (.loop [(9, (.c (.int .i64)))] .no))))) .no))))) (.two (hq (.one (.loop [(3, (.c .sl)), (10, (.c (.int .i64)))] (hq (.two (.one (hq (.two (hq (.one (.loop [(11, (.c .sl)), (12, (.c (.int .i64)))] .no))) .no))) .no))))) (.two (hq (.one (.loop [(13, (.c (.int .i64)))] (hq (.two (.one (hq (.one (.loop [(14, (.c (.int .i64)))] (hq (.two (.one (.two (.join [(123, (.c .bool))] .no) .no)) .no)))))) .no))))) (.two (hq (.one (.loop [(15, (.c (.int .i64)))] .no))) .no))))))))))
theorem cQdp (n_ : Option Addr) {H : jaa} {k : Bool → jaa → Prop} (h : vQdp n_ H k) : CallT Pg fQdz [.pointer n_] (.one (.c .bool)) H k := cE jad jjl Tryz.func12 h
end
section
open Hc
abbrev fQd1 : FuncId := 3
def vQdq (src_ : ByteArray) (more_ : ByteArray) (H : jaa) (k : Bool → jaa → Prop) : Prop :=
 CallT Pg fQb7 [] (.one (.c .bool)) H fun (r1 : Bool) H1 =>
 Br (!r1) (
 k false H1) (
 CallT Pg fQb8 [.string src_] (.tup [(.c .ptr), (.c .raw)]) H1 fun (r2 : Option Addr × Value) H2 =>
 CallT Pg fQc5 [.string src_] (.tup [(.c .ptr), (.c (.int .i64)), (.c (.int .i64))]) H2 fun (r3 : Option Addr × Int × Int) H3 =>
 CallT Pg jnr [r2.2] (.tup [(.c (.int .i64)), (.c (.int .i64)), (.c .bool)]) H3 fun (r4 : Int × Int × Bool) H4 =>
 CallT Pg fQb8 [.string more_] (.tup [(.c .ptr), (.c .raw)]) H4 fun (r5 : Option Addr × Value) H5 =>
 CallT Pg fQc5 [.string more_] (.tup [(.c .ptr), (.c (.int .i64)), (.c (.int .i64))]) H5 fun (r6 : Option Addr × Int × Int) H6 =>
 CallT Pg fQb8 [.string src_] (.tup [(.c .ptr), (.c .raw)]) H6 fun (r7 : Option Addr × Value) H7 =>
 CallT Pg fQdy [.pointer r2.1, .pointer r3.1] (.one (.c .bool)) H7 fun (r8 : Bool) H8 =>
 CallT Pg fQdy [.pointer r5.1, .pointer r6.1] (.one (.c .bool)) H8 fun (r9 : Bool) H9 =>
 CallT Pg jnr [r5.2] (.tup [(.c (.int .i64)), (.c (.int .i64)), (.c .bool)]) H9 fun (r10 : Int × Int × Bool) H10 =>
 CallT Pg jnr [r7.2] (.tup [(.c (.int .i64)), (.c (.int .i64)), (.c .bool)]) H10 fun (r11 : Int × Int × Bool) H11 =>
 Jn (σ := Bool) (fun kk1 =>
 Br (!r8) (
 kk1 true H11) (
 Br (!r9) (
 kk1 true H11) (
 Br (!r4.2.2) (
 kk1 true H11) (
 Br (!r11.2.2) (
 kk1 true H11) (
 Br (!r10.2.2) (
 kk1 true H11) (
 Br (r4.2.1 != r3.2.2) (
 kk1 true H11) (
 Br (r4.1 != r3.2.1) (
 kk1 true H11) (
 Br (r11.2.1 != r3.2.2) (
 kk1 true H11) (
 Br (r11.1 != r3.2.1) (
 kk1 true H11) (
 Br (r10.2.1 != r6.2.2) (
 kk1 true H11) (
 kk1 (r10.1 != r6.2.1) H11))))))))))) fun j1 H12 =>
 Br j1 (
 k false H12) (
 CallT Pg fQdz [.pointer r2.1] (.one (.c .bool)) H12 fun (r12 : Bool) H13 =>
 CallT Pg fQdz [.pointer r5.1] (.one (.c .bool)) H13 fun (r13 : Bool) H14 =>
 CallT Pg fQdy [.pointer r7.1, .pointer r3.1] (.one (.c .bool)) H14 fun (r14 : Bool) H15 =>
 CallT Pg jnr [r2.2] (.tup [(.c (.int .i64)), (.c (.int .i64)), (.c .bool)]) H15 fun (r15 : Int × Int × Bool) H16 =>
 Jn (σ := Bool) (fun kk2 =>
 Br r12 (
 Br r13 (
 Br r14 (
 Br r15.2.2 (
 Br (r15.2.1 == r3.2.2) (
 kk2 (r15.1 == r3.2.1) H16) (
 kk2 false H16)) (
 kk2 false H16)) (
 kk2 false H16)) (
 kk2 false H16)) (
 kk2 false H16)) fun j2 H17 =>
 k j2 H17))
def jfj : Hint := (hq (hq (hq (hq (hq (hq (hq (hq (hq (hq (hq (hq (hq (.two (.two (.join [(133, (.c .bool))] .no) .no) (hq (hq (hq (hq (.two (.join [(4, (.c .bool))] .no) .no)))))))))))))))))))
theorem cQdq (src_ : ByteArray) (more_ : ByteArray) {H : jaa} {k : Bool → jaa → Prop} (h : vQdq src_ more_ H k) : CallT Pg fQd1 [.string src_, .string more_] (.one (.c .bool)) H k := cE jad jfj Tryz.func3 h
end
end Go.Proofs.YtfpmgpblhhcpgaaGreatDoor
namespace Go.Proofs.YtfpmgpblhhcpgaaGreatDoor.Hc.Lex
inductive Skips : Bs → Bs → Prop where
 | nil (u : Bs) : Skips [] u
 | cons (g u : Bs) (n : Nat) (h : evL (g ++ u) = .skip n) (h1 : 1 ≤ n) (h2 : n ≤ g.length) (r : Skips (g.drop n) u) : Skips g u
theorem jjK {c : UInt8} {t : Bs} {n : Nat} (h : evL (c :: t) = .skip n) : 1 ≤ n ∧ n ≤ (c :: t).length := by
 unfold evL at h
 dsimp only at h
 split at h
 ·simp only [Ev.skip.injEq] at h; subst h; simp
 ·split at h
  ·rename_i m hm
   simp only [Ev.skip.injEq] at h
   subst h
   have := jgT hm
   omega
  ·cases h
  ·unfold jec at h
   dsimp only at h
   repeat' split at h
   all_goals cases h
theorem evL_tok {c : UInt8} {t : Bs} {k n : Nat} (h : evL (c :: t) = .tok k n) : jcu c = false ∧ jgI (c :: t) = .no ∧ jec (c :: t) = .tok k n := by
 unfold evL at h
 dsimp only at h
 split at h
 ·cases h
 ·rename_i hb
  split at h
  ·cases h
  ·cases h
  ·rename_i hr
   exact ⟨by simpa using hb, hr, h⟩
theorem jmq {r : Bs} {k n : Nat} (h : jec r = .tok k n) : 1 ≤ k := by
 cases r with
 | nil => cases h
 | cons c t =>
   unfold jec at h
   dsimp only at h
   repeat' split at h
   all_goals (cases h; try omega)
theorem jkN : ∀ (m : Nat) (r : Bs) (p : Nat) (ts : List Tk), r.length ≤ m → jdd p r = .ok ts → ∃ g u, r = g ++ u ∧ Skips g u ∧
 ((u = [] ∧ ts = [⟨0, [], p + g.length⟩]) ∨ ∃ k n ts', evL u = .tok k n ∧ 1 ≤ n ∧ n ≤ u.length ∧ 1 ≤ k ∧ ts = ⟨k, u.take n, p + g.length⟩ :: ts' ∧ jdd (p + g.length + n) (u.drop n) = .ok ts') := by
 intro m
 induction m with
 | zero =>
   intro r p ts hm h
   have : r = [] := List.eq_nil_of_length_eq_zero (by omega)
   subst this
   rw [jfc] at h
   cases h
   exact ⟨[], [], rfl, .nil _, .inl ⟨rfl, rfl⟩⟩
 | succ m ih =>
   intro r p ts hm h
   cases r with
   | nil =>
     rw [jfc] at h
     cases h
     exact ⟨[], [], rfl, .nil _, .inl ⟨rfl, rfl⟩⟩
   | cons c t =>
     rw [je8] at h
     split at h
     ·rename_i n he
      obtain ⟨h1, h2⟩ := jjK he
      rw [jfd c t h1] at h
      obtain ⟨g, u, hr, hs, hc⟩ := ih ((c :: t).drop n) (p + n) ts (by simp only [List.length_drop, List.length_cons] at *; omega) h
      have hsplit : c :: t = ((c :: t).take n ++ g) ++ u := by rw [List.append_assoc, ← hr, List.take_append_drop]
      have htl : ((c :: t).take n).length = n := by rw [List.length_take]; omega
      refine ⟨(c :: t).take n ++ g, u, hsplit, ?_, ?_⟩
      ·refine .cons _ _ n (by rw [← hsplit]; exact he) h1 (by rw [List.length_append, htl]; omega) ?_
       have : ((c :: t).take n ++ g).drop n = g := by
        conv => lhs; rw [show n = ((c :: t).take n).length from htl.symm]
        rw [htl]; exact List.drop_left' htl
       rw [this]; exact hs
      ·rw [List.length_append, htl, ← Nat.add_assoc]; exact hc
     ·rename_i k n he
      obtain ⟨_, _, ht⟩ := evL_tok he
      obtain ⟨h1, h2⟩ := jgV ht
      rw [jfd c t h1] at h
      cases hl : jdd (p + n) ((c :: t).drop n) with
      | error e => rw [hl] at h; cases h
      | ok l =>
        rw [hl] at h
        simp only [pre, Except.ok.injEq] at h
        exact ⟨[], c :: t, rfl, .nil _, .inr ⟨k, n, l, he, h1, h2, jmq ht, by simpa using h.symm, by simpa using hl⟩⟩
     ·cases h
def gapB (k : Nat) : Bs := match k with
 | 0 => [32]
 | 1 => [10]
 | 2 => [32, 47, 42, 32, 120, 32, 42, 47]
 | 3 => [9, 47, 47, 32, 121, 10]
 | _ => [13, 32]
def asm (γ : Nat → Nat) : Nat → List Tk → Bs
 | _, [] => []
 | i, t :: ts => gapB (γ i) ++ t.text ++ asm γ (i + 1) ts
inductive Chain : List Tk → Prop where
 | fin (p : Nat) : Chain [⟨0, [], p⟩]
 | tok (u : Bs) (k n p : Nat) (ts : List Tk) (h : evL u = .tok k n) (h1 : 1 ≤ n) (h2 : n ≤ u.length) (r : Chain ts) : Chain (⟨k, u.take n, p⟩ :: ts)
theorem jm3 : ∀ (m : Nat) (r : Bs) (p : Nat) (ts : List Tk), r.length ≤ m → jdd p r = .ok ts → Chain ts := by
 intro m
 induction m with
 | zero =>
   intro r p ts hm h
   have : r = [] := List.eq_nil_of_length_eq_zero (by omega)
   subst this
   rw [jfc] at h
   cases h
   exact .fin _
 | succ m ih =>
   intro r p ts hm h
   obtain ⟨g, u, rfl, hs, hc⟩ := jkN _ r p ts (Nat.le_refl _) h
   rcases hc with ⟨_, rfl⟩ | ⟨k, n, ts', he, h1, h2, _, rfl, hl⟩
   ·exact .fin _
   ·exact .tok u k n _ ts' he h1 h2 (ih _ _ _ (by rw [List.length_append] at hm; rw [List.length_drop]; omega) hl)
def sameT (a b : List Tk) : Prop := a.length = b.length ∧ ∀ i (h : i < a.length) (h' : i < b.length), a[i].kind = b[i].kind ∧ a[i].text = b[i].text
end Go.Proofs.YtfpmgpblhhcpgaaGreatDoor.Hc.Lex
namespace Go.Proofs.YtfpmgpblhhcpgaaGreatDoor.Hc.Lex
end Go.Proofs.YtfpmgpblhhcpgaaGreatDoor.Hc.Lex
