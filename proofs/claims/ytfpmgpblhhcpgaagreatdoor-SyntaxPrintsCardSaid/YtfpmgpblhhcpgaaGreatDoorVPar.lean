import Derived.Test.YtfpmgpblhhcpgaaGreatDoorHcLists
import Derived.Test.YtfpmgpblhhcpgaaGreatDoorProg
set_option linter.unusedVariables false
set_option linter.unusedSimpArgs false
namespace Go.Proofs.YtfpmgpblhhcpgaaGreatDoor
set_option maxRecDepth 100000
section
open Hc
noncomputable abbrev Pg : Program := Tryz.prog
abbrev jkO : TypeId := 56
abbrev jbd : TypeId := 23
abbrev jkH : TypeId := 73
abbrev jbP : TypeId := 69
abbrev jcC : TypeId := 9
abbrev jdY : TypeId := 51
abbrev TQag : TypeId := 5
abbrev fQaa : FuncId := 24
abbrev jfB : FuncId := 42
abbrev fQac : FuncId := 43
abbrev fQad : FuncId := 44
abbrev fQae : FuncId := 45
abbrev jk4 : FuncId := 46
abbrev jfo : FuncId := 78
abbrev jhi : FuncId := 79
abbrev jkG : FuncId := 80
abbrev fQaj : FuncId := 81
abbrev jns : FuncId := 82
abbrev jio : FuncId := 83
abbrev jje : FuncId := 84
abbrev fQan : FuncId := 90
abbrev fQao : FuncId := 113
abbrev fQap : FuncId := 114
abbrev jmY : FuncId := 115
abbrev jmh : FuncId := 116
abbrev fQas : FuncId := 117
abbrev fQat : FuncId := 118
abbrev fQau : FuncId := 125
abbrev fQav : FuncId := 126
abbrev fQaw : FuncId := 128
abbrev fQax : FuncId := 129
abbrev fQay : FuncId := 143
abbrev fQaz : FuncId := 144
abbrev fQa0 : FuncId := 161
abbrev fQa1 : FuncId := 162
abbrev fQa2 : FuncId := 163
abbrev fQa3 : FuncId := 164
abbrev fQa4 : FuncId := 165
abbrev fQa5 : FuncId := 166
abbrev fQa6 : FuncId := 167
abbrev fQa7 : FuncId := 168
abbrev fQa8 : FuncId := 169
abbrev jks : FuncId := 170
abbrev jif : FuncId := 171
abbrev fQbb : FuncId := 188
abbrev fQbc : FuncId := 189
abbrev fQbd : FuncId := 195
abbrev fQbe : FuncId := 205
abbrev fQbf : FuncId := 211
theorem jad : Pg.follows .mixedOrders = true := by kernel_rfl
abbrev PLs : List Nat := [24, 43, 44, 45, 46, 80, 81, 82, 84, 116, 117, 118, 144, 161, 162, 163, 164, 165, 166, 167, 168, 169, 170, 171, 188, 189, 195, 205, 211]
def vQaa (p_ : Option Addr) (e_ : Int) (H : jaa) (kp : Value → jaa → Prop) (k : Unit → jaa → Prop) : Prop :=
 jab p_ fun a1 =>
 Ld .sl a1 H fun (x1 : Sl) =>
 IxA 3 x1 0 fun a2 =>
 Ld (.int .i64) (a2.add 2) H fun (x2 : Int) =>
 Nw #[.int .i64 x2, .int .i64 e_] jkH H fun b1 H1 =>
 kp (.iface jkO (.pointer (some (adr b1)))) H1
def jc1 : Hint := .no
theorem cQaa (p_ : Option Addr) (e_ : Int) {H : jaa} {kp : Value → jaa → Prop} {k : Unit → jaa → Prop} (h : vQaa p_ e_ H kp k) : CallE Pg jk4 [.pointer p_, .int .i64 e_] (.tup []) H kp k := cEE (PL := PLs) jad jc1 Tryz.func46 h
def vQab (p_ : Option Addr) (s_ : ByteArray) (H : jaa) (k : Bool → jaa → Prop) : Prop :=
 jab p_ fun a1 =>
 Ld .sl a1 H fun (x1 : Sl) =>
 IxA 3 x1 0 fun a2 =>
 LdC [(.int .i64), .str, (.int .i64)] a2 H fun (c1 : Int × ByteArray × Int) =>
 Nw #[.int .i64 0, .string ByteArray.empty, .int .i64 0] jbP H fun b1 H1 =>
 St ((adr b1).add 0) (.int .i64 c1.1) H1 fun H2 =>
 St ((adr b1).add 1) (.string c1.2.1) H2 fun H3 =>
 St ((adr b1).add 2) (.int .i64 c1.2.2) H3 fun H4 =>
 Jn (σ := Bool) (fun kk1 =>
 Ld .str ((adr b1).add 1) H4 fun (x2 : ByteArray) =>
 Br (x2.toList == s_.toList) (
 Ld (.int .i64) (adr b1) H4 fun (x3 : Int) =>
 Br (x3 == 1) (
 kk1 true H4) (
 Ld (.int .i64) (adr b1) H4 fun (x4 : Int) =>
 kk1 (x4 == 3) H4)) (
 kk1 false H4)) fun j1 H5 =>
 k j1 H5
def jdF : Hint := (hq (hq (.two (.join [(4, (.c .bool))] .no) .no)))
theorem cQab (p_ : Option Addr) (s_ : ByteArray) {H : jaa} {k : Bool → jaa → Prop} (h : vQab p_ s_ H k) : CallT Pg jfB [.pointer p_, .string s_] (.one (.c .bool)) H k := cE jad jdF Tryz.func42 h
def vQac (p_ : Option Addr) (H : jaa) (k : Int × ByteArray × Int → jaa → Prop) : Prop :=
 Nw #[.int .i64 0, .string ByteArray.empty, .int .i64 0] jbP H fun b1 H1 =>
 jab p_ fun a1 =>
 Ld .sl a1 H1 fun (x1 : Sl) =>
 IxA 3 x1 0 fun a2 =>
 LdC [(.int .i64), .str, (.int .i64)] a2 H1 fun (c1 : Int × ByteArray × Int) =>
 Nw #[.int .i64 0, .string ByteArray.empty, .int .i64 0] jbP H1 fun b2 H2 =>
 St ((adr b2).add 0) (.int .i64 c1.1) H2 fun H3 =>
 St ((adr b2).add 1) (.string c1.2.1) H3 fun H4 =>
 St ((adr b2).add 2) (.int .i64 c1.2.2) H4 fun H5 =>
 jab p_ fun a3 =>
 Ld .sl a3 H5 fun (x2 : Sl) =>
 SlA 3 x2 1 (x2.len : Nat) (x2.cap : Nat) fun l1 =>
 jab p_ fun a4 =>
 St a4 (slV l1) H5 fun H6 =>
 LdC [(.int .i64), .str, (.int .i64)] (adr b2) H6 fun (c2 : Int × ByteArray × Int) =>
 St ((adr b1).add 0) (.int .i64 c2.1) H6 fun H7 =>
 St ((adr b1).add 1) (.string c2.2.1) H7 fun H8 =>
 St ((adr b1).add 2) (.int .i64 c2.2.2) H8 fun H9 =>
 LdC [(.int .i64), .str, (.int .i64)] (adr b1) H9 fun (c3 : Int × ByteArray × Int) =>
 k (c3.1, c3.2.1, c3.2.2) H9
def jdB : Hint := .no
theorem cQac (p_ : Option Addr) {H : jaa} {k : Int × ByteArray × Int → jaa → Prop} (h : vQac p_ H k) : CallT Pg jfo [.pointer p_] (.one (.agg [(.int .i64), .str, (.int .i64)])) H k := cE jad jdB Tryz.func78 h
def vQad (p_ : Option Addr) (s_ : ByteArray) (H : jaa) (kp : Value → jaa → Prop) (k : Int × ByteArray × Int → jaa → Prop) : Prop :=
 Nw #[.int .i64 0, .string ByteArray.empty, .int .i64 0] jbP H fun b1 H1 =>
 CallT Pg jfB [.pointer p_, .string s_] (.one (.c .bool)) H1 fun (r1 : Bool) H2 =>
 Jn (σ := Unit) (fun kk1 =>
 Br (!r1) (
 CallE Pg jk4 [.pointer p_, .int .i64 100] (.tup []) H2 kp fun (r2 : Unit) H4 =>
 kk1 () H4) (
 kk1 () H2)) fun j1 H3 =>
 CallT Pg jfo [.pointer p_] (.one (.agg [(.int .i64), .str, (.int .i64)])) H3 fun (r3 : Int × ByteArray × Int) H5 =>
 St ((adr b1).add 0) (.int .i64 r3.1) H5 fun H6 =>
 St ((adr b1).add 1) (.string r3.2.1) H6 fun H7 =>
 St ((adr b1).add 2) (.int .i64 r3.2.2) H7 fun H8 =>
 LdC [(.int .i64), .str, (.int .i64)] (adr b1) H8 fun (c1 : Int × ByteArray × Int) =>
 k (c1.1, c1.2.1, c1.2.2) H8
def jdN : Hint := (hq (.two (hq (.join [] .no)) .no))
theorem cQad (p_ : Option Addr) (s_ : ByteArray) {H : jaa} {kp : Value → jaa → Prop} {k : Int × ByteArray × Int → jaa → Prop} (h : vQad p_ s_ H kp k) : CallE Pg jje [.pointer p_, .string s_] (.one (.agg [(.int .i64), .str, (.int .i64)])) H kp k := cEE (PL := PLs) jad jdN Tryz.func84 h
def vQae (p_ : Option Addr) (s_ : ByteArray) (H : jaa) (k : Bool → jaa → Prop) : Prop :=
 CallT Pg jfB [.pointer p_, .string s_] (.one (.c .bool)) H fun (r1 : Bool) H1 =>
 Br r1 (
 CallT Pg jfo [.pointer p_] (.one (.agg [(.int .i64), .str, (.int .i64)])) H1 fun (r2 : Int × ByteArray × Int) H2 =>
 k true H2) (
 k false H1)
def jed : Hint := .no
theorem cQae (p_ : Option Addr) (s_ : ByteArray) {H : jaa} {k : Bool → jaa → Prop} (h : vQae p_ s_ H k) : CallT Pg jmY [.pointer p_, .string s_] (.one (.c .bool)) H k := cE jad jed Tryz.func115 h
def vQaf (p_ : Option Addr) (H : jaa) (k : Bool → jaa → Prop) : Prop :=
 Jn (σ := Bool) (fun kk1 =>
 jab p_ fun a1 =>
 Ld .sl a1 H fun (x1 : Sl) =>
 IxA 3 x1 0 fun a2 =>
 Ld (.int .i64) a2 H fun (x2 : Int) =>
 Br (x2 == 1) (
 jab p_ fun a3 =>
 Ld .sl a3 H fun (x3 : Sl) =>
 IxA 3 x3 0 fun a4 =>
 Ld .str (a4.add 1) H fun (x4 : ByteArray) =>
 CallT Pg fQan [.string x4] (.one (.c .bool)) H fun (r1 : Bool) H2 =>
 kk1 r1 H2) (
 kk1 false H)) fun j1 H1 =>
 k j1 H1
def jdf : Hint := (hq (.two (.join [(2, (.c .bool))] .no) .no))
theorem cQaf (p_ : Option Addr) {H : jaa} {k : Bool → jaa → Prop} (h : vQaf p_ H k) : CallT Pg fQap [.pointer p_] (.one (.c .bool)) H k := cE jad jdf Tryz.func114 h
def vQag (p_ : Option Addr) (H : jaa) (kp : Value → jaa → Prop) (k : Int × ByteArray × Int → jaa → Prop) : Prop :=
 Nw #[.int .i64 0, .string ByteArray.empty, .int .i64 0] jbP H fun b1 H1 =>
 CallT Pg fQap [.pointer p_] (.one (.c .bool)) H1 fun (r1 : Bool) H2 =>
 Jn (σ := Unit) (fun kk1 =>
 Br (!r1) (
 CallE Pg jk4 [.pointer p_, .int .i64 100] (.tup []) H2 kp fun (r2 : Unit) H4 =>
 kk1 () H4) (
 kk1 () H2)) fun j1 H3 =>
 CallT Pg jfo [.pointer p_] (.one (.agg [(.int .i64), .str, (.int .i64)])) H3 fun (r3 : Int × ByteArray × Int) H5 =>
 St ((adr b1).add 0) (.int .i64 r3.1) H5 fun H6 =>
 St ((adr b1).add 1) (.string r3.2.1) H6 fun H7 =>
 St ((adr b1).add 2) (.int .i64 r3.2.2) H7 fun H8 =>
 LdC [(.int .i64), .str, (.int .i64)] (adr b1) H8 fun (c1 : Int × ByteArray × Int) =>
 k (c1.1, c1.2.1, c1.2.2) H8
def jdI : Hint := (hq (.two (hq (.join [] .no)) .no))
theorem cQag (p_ : Option Addr) {H : jaa} {kp : Value → jaa → Prop} {k : Int × ByteArray × Int → jaa → Prop} (h : vQag p_ H kp k) : CallE Pg jkG [.pointer p_] (.one (.agg [(.int .i64), .str, (.int .i64)])) H kp k := cEE (PL := PLs) jad jdI Tryz.func80 h
def vQah (p_ : Option Addr) (s_ : ByteArray) (H : jaa) (kp : Value → jaa → Prop) (k : Int × ByteArray × Int → jaa → Prop) : Prop :=
 Nw #[.int .i64 0, .string ByteArray.empty, .int .i64 0] jbP H fun b1 H1 =>
 CallT Pg jfB [.pointer p_, .string s_] (.one (.c .bool)) H1 fun (r1 : Bool) H2 =>
 Jn (σ := Unit) (fun kk1 =>
 Br (!r1) (
 CallE Pg jk4 [.pointer p_, .int .i64 100] (.tup []) H2 kp fun (r2 : Unit) H4 =>
 kk1 () H4) (
 kk1 () H2)) fun j1 H3 =>
 jab p_ fun a1 =>
 Ld (.int .i64) (a1.add 1) H3 fun (x1 : Int) =>
 Jn (σ := Unit) (fun kk2 =>
 Br (x1 == 20) (
 CallE Pg jk4 [.pointer p_, .int .i64 101] (.tup []) H3 kp fun (r3 : Unit) H6 =>
 kk2 () H6) (
 kk2 () H3)) fun j2 H5 =>
 jab p_ fun a2 =>
 Ld (.int .i64) (a2.add 1) H5 fun (x2 : Int) =>
 Lt (IntKind.wrap .i64 (x2 + 1)) fun t1 =>
 jab p_ fun a3 =>
 St (a3.add 1) (.int .i64 t1) H5 fun H7 =>
 CallT Pg jfo [.pointer p_] (.one (.agg [(.int .i64), .str, (.int .i64)])) H7 fun (r4 : Int × ByteArray × Int) H8 =>
 St ((adr b1).add 0) (.int .i64 r4.1) H8 fun H9 =>
 St ((adr b1).add 1) (.string r4.2.1) H9 fun H10 =>
 St ((adr b1).add 2) (.int .i64 r4.2.2) H10 fun H11 =>
 LdC [(.int .i64), .str, (.int .i64)] (adr b1) H11 fun (c1 : Int × ByteArray × Int) =>
 k (c1.1, c1.2.1, c1.2.2) H11
def jdE : Hint := (hq (.two (hq (.join [] .no)) (.two (hq (.join [] .no)) .no)))
theorem cQah (p_ : Option Addr) (s_ : ByteArray) {H : jaa} {kp : Value → jaa → Prop} {k : Int × ByteArray × Int → jaa → Prop} (h : vQah p_ s_ H kp k) : CallE Pg jmh [.pointer p_, .string s_] (.one (.agg [(.int .i64), .str, (.int .i64)])) H kp k := cEE (PL := PLs) jad jdE Tryz.func116 h
def vQai (p_ : Option Addr) (s_ : ByteArray) (H : jaa) (kp : Value → jaa → Prop) (k : Unit → jaa → Prop) : Prop :=
 CallE Pg jje [.pointer p_, .string s_] (.one (.agg [(.int .i64), .str, (.int .i64)])) H kp fun (r1 : Int × ByteArray × Int) H1 =>
 jab p_ fun a1 =>
 Ld (.int .i64) (a1.add 1) H1 fun (x1 : Int) =>
 Lt (IntKind.wrap .i64 (x1 - 1)) fun t1 =>
 jab p_ fun a2 =>
 St (a2.add 1) (.int .i64 t1) H1 fun H2 =>
 k () H2
def jeh : Hint := .no
theorem cQai (p_ : Option Addr) (s_ : ByteArray) {H : jaa} {kp : Value → jaa → Prop} {k : Unit → jaa → Prop} (h : vQai p_ s_ H kp k) : CallE Pg fQat [.pointer p_, .string s_] (.tup []) H kp k := cEE (PL := PLs) jad jeh Tryz.func118 h
def vQaj (p_ : Option Addr) (n_ : Int) (most_ : Int) (H : jaa) (kp : Value → jaa → Prop) (k : Unit → jaa → Prop) : Prop :=
 Jn (σ := Unit) (fun kk1 =>
 Br (n_ == most_) (
 CallE Pg jk4 [.pointer p_, .int .i64 102] (.tup []) H kp fun (r1 : Unit) H2 =>
 kk1 () H2) (
 kk1 () H)) fun j1 H1 =>
 k () H1
def jc6 : Hint := (hq (.join [] .no))
theorem cQaj (p_ : Option Addr) (n_ : Int) (most_ : Int) {H : jaa} {kp : Value → jaa → Prop} {k : Unit → jaa → Prop} (h : vQaj p_ n_ most_ H kp k) : CallE Pg fQac [.pointer p_, .int .i64 n_, .int .i64 most_] (.tup []) H kp k := cEE (PL := PLs) jad jc6 Tryz.func43 h
def vQak (p_ : Option Addr) (H : jaa) (kp : Value → jaa → Prop) (k : Option Addr → jaa → Prop) : Prop :=
 Nw #[.int .i64 1, .string ByteArray.empty, .int .i64 0, .slice none 0 0, .int .i64 0] jdY H fun b1 H1 =>
 LoopT (σ := Int × Int) (fun next1 s1 H2 =>
 jab p_ fun a1 =>
 Ld .sl a1 H2 fun (x1 : Sl) =>
 IxA 3 x1 0 fun a2 =>
 Ld (.int .i64) a2 H2 fun (x2 : Int) =>
 Br (x2 != 0) (
 Jn (σ := Int × Int) (fun kk1 =>
 Jn (σ := Int × Int) (fun kk2 =>
 CallT Pg jfB [.pointer p_, .string (⟨#[115, 121, 115, 116, 101, 109]⟩ : ByteArray)] (.one (.c .bool)) H2 fun (r1 : Bool) H5 =>
 Jn (σ := Int × Int) (fun kk3 =>
 Br r1 (
 CallE Pg fQac [.pointer p_, .int .i64 s1.1, .int .i64 16] (.tup []) H5 kp fun (r2 : Unit) H7 =>
 jab (some (adr b1)) fun a3 =>
 Ld .sl (a3.add 3) H7 fun (x3 : Sl) =>
 CallE Pg fQad [.pointer p_] (.one (.c .ptr)) H7 kp fun (r3 : Option Addr) H8 =>
 Stab [(a3.add 3, slV x3)] H8 <|
 Nw #[.pointer r3] jbd H8 fun b2 H9 =>
 Stab [(a3.add 3, slV x3)] H9 <|
 App jbd 1 8 #[.pointer none] x3 ⟨some (adr b2), 1, 1⟩ H9 fun l1 H10 =>
 jab (some (adr b1)) fun a4 =>
 St (a4.add 3) (slV l1) H10 fun H11 =>
 Lt (IntKind.wrap .i64 (s1.1 + 1)) fun t1 =>
 kk3 (t1, s1.2) H11) (
 CallT Pg jfB [.pointer p_, .string (⟨#[102, 117, 110, 99]⟩ : ByteArray)] (.one (.c .bool)) H5 fun (r4 : Bool) H12 =>
 Jn (σ := Int) (fun kk4 =>
 Br r4 (
 CallE Pg fQac [.pointer p_, .int .i64 s1.2, .int .i64 16] (.tup []) H12 kp fun (r5 : Unit) H14 =>
 jab (some (adr b1)) fun a5 =>
 Ld .sl (a5.add 3) H14 fun (x4 : Sl) =>
 CallE Pg fQae [.pointer p_] (.one (.c .ptr)) H14 kp fun (r6 : Option Addr) H15 =>
 Stab [(a5.add 3, slV x4)] H15 <|
 Nw #[.pointer r6] jbd H15 fun b3 H16 =>
 Stab [(a5.add 3, slV x4)] H16 <|
 App jbd 1 8 #[.pointer none] x4 ⟨some (adr b3), 1, 1⟩ H16 fun l2 H17 =>
 jab (some (adr b1)) fun a6 =>
 St (a6.add 3) (slV l2) H17 fun H18 =>
 Lt (IntKind.wrap .i64 (s1.2 + 1)) fun t2 =>
 kk4 t2 H18) (
 CallE Pg jk4 [.pointer p_, .int .i64 100] (.tup []) H12 kp fun (r7 : Unit) H19 =>
 kk4 s1.2 H19)) fun j4 H13 =>
 kk3 (s1.1, j4) H13)) fun j3 H6 =>
 kk2 (j3.1, j3.2) H6) fun j2 H4 =>
 kk1 (j2.1, j2.2) H4) fun j1 H3 =>
 next1 (j1.1, j1.2) H3) (
 k (some (adr b1)) H2)) (0, 0) H1
def jcB : Hint := (hq (hq (hq (.two (.one (.loop [(4, (.c (.int .i64))), (5, (.c (.int .i64)))] (hq (.join [(4, (.c (.int .i64))), (5, (.c (.int .i64)))] (.one (.join [(4, (.c (.int .i64))), (5, (.c (.int .i64)))] (.one (hq (.join [(4, (.c (.int .i64))), (5, (.c (.int .i64)))] (hq (hq (.join [(5, (.c (.int .i64)))] .no)))))))))))) .no))))
theorem cQak (p_ : Option Addr) {H : jaa} {kp : Value → jaa → Prop} {k : Option Addr → jaa → Prop} (h : vQak p_ H kp k) : CallE Pg fQaa [.pointer p_] (.one (.c .ptr)) H kp k := cEE (PL := PLs) jad jcB Tryz.func24 h
def vQal (p_ : Option Addr) (H : jaa) (kp : Value → jaa → Prop) (k : Option Addr → jaa → Prop) : Prop :=
 CallT Pg jfo [.pointer p_] (.one (.agg [(.int .i64), .str, (.int .i64)])) H fun (r1 : Int × ByteArray × Int) H1 =>
 Nw #[.int .i64 0, .string ByteArray.empty, .int .i64 0] jbP H1 fun b1 H2 =>
 St ((adr b1).add 0) (.int .i64 r1.1) H2 fun H3 =>
 St ((adr b1).add 1) (.string r1.2.1) H3 fun H4 =>
 St ((adr b1).add 2) (.int .i64 r1.2.2) H4 fun H5 =>
 Ld (.int .i64) ((adr b1).add 2) H5 fun (x1 : Int) =>
 CallE Pg jkG [.pointer p_] (.one (.agg [(.int .i64), .str, (.int .i64)])) H5 kp fun (r2 : Int × ByteArray × Int) H6 =>
 Stab [((adr b1).add 2, .int .i64 x1)] H6 <|
 CallT Pg jhi [.int .i64 2, .agg #[.int .i64 0, .string r2.2.1, .int .i64 x1], .slice none 0 0] (.one (.c .ptr)) H6 fun (r3 : Option Addr) H7 =>
 Stab [((adr b1).add 2, .int .i64 x1)] H7 <|
 Nw #[.string (⟨#[119, 105, 116, 104]⟩ : ByteArray), .string (⟨#[119, 105, 116, 104, 111, 117, 116]⟩ : ByteArray), .string (⟨#[114, 101, 97, 100, 115]⟩ : ByteArray), .string (⟨#[119, 114, 105, 116, 101, 115]⟩ : ByteArray)] jcC H7 fun b2 H8 =>
 LoopT (σ := Int) (fun next1 s1 H9 =>
 Br (decide (s1 < 4)) (
 IxA 1 ⟨some (adr b2), 4, 4⟩ s1 fun a1 =>
 Ld .str a1 H9 fun (x2 : ByteArray) =>
 Nw #[.int .i64 3, .string x2, .int .i64 0, .slice none 0 0, .int .i64 0] jdY H9 fun b3 H10 =>
 CallT Pg jfB [.pointer p_, .string x2] (.one (.c .bool)) H10 fun (r4 : Bool) H11 =>
 Jn (σ := Unit) (fun kk1 =>
 Br r4 (
 CallT Pg jfo [.pointer p_] (.one (.agg [(.int .i64), .str, (.int .i64)])) H11 fun (r5 : Int × ByteArray × Int) H13 =>
 jab (some (adr b3)) fun a2 =>
 St (a2.add 4) (.int .i64 r5.2.2) H13 fun H14 =>
 CallE Pg fQaj [.pointer p_, .int .i64 (-1)] (.one (.c .sl)) H14 kp fun (r6 : Sl) H15 =>
 jab (some (adr b3)) fun a3 =>
 St (a3.add 3) (slV r6) H15 fun H16 =>
 kk1 () H16) (
 jab (some (adr b3)) fun a4 =>
 St (a4.add 4) (.int .i64 (-1)) H11 fun H17 =>
 kk1 () H17)) fun j1 H12 =>
 jab r3 fun a5 =>
 Ld .sl (a5.add 3) H12 fun (x3 : Sl) =>
 Nw #[.pointer (some (adr b3))] jbd H12 fun b4 H18 =>
 App jbd 1 8 #[.pointer none] x3 ⟨some (adr b4), 1, 1⟩ H18 fun l1 H19 =>
 jab r3 fun a6 =>
 St (a6.add 3) (slV l1) H19 fun H20 =>
 Lt (IntKind.wrap .i64 (s1 + 1)) fun t1 =>
 next1 t1 H20) (
 CallE Pg jns [.pointer p_] (.one (.c .ptr)) H9 kp fun (r7 : Option Addr) H21 =>
 jab r3 fun a7 =>
 Ld .sl (a7.add 3) H21 fun (x4 : Sl) =>
 LoopT (σ := Int) (fun next2 s2 H22 =>
 Br (decide (s2 < (x4.len : Int))) (
 Jn (σ := Unit) (fun kk2 =>
 IxA 1 x4 s2 fun a8 =>
 Ld .ptr a8 H22 fun (x5 : Option Addr) =>
 jab x5 fun a9 =>
 Ld (.int .i64) (a9.add 4) H22 fun (x6 : Int) =>
 Jn (σ := Unit) (fun kk3 =>
 Br (decide (x6 < 0)) (
 jab r7 fun a10 =>
 Ld (.int .i64) (a10.add 4) H22 fun (x7 : Int) =>
 jab x5 fun a11 =>
 St (a11.add 4) (.int .i64 x7) H22 fun H25 =>
 kk3 () H25) (
 kk3 () H22)) fun j3 H24 =>
 kk2 () H24) fun j2 H23 =>
 Lt (IntKind.wrap .i64 (s2 + 1)) fun t2 =>
 next2 t2 H23) (
 jab r3 fun a12 =>
 Ld .sl (a12.add 3) H22 fun (x8 : Sl) =>
 Nw #[.pointer r7] jbd H22 fun b5 H26 =>
 App jbd 1 8 #[.pointer none] x8 ⟨some (adr b5), 1, 1⟩ H26 fun l2 H27 =>
 jab r3 fun a13 =>
 St (a13.add 3) (slV l2) H27 fun H28 =>
 k r3 H28)) 0 H21)) 0 H8
def jcN : Hint := (hq (hq (hq (.two (hq (.one (.loop [(22, (.c (.int .i64)))] (hq (hq (.two (.one (hq (hq (.two (hq (.join [] .no)) .no)))) .no)))))) (hq (.two (hq (.one (.loop [(64, (.c (.int .i64)))] (hq (hq (.two (.join [] (.one (hq (hq (.join [] .no))))) .no)))))) .no))))))
theorem cQal (p_ : Option Addr) {H : jaa} {kp : Value → jaa → Prop} {k : Option Addr → jaa → Prop} (h : vQal p_ H kp k) : CallE Pg fQad [.pointer p_] (.one (.c .ptr)) H kp k := cEE (PL := PLs) jad jcN Tryz.func44 h
def vQam (p_ : Option Addr) (H : jaa) (kp : Value → jaa → Prop) (k : Option Addr → jaa → Prop) : Prop :=
 CallT Pg jfo [.pointer p_] (.one (.agg [(.int .i64), .str, (.int .i64)])) H fun (r1 : Int × ByteArray × Int) H1 =>
 Nw #[.int .i64 0, .string ByteArray.empty, .int .i64 0] jbP H1 fun b1 H2 =>
 St ((adr b1).add 0) (.int .i64 r1.1) H2 fun H3 =>
 St ((adr b1).add 1) (.string r1.2.1) H3 fun H4 =>
 St ((adr b1).add 2) (.int .i64 r1.2.2) H4 fun H5 =>
 Ld (.int .i64) ((adr b1).add 2) H5 fun (x1 : Int) =>
 CallE Pg jkG [.pointer p_] (.one (.agg [(.int .i64), .str, (.int .i64)])) H5 kp fun (r2 : Int × ByteArray × Int) H6 =>
 Stab [((adr b1).add 2, .int .i64 x1)] H6 <|
 CallT Pg jhi [.int .i64 4, .agg #[.int .i64 0, .string r2.2.1, .int .i64 x1], .slice none 0 0] (.one (.c .ptr)) H6 fun (r3 : Option Addr) H7 =>
 Stab [((adr b1).add 2, .int .i64 x1)] H7 <|
 CallE Pg jje [.pointer p_, .string (⟨#[40]⟩ : ByteArray)] (.one (.agg [(.int .i64), .str, (.int .i64)])) H7 kp fun (r4 : Int × ByteArray × Int) H8 =>
 CallT Pg jio [.int .i64 3, .agg #[.int .i64 r4.1, .string r4.2.1, .int .i64 r4.2.2], .slice none 0 0] (.one (.c .ptr)) H8 fun (r5 : Option Addr) H9 =>
 jab r5 fun a1 =>
 St (a1.add 1) (.string (⟨#[102, 117, 110, 99]⟩ : ByteArray)) H9 fun H10 =>
 CallT Pg jfB [.pointer p_, .string (⟨#[41]⟩ : ByteArray)] (.one (.c .bool)) H10 fun (r6 : Bool) H11 =>
 Jn (σ := Unit) (fun kk1 =>
 Br (!r6) (
 CallE Pg fQaj [.pointer p_, .int .i64 4] (.one (.c .sl)) H11 kp fun (r7 : Sl) H13 =>
 jab r5 fun a2 =>
 St (a2.add 3) (slV r7) H13 fun H14 =>
 kk1 () H14) (
 kk1 () H11)) fun j1 H12 =>
 CallE Pg jje [.pointer p_, .string (⟨#[41]⟩ : ByteArray)] (.one (.agg [(.int .i64), .str, (.int .i64)])) H12 kp fun (r8 : Int × ByteArray × Int) H15 =>
 CallE Pg jns [.pointer p_] (.one (.c .ptr)) H15 kp fun (r9 : Option Addr) H16 =>
 Nw #[.pointer r5, .pointer r9] jbd H16 fun b2 H17 =>
 jab r3 fun a3 =>
 St (a3.add 3) (.slice (some (adr b2)) 2 2) H17 fun H18 =>
 k r3 H18
def jch : Hint := (hq (hq (hq (hq (hq (.two (hq (.join [] .no)) .no))))))
theorem cQam (p_ : Option Addr) {H : jaa} {kp : Value → jaa → Prop} {k : Option Addr → jaa → Prop} (h : vQam p_ H kp k) : CallE Pg fQae [.pointer p_] (.one (.c .ptr)) H kp k := cEE (PL := PLs) jad jch Tryz.func45 h
def vQan (p_ : Option Addr) (most_ : Int) (H : jaa) (kp : Value → jaa → Prop) (k : Sl → jaa → Prop) : Prop :=
 LoopT (σ := Sl) (fun next1 s1 H1 =>
 CallT Pg fQap [.pointer p_] (.one (.c .bool)) H1 fun (r1 : Bool) H2 =>
 Jn (σ := Unit) (fun kk1 =>
 Br (!r1) (
 CallE Pg jk4 [.pointer p_, .int .i64 100] (.tup []) H2 kp fun (r2 : Unit) H4 =>
 kk1 () H4) (
 kk1 () H2)) fun j1 H3 =>
 CallE Pg fQac [.pointer p_, .int .i64 (s1.len : Int), .int .i64 most_] (.tup []) H3 kp fun (r3 : Unit) H5 =>
 CallT Pg jfo [.pointer p_] (.one (.agg [(.int .i64), .str, (.int .i64)])) H5 fun (r4 : Int × ByteArray × Int) H6 =>
 CallT Pg jhi [.int .i64 31, .agg #[.int .i64 r4.1, .string r4.2.1, .int .i64 r4.2.2], .slice none 0 0] (.one (.c .ptr)) H6 fun (r5 : Option Addr) H7 =>
 Nw #[.pointer r5] jbd H7 fun b1 H8 =>
 App jbd 1 8 #[.pointer none] s1 ⟨some (adr b1), 1, 1⟩ H8 fun l1 H9 =>
 CallT Pg jmY [.pointer p_, .string (⟨#[44]⟩ : ByteArray)] (.one (.c .bool)) H9 fun (r6 : Bool) H10 =>
 Br (!r6) (
 k l1 H10) (
 next1 l1 H10)) ⟨none, 0, 0⟩ H
def jdg : Hint := (hq (hq (.one (.loop [(5, (.c .sl))] (.one (.two (hq (.join [] .no)) .no))))))
theorem cQan (p_ : Option Addr) (most_ : Int) {H : jaa} {kp : Value → jaa → Prop} {k : Sl → jaa → Prop} (h : vQan p_ most_ H kp k) : CallE Pg fQaj [.pointer p_, .int .i64 most_] (.one (.c .sl)) H kp k := cEE (PL := PLs) jad jdg Tryz.func81 h
def vQao (p_ : Option Addr) (H : jaa) (kp : Value → jaa → Prop) (k : Option Addr → jaa → Prop) : Prop :=
 CallE Pg jmh [.pointer p_, .string (⟨#[123]⟩ : ByteArray)] (.one (.agg [(.int .i64), .str, (.int .i64)])) H kp fun (r1 : Int × ByteArray × Int) H1 =>
 CallT Pg jio [.int .i64 5, .agg #[.int .i64 r1.1, .string r1.2.1, .int .i64 r1.2.2], .slice none 0 0] (.one (.c .ptr)) H1 fun (r2 : Option Addr) H2 =>
 LoopT (σ := Unit) (fun next1 s1 H3 =>
 CallT Pg jfB [.pointer p_, .string (⟨#[125]⟩ : ByteArray)] (.one (.c .bool)) H3 fun (r3 : Bool) H4 =>
 Br (!r3) (
 jab r2 fun a1 =>
 Ld .sl (a1.add 3) H4 fun (x1 : Sl) =>
 CallE Pg fQas [.pointer p_] (.one (.c .ptr)) H4 kp fun (r4 : Option Addr) H5 =>
 Stab [(a1.add 3, slV x1)] H5 <|
 Nw #[.pointer r4] jbd H5 fun b1 H6 =>
 Stab [(a1.add 3, slV x1)] H6 <|
 App jbd 1 8 #[.pointer none] x1 ⟨some (adr b1), 1, 1⟩ H6 fun l1 H7 =>
 jab r2 fun a2 =>
 St (a2.add 3) (slV l1) H7 fun H8 =>
 next1 () H8) (
 CallE Pg fQat [.pointer p_, .string (⟨#[125]⟩ : ByteArray)] (.tup []) H4 kp fun (r5 : Unit) H9 =>
 k r2 H9)) () H2
def jc0 : Hint := (hq (hq (.two (.one (.loop [] .no)) .no)))
theorem cQao (p_ : Option Addr) {H : jaa} {kp : Value → jaa → Prop} {k : Option Addr → jaa → Prop} (h : vQao p_ H kp k) : CallE Pg jns [.pointer p_] (.one (.c .ptr)) H kp k := cEE (PL := PLs) jad jc0 Tryz.func82 h
def vQap (p_ : Option Addr) (H : jaa) (kp : Value → jaa → Prop) (k : Option Addr → jaa → Prop) : Prop :=
 jab p_ fun a1 =>
 Ld .sl a1 H fun (x1 : Sl) =>
 IxA 3 x1 0 fun a2 =>
 Ld .str (a2.add 1) H fun (x2 : ByteArray) =>
 CallT Pg fQay [.string x2] (.one (.c .raw)) H fun (r1 : Value) H1 =>
 Jn (σ := Bool) (fun kk1 =>
 jab p_ fun a3 =>
 Ld .sl a3 H1 fun (x3 : Sl) =>
 IxA 3 x3 0 fun a4 =>
 Ld (.int .i64) a4 H1 fun (x4 : Int) =>
 Br (x4 != 1) (
 kk1 true H1) (
 FnNil r1 fun e1 =>
 Br e1 (
 CallT Pg fQap [.pointer p_] (.one (.c .bool)) H1 fun (r2 : Bool) H3 =>
 kk1 (!r2) H3) (
 kk1 false H1))) fun j1 H2 =>
 Jn (σ := Unit) (fun kk2 =>
 Br j1 (
 CallE Pg jk4 [.pointer p_, .int .i64 100] (.tup []) H2 kp fun (r3 : Unit) H5 =>
 kk2 () H5) (
 kk2 () H2)) fun j2 H4 =>
 jab p_ fun a5 =>
 Ld (.int .i64) (a5.add 2) H4 fun (x5 : Int) =>
 CallE Pg fQac [.pointer p_, .int .i64 x5, .int .i64 200] (.tup []) H4 kp fun (r4 : Unit) H6 =>
 jab p_ fun a6 =>
 Ld (.int .i64) (a6.add 2) H6 fun (x6 : Int) =>
 Lt (IntKind.wrap .i64 (x6 + 1)) fun t1 =>
 jab p_ fun a7 =>
 St (a7.add 2) (.int .i64 t1) H6 fun H7 =>
 FnNil r1 fun e2 =>
 Br (!e2) (
 jjv Pg r1 [.pointer p_] (.one (.c .ptr)) H7 kp fun (r5 : Option Addr) H8 =>
 k r5 H8) (
 CallE Pg fQaz [.pointer p_] (.one (.c .ptr)) H7 kp fun (r6 : Option Addr) H9 =>
 k r6 H9)
def jdD : Hint := (hq (hq (.two (.two (.join [(28, (.c .bool))] .no) (.join [] .no)) .no)))
theorem cQap (p_ : Option Addr) {H : jaa} {kp : Value → jaa → Prop} {k : Option Addr → jaa → Prop} (h : vQap p_ H kp k) : CallE Pg fQas [.pointer p_] (.one (.c .ptr)) H kp k := cEE (PL := PLs) jad jdD Tryz.func117 h
def vQaq (p_ : Option Addr) (n_ : Option Addr) (H : jaa) (kp : Value → jaa → Prop) (k : Option Addr → jaa → Prop) : Prop :=
 CallE Pg jje [.pointer p_, .string (⟨#[59]⟩ : ByteArray)] (.one (.agg [(.int .i64), .str, (.int .i64)])) H kp fun (r1 : Int × ByteArray × Int) H1 =>
 k n_ H1
def jcX : Hint := .no
theorem cQaq (p_ : Option Addr) (n_ : Option Addr) {H : jaa} {kp : Value → jaa → Prop} {k : Option Addr → jaa → Prop} (h : vQaq p_ n_ H kp k) : CallE Pg jks [.pointer p_, .pointer n_] (.one (.c .ptr)) H kp k := cEE (PL := PLs) jad jcX Tryz.func170 h
def vQar (p_ : Option Addr) (H : jaa) (kp : Value → jaa → Prop) (k : Option Addr → jaa → Prop) : Prop :=
 CallT Pg jfo [.pointer p_] (.one (.agg [(.int .i64), .str, (.int .i64)])) H fun (r1 : Int × ByteArray × Int) H1 =>
 CallT Pg jio [.int .i64 10, .agg #[.int .i64 r1.1, .string r1.2.1, .int .i64 r1.2.2], .slice none 0 0] (.one (.c .ptr)) H1 fun (r2 : Option Addr) H2 =>
 CallE Pg jkG [.pointer p_] (.one (.agg [(.int .i64), .str, (.int .i64)])) H2 kp fun (r3 : Int × ByteArray × Int) H3 =>
 jab r2 fun a1 =>
 St (a1.add 1) (.string r3.2.1) H3 fun H4 =>
 CallE Pg jje [.pointer p_, .string (⟨#[61]⟩ : ByteArray)] (.one (.agg [(.int .i64), .str, (.int .i64)])) H4 kp fun (r4 : Int × ByteArray × Int) H5 =>
 CallE Pg jif [.pointer p_] (.one (.c .ptr)) H5 kp fun (r5 : Option Addr) H6 =>
 Nw #[.pointer r5] jbd H6 fun b1 H7 =>
 jab r2 fun a2 =>
 St (a2.add 3) (.slice (some (adr b1)) 1 1) H7 fun H8 =>
 CallE Pg jks [.pointer p_, .pointer r2] (.one (.c .ptr)) H8 kp fun (r6 : Option Addr) H9 =>
 k r6 H9
def jdX : Hint := .no
theorem cQar (p_ : Option Addr) {H : jaa} {kp : Value → jaa → Prop} {k : Option Addr → jaa → Prop} (h : vQar p_ H kp k) : CallE Pg fQa0 [.pointer p_] (.one (.c .ptr)) H kp k := cEE (PL := PLs) jad jdX Tryz.func161 h
def vQas (p_ : Option Addr) (H : jaa) (kp : Value → jaa → Prop) (k : Option Addr → jaa → Prop) : Prop :=
 CallT Pg jfo [.pointer p_] (.one (.agg [(.int .i64), .str, (.int .i64)])) H fun (r1 : Int × ByteArray × Int) H1 =>
 Nw #[.int .i64 0, .string ByteArray.empty, .int .i64 0] jbP H1 fun b1 H2 =>
 St ((adr b1).add 0) (.int .i64 r1.1) H2 fun H3 =>
 St ((adr b1).add 1) (.string r1.2.1) H3 fun H4 =>
 St ((adr b1).add 2) (.int .i64 r1.2.2) H4 fun H5 =>
 CallT Pg jmY [.pointer p_, .string (⟨#[46]⟩ : ByteArray)] (.one (.c .bool)) H5 fun (r2 : Bool) H6 =>
 Br r2 (
 CallE Pg jkG [.pointer p_] (.one (.agg [(.int .i64), .str, (.int .i64)])) H6 kp fun (r3 : Int × ByteArray × Int) H7 =>
 CallT Pg jhi [.int .i64 31, .agg #[.int .i64 r3.1, .string r3.2.1, .int .i64 r3.2.2], .slice none 0 0] (.one (.c .ptr)) H7 fun (r4 : Option Addr) H8 =>
 CallE Pg jje [.pointer p_, .string (⟨#[61]⟩ : ByteArray)] (.one (.agg [(.int .i64), .str, (.int .i64)])) H8 kp fun (r5 : Int × ByteArray × Int) H9 =>
 LdC [(.int .i64), .str, (.int .i64)] (adr b1) H9 fun (c1 : Int × ByteArray × Int) =>
 CallE Pg jif [.pointer p_] (.one (.c .ptr)) H9 kp fun (r6 : Option Addr) H10 =>
 Stab [((adr b1).add 0, .int .i64 c1.1), ((adr b1).add 1, .string c1.2.1), ((adr b1).add 2, .int .i64 c1.2.2)] H10 <|
 Nw #[.pointer r4, .pointer r6] jbd H10 fun b2 H11 =>
 Stab [((adr b1).add 0, .int .i64 c1.1), ((adr b1).add 1, .string c1.2.1), ((adr b1).add 2, .int .i64 c1.2.2)] H11 <|
 CallT Pg jhi [.int .i64 12, .agg #[.int .i64 c1.1, .string c1.2.1, .int .i64 c1.2.2], .slice (some (adr b2)) 2 2] (.one (.c .ptr)) H11 fun (r7 : Option Addr) H12 =>
 CallE Pg jks [.pointer p_, .pointer r7] (.one (.c .ptr)) H12 kp fun (r8 : Option Addr) H13 =>
 Stab [((adr b1).add 0, .int .i64 c1.1), ((adr b1).add 1, .string c1.2.1), ((adr b1).add 2, .int .i64 c1.2.2)] H13 <|
 k r8 H13) (
 CallE Pg jje [.pointer p_, .string (⟨#[61]⟩ : ByteArray)] (.one (.agg [(.int .i64), .str, (.int .i64)])) H6 kp fun (r9 : Int × ByteArray × Int) H14 =>
 LdC [(.int .i64), .str, (.int .i64)] (adr b1) H14 fun (c2 : Int × ByteArray × Int) =>
 CallE Pg jif [.pointer p_] (.one (.c .ptr)) H14 kp fun (r10 : Option Addr) H15 =>
 Stab [((adr b1).add 0, .int .i64 c2.1), ((adr b1).add 1, .string c2.2.1), ((adr b1).add 2, .int .i64 c2.2.2)] H15 <|
 Nw #[.pointer r10] jbd H15 fun b3 H16 =>
 Stab [((adr b1).add 0, .int .i64 c2.1), ((adr b1).add 1, .string c2.2.1), ((adr b1).add 2, .int .i64 c2.2.2)] H16 <|
 CallT Pg jhi [.int .i64 11, .agg #[.int .i64 c2.1, .string c2.2.1, .int .i64 c2.2.2], .slice (some (adr b3)) 1 1] (.one (.c .ptr)) H16 fun (r11 : Option Addr) H17 =>
 CallE Pg jks [.pointer p_, .pointer r11] (.one (.c .ptr)) H17 kp fun (r12 : Option Addr) H18 =>
 Stab [((adr b1).add 0, .int .i64 c2.1), ((adr b1).add 1, .string c2.2.1), ((adr b1).add 2, .int .i64 c2.2.2)] H18 <|
 k r12 H18)
def jd7 : Hint := .no
theorem cQas (p_ : Option Addr) {H : jaa} {kp : Value → jaa → Prop} {k : Option Addr → jaa → Prop} (h : vQas p_ H kp k) : CallE Pg fQaz [.pointer p_] (.one (.c .ptr)) H kp k := cEE (PL := PLs) jad jd7 Tryz.func144 h
def vQat (p_ : Option Addr) (H : jaa) (kp : Value → jaa → Prop) (k : Option Addr → jaa → Prop) : Prop :=
 CallT Pg jfo [.pointer p_] (.one (.agg [(.int .i64), .str, (.int .i64)])) H fun (r1 : Int × ByteArray × Int) H1 =>
 CallT Pg jio [.int .i64 13, .agg #[.int .i64 r1.1, .string r1.2.1, .int .i64 r1.2.2], .slice none 0 0] (.one (.c .ptr)) H1 fun (r2 : Option Addr) H2 =>
 CallE Pg jif [.pointer p_] (.one (.c .ptr)) H2 kp fun (r3 : Option Addr) H3 =>
 CallE Pg jns [.pointer p_] (.one (.c .ptr)) H3 kp fun (r4 : Option Addr) H4 =>
 Nw #[.pointer r3, .pointer r4] jbd H4 fun b1 H5 =>
 jab r2 fun a1 =>
 St (a1.add 3) (.slice (some (adr b1)) 2 2) H5 fun H6 =>
 CallT Pg jmY [.pointer p_, .string (⟨#[101, 108, 115, 101]⟩ : ByteArray)] (.one (.c .bool)) H6 fun (r5 : Bool) H7 =>
 Br (!r5) (
 k r2 H7) (
 CallT Pg jfB [.pointer p_, .string (⟨#[105, 102]⟩ : ByteArray)] (.one (.c .bool)) H7 fun (r6 : Bool) H8 =>
 Jn (σ := Unit) (fun kk1 =>
 Br r6 (
 jab p_ fun a2 =>
 Ld (.int .i64) (a2.add 2) H8 fun (x1 : Int) =>
 CallE Pg fQac [.pointer p_, .int .i64 x1, .int .i64 200] (.tup []) H8 kp fun (r7 : Unit) H10 =>
 jab p_ fun a3 =>
 Ld (.int .i64) (a3.add 2) H10 fun (x2 : Int) =>
 Lt (IntKind.wrap .i64 (x2 + 1)) fun t1 =>
 jab p_ fun a4 =>
 St (a4.add 2) (.int .i64 t1) H10 fun H11 =>
 jab r2 fun a5 =>
 Ld .sl (a5.add 3) H11 fun (x3 : Sl) =>
 CallE Pg fQa1 [.pointer p_] (.one (.c .ptr)) H11 kp fun (r8 : Option Addr) H12 =>
 Stab [(a5.add 3, slV x3)] H12 <|
 Nw #[.pointer r8] jbd H12 fun b2 H13 =>
 Stab [(a5.add 3, slV x3)] H13 <|
 App jbd 1 8 #[.pointer none] x3 ⟨some (adr b2), 1, 1⟩ H13 fun l1 H14 =>
 jab r2 fun a6 =>
 St (a6.add 3) (slV l1) H14 fun H15 =>
 kk1 () H15) (
 jab r2 fun a7 =>
 Ld .sl (a7.add 3) H8 fun (x4 : Sl) =>
 CallE Pg jns [.pointer p_] (.one (.c .ptr)) H8 kp fun (r9 : Option Addr) H16 =>
 Stab [(a7.add 3, slV x4)] H16 <|
 Nw #[.pointer r9] jbd H16 fun b3 H17 =>
 Stab [(a7.add 3, slV x4)] H17 <|
 App jbd 1 8 #[.pointer none] x4 ⟨some (adr b3), 1, 1⟩ H17 fun l2 H18 =>
 jab r2 fun a8 =>
 St (a8.add 3) (slV l2) H18 fun H19 =>
 kk1 () H19)) fun j1 H9 =>
 k r2 H9)
def jcL : Hint := (hq (hq (hq (hq (.two (hq (.join [] .no)) .no)))))
theorem cQat (p_ : Option Addr) {H : jaa} {kp : Value → jaa → Prop} {k : Option Addr → jaa → Prop} (h : vQat p_ H kp k) : CallE Pg fQa1 [.pointer p_] (.one (.c .ptr)) H kp k := cEE (PL := PLs) jad jcL Tryz.func162 h
def vQau (p_ : Option Addr) (H : jaa) (kp : Value → jaa → Prop) (k : Option Addr → jaa → Prop) : Prop :=
 CallT Pg jfB [.pointer p_, .string (⟨#[119, 104, 105, 108, 101]⟩ : ByteArray)] (.one (.c .bool)) H fun (r1 : Bool) H1 =>
 Jn (σ := Int) (fun kk1 =>
 Br r1 (
 kk1 14 H1) (
 kk1 15 H1)) fun j1 H2 =>
 CallT Pg jfo [.pointer p_] (.one (.agg [(.int .i64), .str, (.int .i64)])) H2 fun (r2 : Int × ByteArray × Int) H3 =>
 CallT Pg jio [.int .i64 j1, .agg #[.int .i64 r2.1, .string r2.2.1, .int .i64 r2.2.2], .slice none 0 0] (.one (.c .ptr)) H3 fun (r3 : Option Addr) H4 =>
 CallE Pg jif [.pointer p_] (.one (.c .ptr)) H4 kp fun (r4 : Option Addr) H5 =>
 CallE Pg jns [.pointer p_] (.one (.c .ptr)) H5 kp fun (r5 : Option Addr) H6 =>
 Nw #[.pointer r4, .pointer r5] jbd H6 fun b1 H7 =>
 jab r3 fun a1 =>
 St (a1.add 3) (.slice (some (adr b1)) 2 2) H7 fun H8 =>
 k r3 H8
def jdj : Hint := (hq (hq (.two (hq (.join [(3, (.c (.int .i64)))] .no)) .no)))
theorem cQau (p_ : Option Addr) {H : jaa} {kp : Value → jaa → Prop} {k : Option Addr → jaa → Prop} (h : vQau p_ H kp k) : CallE Pg fQa2 [.pointer p_] (.one (.c .ptr)) H kp k := cEE (PL := PLs) jad jdj Tryz.func163 h
def vQav (p_ : Option Addr) (H : jaa) (kp : Value → jaa → Prop) (k : Option Addr → jaa → Prop) : Prop :=
 CallT Pg jfo [.pointer p_] (.one (.agg [(.int .i64), .str, (.int .i64)])) H fun (r1 : Int × ByteArray × Int) H1 =>
 CallT Pg jio [.int .i64 16, .agg #[.int .i64 r1.1, .string r1.2.1, .int .i64 r1.2.2], .slice none 0 0] (.one (.c .ptr)) H1 fun (r2 : Option Addr) H2 =>
 CallE Pg jif [.pointer p_] (.one (.c .ptr)) H2 kp fun (r3 : Option Addr) H3 =>
 CallE Pg jje [.pointer p_, .string (⟨#[44]⟩ : ByteArray)] (.one (.agg [(.int .i64), .str, (.int .i64)])) H3 kp fun (r4 : Int × ByteArray × Int) H4 =>
 CallE Pg jif [.pointer p_] (.one (.c .ptr)) H4 kp fun (r5 : Option Addr) H5 =>
 Nw #[.pointer r3, .pointer r5] jbd H5 fun b1 H6 =>
 jab r2 fun a1 =>
 St (a1.add 3) (.slice (some (adr b1)) 2 2) H6 fun H7 =>
 CallE Pg jks [.pointer p_, .pointer r2] (.one (.c .ptr)) H7 kp fun (r6 : Option Addr) H8 =>
 k r6 H8
def jdz : Hint := .no
theorem cQav (p_ : Option Addr) {H : jaa} {kp : Value → jaa → Prop} {k : Option Addr → jaa → Prop} (h : vQav p_ H kp k) : CallE Pg fQa3 [.pointer p_] (.one (.c .ptr)) H kp k := cEE (PL := PLs) jad jdz Tryz.func164 h
def vQaw (p_ : Option Addr) (H : jaa) (kp : Value → jaa → Prop) (k : Option Addr → jaa → Prop) : Prop :=
 CallT Pg jfo [.pointer p_] (.one (.agg [(.int .i64), .str, (.int .i64)])) H fun (r1 : Int × ByteArray × Int) H1 =>
 CallT Pg jio [.int .i64 17, .agg #[.int .i64 r1.1, .string r1.2.1, .int .i64 r1.2.2], .slice none 0 0] (.one (.c .ptr)) H1 fun (r2 : Option Addr) H2 =>
 CallT Pg jmY [.pointer p_, .string (⟨#[59]⟩ : ByteArray)] (.one (.c .bool)) H2 fun (r3 : Bool) H3 =>
 Br r3 (
 k r2 H3) (
 jab r2 fun a1 =>
 Ld .sl (a1.add 3) H3 fun (x1 : Sl) =>
 CallE Pg fQbb [.pointer p_] (.one (.c .ptr)) H3 kp fun (r4 : Option Addr) H4 =>
 Stab [(a1.add 3, slV x1)] H4 <|
 Nw #[.pointer r4] jbd H4 fun b1 H5 =>
 Stab [(a1.add 3, slV x1)] H5 <|
 App jbd 1 8 #[.pointer none] x1 ⟨some (adr b1), 1, 1⟩ H5 fun l1 H6 =>
 jab r2 fun a2 =>
 St (a2.add 3) (slV l1) H6 fun H7 =>
 LoopT (σ := Unit) (fun next1 s1 H8 =>
 CallT Pg jmY [.pointer p_, .string (⟨#[44]⟩ : ByteArray)] (.one (.c .bool)) H8 fun (r5 : Bool) H9 =>
 Br r5 (
 jab r2 fun a3 =>
 Ld .sl (a3.add 3) H9 fun (x2 : Sl) =>
 CallE Pg fQbb [.pointer p_] (.one (.c .ptr)) H9 kp fun (r6 : Option Addr) H10 =>
 Stab [(a3.add 3, slV x2)] H10 <|
 Nw #[.pointer r6] jbd H10 fun b2 H11 =>
 Stab [(a3.add 3, slV x2)] H11 <|
 App jbd 1 8 #[.pointer none] x2 ⟨some (adr b2), 1, 1⟩ H11 fun l2 H12 =>
 jab r2 fun a4 =>
 St (a4.add 3) (slV l2) H12 fun H13 =>
 next1 () H13) (
 CallE Pg jks [.pointer p_, .pointer r2] (.one (.c .ptr)) H9 kp fun (r7 : Option Addr) H14 =>
 k r7 H14)) () H7)
def jcU : Hint := (hq (hq (hq (hq (.two (.one (.loop [] .no)) .no)))))
theorem cQaw (p_ : Option Addr) {H : jaa} {kp : Value → jaa → Prop} {k : Option Addr → jaa → Prop} (h : vQaw p_ H kp k) : CallE Pg fQa4 [.pointer p_] (.one (.c .ptr)) H kp k := cEE (PL := PLs) jad jcU Tryz.func165 h
def vQax (p_ : Option Addr) (H : jaa) (kp : Value → jaa → Prop) (k : Option Addr → jaa → Prop) : Prop :=
 CallT Pg jfo [.pointer p_] (.one (.agg [(.int .i64), .str, (.int .i64)])) H fun (r1 : Int × ByteArray × Int) H1 =>
 CallT Pg jio [.int .i64 18, .agg #[.int .i64 r1.1, .string r1.2.1, .int .i64 r1.2.2], .slice none 0 0] (.one (.c .ptr)) H1 fun (r2 : Option Addr) H2 =>
 CallE Pg fQbb [.pointer p_] (.one (.c .ptr)) H2 kp fun (r3 : Option Addr) H3 =>
 Nw #[.pointer r3] jbd H3 fun b1 H4 =>
 jab r2 fun a1 =>
 St (a1.add 3) (.slice (some (adr b1)) 1 1) H4 fun H5 =>
 CallE Pg jks [.pointer p_, .pointer r2] (.one (.c .ptr)) H5 kp fun (r4 : Option Addr) H6 =>
 k r4 H6
def jd1 : Hint := .no
theorem cQax (p_ : Option Addr) {H : jaa} {kp : Value → jaa → Prop} {k : Option Addr → jaa → Prop} (h : vQax p_ H kp k) : CallE Pg fQa5 [.pointer p_] (.one (.c .ptr)) H kp k := cEE (PL := PLs) jad jd1 Tryz.func166 h
def vQay (p_ : Option Addr) (H : jaa) (kp : Value → jaa → Prop) (k : Option Addr → jaa → Prop) : Prop :=
 CallT Pg jfo [.pointer p_] (.one (.agg [(.int .i64), .str, (.int .i64)])) H fun (r1 : Int × ByteArray × Int) H1 =>
 CallT Pg jio [.int .i64 19, .agg #[.int .i64 r1.1, .string r1.2.1, .int .i64 r1.2.2], .slice none 0 0] (.one (.c .ptr)) H1 fun (r2 : Option Addr) H2 =>
 CallE Pg jkG [.pointer p_] (.one (.agg [(.int .i64), .str, (.int .i64)])) H2 kp fun (r3 : Int × ByteArray × Int) H3 =>
 jab r2 fun a1 =>
 St (a1.add 1) (.string r3.2.1) H3 fun H4 =>
 CallE Pg jks [.pointer p_, .pointer r2] (.one (.c .ptr)) H4 kp fun (r4 : Option Addr) H5 =>
 k r4 H5
def jcQ : Hint := .no
theorem cQay (p_ : Option Addr) {H : jaa} {kp : Value → jaa → Prop} {k : Option Addr → jaa → Prop} (h : vQay p_ H kp k) : CallE Pg fQa6 [.pointer p_] (.one (.c .ptr)) H kp k := cEE (PL := PLs) jad jcQ Tryz.func167 h
def vQaz (p_ : Option Addr) (H : jaa) (kp : Value → jaa → Prop) (k : Option Addr → jaa → Prop) : Prop :=
 CallT Pg jfB [.pointer p_, .string (⟨#[100, 105, 101]⟩ : ByteArray)] (.one (.c .bool)) H fun (r1 : Bool) H1 =>
 Jn (σ := Int) (fun kk1 =>
 Br r1 (
 kk1 20 H1) (
 kk1 21 H1)) fun j1 H2 =>
 CallT Pg jfo [.pointer p_] (.one (.agg [(.int .i64), .str, (.int .i64)])) H2 fun (r2 : Int × ByteArray × Int) H3 =>
 CallT Pg jio [.int .i64 j1, .agg #[.int .i64 r2.1, .string r2.2.1, .int .i64 r2.2.2], .slice none 0 0] (.one (.c .ptr)) H3 fun (r3 : Option Addr) H4 =>
 CallE Pg jks [.pointer p_, .pointer r3] (.one (.c .ptr)) H4 kp fun (r4 : Option Addr) H5 =>
 k r4 H5
def jcV : Hint := (hq (hq (.two (hq (.join [(3, (.c (.int .i64)))] .no)) .no)))
theorem cQaz (p_ : Option Addr) {H : jaa} {kp : Value → jaa → Prop} {k : Option Addr → jaa → Prop} (h : vQaz p_ H kp k) : CallE Pg fQa7 [.pointer p_] (.one (.c .ptr)) H kp k := cEE (PL := PLs) jad jcV Tryz.func168 h
def vQa0 (p_ : Option Addr) (H : jaa) (kp : Value → jaa → Prop) (k : Option Addr → jaa → Prop) : Prop :=
 CallT Pg jfo [.pointer p_] (.one (.agg [(.int .i64), .str, (.int .i64)])) H fun (r1 : Int × ByteArray × Int) H1 =>
 CallT Pg jio [.int .i64 22, .agg #[.int .i64 r1.1, .string r1.2.1, .int .i64 r1.2.2], .slice none 0 0] (.one (.c .ptr)) H1 fun (r2 : Option Addr) H2 =>
 CallE Pg jif [.pointer p_] (.one (.c .ptr)) H2 kp fun (r3 : Option Addr) H3 =>
 Nw #[.pointer r3] jbd H3 fun b1 H4 =>
 jab r2 fun a1 =>
 St (a1.add 3) (.slice (some (adr b1)) 1 1) H4 fun H5 =>
 CallE Pg jks [.pointer p_, .pointer r2] (.one (.c .ptr)) H5 kp fun (r4 : Option Addr) H6 =>
 k r4 H6
def jcJ : Hint := .no
theorem cQa0 (p_ : Option Addr) {H : jaa} {kp : Value → jaa → Prop} {k : Option Addr → jaa → Prop} (h : vQa0 p_ H kp k) : CallE Pg fQa8 [.pointer p_] (.one (.c .ptr)) H kp k := cEE (PL := PLs) jad jcJ Tryz.func169 h
def vQa1 (p_ : Option Addr) (H : jaa) (kp : Value → jaa → Prop) (k : Option Addr → jaa → Prop) : Prop :=
 CallE Pg jkG [.pointer p_] (.one (.agg [(.int .i64), .str, (.int .i64)])) H kp fun (r1 : Int × ByteArray × Int) H1 =>
 CallT Pg jhi [.int .i64 23, .agg #[.int .i64 r1.1, .string r1.2.1, .int .i64 r1.2.2], .slice none 0 0] (.one (.c .ptr)) H1 fun (r2 : Option Addr) H2 =>
 CallE Pg jmh [.pointer p_, .string (⟨#[123]⟩ : ByteArray)] (.one (.agg [(.int .i64), .str, (.int .i64)])) H2 kp fun (r3 : Int × ByteArray × Int) H3 =>
 LoopT (σ := Unit) (fun next1 s1 H4 =>
 CallT Pg jfB [.pointer p_, .string (⟨#[125]⟩ : ByteArray)] (.one (.c .bool)) H4 fun (r4 : Bool) H5 =>
 Br (!r4) (
 Jn (σ := Unit) (fun kk1 =>
 CallE Pg jkG [.pointer p_] (.one (.agg [(.int .i64), .str, (.int .i64)])) H5 kp fun (r5 : Int × ByteArray × Int) H7 =>
 CallT Pg jhi [.int .i64 24, .agg #[.int .i64 r5.1, .string r5.2.1, .int .i64 r5.2.2], .slice none 0 0] (.one (.c .ptr)) H7 fun (r6 : Option Addr) H8 =>
 CallE Pg jje [.pointer p_, .string (⟨#[58]⟩ : ByteArray)] (.one (.agg [(.int .i64), .str, (.int .i64)])) H8 kp fun (r7 : Int × ByteArray × Int) H9 =>
 CallE Pg jif [.pointer p_] (.one (.c .ptr)) H9 kp fun (r8 : Option Addr) H10 =>
 Nw #[.pointer r8] jbd H10 fun b1 H11 =>
 jab r6 fun a1 =>
 St (a1.add 3) (.slice (some (adr b1)) 1 1) H11 fun H12 =>
 jab r2 fun a2 =>
 Ld .sl (a2.add 3) H12 fun (x1 : Sl) =>
 Nw #[.pointer r6] jbd H12 fun b2 H13 =>
 App jbd 1 8 #[.pointer none] x1 ⟨some (adr b2), 1, 1⟩ H13 fun l1 H14 =>
 jab r2 fun a3 =>
 St (a3.add 3) (slV l1) H14 fun H15 =>
 CallT Pg jfB [.pointer p_, .string (⟨#[125]⟩ : ByteArray)] (.one (.c .bool)) H15 fun (r9 : Bool) H16 =>
 Jn (σ := Unit) (fun kk2 =>
 Br (!r9) (
 CallE Pg jje [.pointer p_, .string (⟨#[44]⟩ : ByteArray)] (.one (.agg [(.int .i64), .str, (.int .i64)])) H16 kp fun (r10 : Int × ByteArray × Int) H18 =>
 CallT Pg fQap [.pointer p_] (.one (.c .bool)) H18 fun (r11 : Bool) H19 =>
 Jn (σ := Unit) (fun kk3 =>
 Br (!r11) (
 CallE Pg jk4 [.pointer p_, .int .i64 100] (.tup []) H19 kp fun (r12 : Unit) H21 =>
 kk3 () H21) (
 kk3 () H19)) fun j3 H20 =>
 kk2 () H20) (
 kk2 () H16)) fun j2 H17 =>
 kk1 () H17) fun j1 H6 =>
 next1 () H6) (
 CallE Pg fQat [.pointer p_, .string (⟨#[125]⟩ : ByteArray)] (.tup []) H5 kp fun (r13 : Unit) H22 =>
 k r2 H22)) () H3
def jdL : Hint := (hq (hq (hq (.two (.one (.loop [] (hq (.join [] (.one (hq (hq (hq (hq (hq (.join [] (.two (hq (hq (.join [] .no))) .no)))))))))))) .no))))
theorem cQa1 (p_ : Option Addr) {H : jaa} {kp : Value → jaa → Prop} {k : Option Addr → jaa → Prop} (h : vQa1 p_ H kp k) : CallE Pg fQbb [.pointer p_] (.one (.c .ptr)) H kp k := cEE (PL := PLs) jad jdL Tryz.func188 h
def vQa2 (p_ : Option Addr) (H : jaa) (kp : Value → jaa → Prop) (k : Option Addr → jaa → Prop) : Prop :=
 CallE Pg fQbc [.pointer p_, .int .i64 1] (.one (.c .ptr)) H kp fun (r1 : Option Addr) H1 =>
 CallT Pg jfB [.pointer p_, .string (⟨#[63]⟩ : ByteArray)] (.one (.c .bool)) H1 fun (r2 : Bool) H2 =>
 Br (!r2) (
 k r1 H2) (
 CallE Pg jmh [.pointer p_, .string (⟨#[63]⟩ : ByteArray)] (.one (.agg [(.int .i64), .str, (.int .i64)])) H2 kp fun (r3 : Int × ByteArray × Int) H3 =>
 Nw #[.int .i64 0, .string ByteArray.empty, .int .i64 0] jbP H3 fun b1 H4 =>
 St ((adr b1).add 0) (.int .i64 r3.1) H4 fun H5 =>
 St ((adr b1).add 1) (.string r3.2.1) H5 fun H6 =>
 St ((adr b1).add 2) (.int .i64 r3.2.2) H6 fun H7 =>
 CallE Pg jif [.pointer p_] (.one (.c .ptr)) H7 kp fun (r4 : Option Addr) H8 =>
 CallE Pg jje [.pointer p_, .string (⟨#[58]⟩ : ByteArray)] (.one (.agg [(.int .i64), .str, (.int .i64)])) H8 kp fun (r5 : Int × ByteArray × Int) H9 =>
 CallE Pg jif [.pointer p_] (.one (.c .ptr)) H9 kp fun (r6 : Option Addr) H10 =>
 jab p_ fun a1 =>
 Ld (.int .i64) (a1.add 1) H10 fun (x1 : Int) =>
 Lt (IntKind.wrap .i64 (x1 - 1)) fun t1 =>
 jab p_ fun a2 =>
 St (a2.add 1) (.int .i64 t1) H10 fun H11 =>
 LdC [(.int .i64), .str, (.int .i64)] (adr b1) H11 fun (c1 : Int × ByteArray × Int) =>
 Nw #[.pointer r1, .pointer r4, .pointer r6] jbd H11 fun b2 H12 =>
 CallT Pg jio [.int .i64 35, .agg #[.int .i64 c1.1, .string c1.2.1, .int .i64 c1.2.2], .slice (some (adr b2)) 3 3] (.one (.c .ptr)) H12 fun (r7 : Option Addr) H13 =>
 k r7 H13)
def jdK : Hint := .no
theorem cQa2 (p_ : Option Addr) {H : jaa} {kp : Value → jaa → Prop} {k : Option Addr → jaa → Prop} (h : vQa2 p_ H kp k) : CallE Pg jif [.pointer p_] (.one (.c .ptr)) H kp k := cEE (PL := PLs) jad jdK Tryz.func171 h
def vQa3 (p_ : Option Addr) (level_ : Int) (H : jaa) (kp : Value → jaa → Prop) (k : Option Addr → jaa → Prop) : Prop :=
 Br (decide (level_ > 6)) (
 CallE Pg fQbd [.pointer p_] (.one (.c .ptr)) H kp fun (r1 : Option Addr) H1 =>
 k r1 H1) (
 Lt (IntKind.wrap .i64 (level_ + 1)) fun t1 =>
 CallE Pg fQbc [.pointer p_, .int .i64 t1] (.one (.c .ptr)) H kp fun (r2 : Option Addr) H2 =>
 LoopT (σ := Option Addr) (fun next1 s1 H3 =>
 Jn (σ := Bool) (fun kk1 =>
 jab p_ fun a1 =>
 Ld .sl a1 H3 fun (x1 : Sl) =>
 IxA 3 x1 0 fun a2 =>
 Ld (.int .i64) a2 H3 fun (x2 : Int) =>
 Br (x2 == 3) (
 jab p_ fun a3 =>
 Ld .sl a3 H3 fun (x3 : Sl) =>
 IxA 3 x3 0 fun a4 =>
 Ld .str (a4.add 1) H3 fun (x4 : ByteArray) =>
 CallT Pg fQaw [.string x4] (.one (.c (.int .i64))) H3 fun (r3 : Int) H5 =>
 kk1 (r3 == level_) H5) (
 kk1 false H3)) fun j1 H4 =>
 Br j1 (
 CallT Pg jfo [.pointer p_] (.one (.agg [(.int .i64), .str, (.int .i64)])) H4 fun (r4 : Int × ByteArray × Int) H6 =>
 Nw #[.int .i64 0, .string ByteArray.empty, .int .i64 0] jbP H6 fun b1 H7 =>
 St ((adr b1).add 0) (.int .i64 r4.1) H7 fun H8 =>
 St ((adr b1).add 1) (.string r4.2.1) H8 fun H9 =>
 St ((adr b1).add 2) (.int .i64 r4.2.2) H9 fun H10 =>
 LdC [(.int .i64), .str, (.int .i64)] (adr b1) H10 fun (c1 : Int × ByteArray × Int) =>
 Lt (IntKind.wrap .i64 (level_ + 1)) fun t2 =>
 CallE Pg fQbc [.pointer p_, .int .i64 t2] (.one (.c .ptr)) H10 kp fun (r5 : Option Addr) H11 =>
 Stab [((adr b1).add 0, .int .i64 c1.1), ((adr b1).add 1, .string c1.2.1), ((adr b1).add 2, .int .i64 c1.2.2)] H11 <|
 Nw #[.pointer s1, .pointer r5] jbd H11 fun b2 H12 =>
 Stab [((adr b1).add 0, .int .i64 c1.1), ((adr b1).add 1, .string c1.2.1), ((adr b1).add 2, .int .i64 c1.2.2)] H12 <|
 CallT Pg jhi [.int .i64 33, .agg #[.int .i64 c1.1, .string c1.2.1, .int .i64 c1.2.2], .slice (some (adr b2)) 2 2] (.one (.c .ptr)) H12 fun (r6 : Option Addr) H13 =>
 next1 r6 H13) (
 k s1 H4)) r2 H2)
def jcO : Hint := (hq (hq (hq (.two (.one (.loop [(5, (.c .ptr))] (.two (.two (.join [(34, (.c .bool))] .no) .no) .no))) .no))))
theorem cQa3 (p_ : Option Addr) (level_ : Int) {H : jaa} {kp : Value → jaa → Prop} {k : Option Addr → jaa → Prop} (h : vQa3 p_ level_ H kp k) : CallE Pg fQbc [.pointer p_, .int .i64 level_] (.one (.c .ptr)) H kp k := cEE (PL := PLs) jad jcO Tryz.func189 h
def vQa4 (p_ : Option Addr) (H : jaa) (kp : Value → jaa → Prop) (k : Option Addr → jaa → Prop) : Prop :=
 Nw #[.string (⟨#[45]⟩ : ByteArray), .string (⟨#[33]⟩ : ByteArray)] jcC H fun b1 H1 =>
 LoopT (σ := Int) (fun next1 s1 H2 =>
 Br (decide (s1 < 2)) (
 IxA 1 ⟨some (adr b1), 2, 2⟩ s1 fun a1 =>
 Ld .str a1 H2 fun (x1 : ByteArray) =>
 CallT Pg jfB [.pointer p_, .string x1] (.one (.c .bool)) H2 fun (r1 : Bool) H3 =>
 Br r1 (
 CallE Pg jmh [.pointer p_, .string x1] (.one (.agg [(.int .i64), .str, (.int .i64)])) H3 kp fun (r2 : Int × ByteArray × Int) H4 =>
 Nw #[.int .i64 0, .string ByteArray.empty, .int .i64 0] jbP H4 fun b2 H5 =>
 St ((adr b2).add 0) (.int .i64 r2.1) H5 fun H6 =>
 St ((adr b2).add 1) (.string r2.2.1) H6 fun H7 =>
 St ((adr b2).add 2) (.int .i64 r2.2.2) H7 fun H8 =>
 LdC [(.int .i64), .str, (.int .i64)] (adr b2) H8 fun (c1 : Int × ByteArray × Int) =>
 CallE Pg fQbd [.pointer p_] (.one (.c .ptr)) H8 kp fun (r3 : Option Addr) H9 =>
 Stab [((adr b2).add 0, .int .i64 c1.1), ((adr b2).add 1, .string c1.2.1), ((adr b2).add 2, .int .i64 c1.2.2)] H9 <|
 Nw #[.pointer r3] jbd H9 fun b3 H10 =>
 Stab [((adr b2).add 0, .int .i64 c1.1), ((adr b2).add 1, .string c1.2.1), ((adr b2).add 2, .int .i64 c1.2.2)] H10 <|
 CallT Pg jhi [.int .i64 34, .agg #[.int .i64 c1.1, .string c1.2.1, .int .i64 c1.2.2], .slice (some (adr b3)) 1 1] (.one (.c .ptr)) H10 fun (r4 : Option Addr) H11 =>
 jab p_ fun a2 =>
 Ld (.int .i64) (a2.add 1) H11 fun (x2 : Int) =>
 Lt (IntKind.wrap .i64 (x2 - 1)) fun t1 =>
 jab p_ fun a3 =>
 St (a3.add 1) (.int .i64 t1) H11 fun H12 =>
 k r4 H12) (
 Lt (IntKind.wrap .i64 (s1 + 1)) fun t2 =>
 next1 t2 H3)) (
 CallE Pg fQbe [.pointer p_] (.one (.c .ptr)) H2 kp fun (r5 : Option Addr) H13 =>
 k r5 H13)) 0 H1
def jc2 : Hint := (hq (.two (hq (.one (.loop [(9, (.c (.int .i64)))] .no))) .no))
theorem cQa4 (p_ : Option Addr) {H : jaa} {kp : Value → jaa → Prop} {k : Option Addr → jaa → Prop} (h : vQa4 p_ H kp k) : CallE Pg fQbd [.pointer p_] (.one (.c .ptr)) H kp k := cEE (PL := PLs) jad jc2 Tryz.func195 h
def vQa5 (p_ : Option Addr) (H : jaa) (kp : Value → jaa → Prop) (k : Option Addr → jaa → Prop) : Prop :=
 jab p_ fun a1 =>
 Ld .sl a1 H fun (x1 : Sl) =>
 IxA 3 x1 0 fun a2 =>
 LdC [(.int .i64), .str, (.int .i64)] a2 H fun (c1 : Int × ByteArray × Int) =>
 Nw #[.int .i64 0, .string ByteArray.empty, .int .i64 0] jbP H fun b1 H1 =>
 St ((adr b1).add 0) (.int .i64 c1.1) H1 fun H2 =>
 St ((adr b1).add 1) (.string c1.2.1) H2 fun H3 =>
 St ((adr b1).add 2) (.int .i64 c1.2.2) H3 fun H4 =>
 Ld (.int .i64) (adr b1) H4 fun (x2 : Int) =>
 Br (x2 == 2) (
 CallT Pg jfo [.pointer p_] (.one (.agg [(.int .i64), .str, (.int .i64)])) H4 fun (r1 : Int × ByteArray × Int) H5 =>
 CallT Pg jio [.int .i64 30, .agg #[.int .i64 r1.1, .string r1.2.1, .int .i64 r1.2.2], .slice none 0 0] (.one (.c .ptr)) H5 fun (r2 : Option Addr) H6 =>
 Ld .str ((adr b1).add 1) H6 fun (x3 : ByteArray) =>
 CallT Pg fQao [.string x3, .int .i64 10, .int .i64 64] (.tup [(.c (.int .i64)), (.c .raw)]) H6 fun (r3 : Int × Value) H7 =>
 jab r2 fun a3 =>
 St (a3.add 2) (.int .i64 r3.1) H7 fun H8 =>
 k r2 H8) (
 CallT Pg jfB [.pointer p_, .string (⟨#[40]⟩ : ByteArray)] (.one (.c .bool)) H4 fun (r4 : Bool) H9 =>
 Br r4 (
 CallE Pg jmh [.pointer p_, .string (⟨#[40]⟩ : ByteArray)] (.one (.agg [(.int .i64), .str, (.int .i64)])) H9 kp fun (r5 : Int × ByteArray × Int) H10 =>
 CallE Pg jif [.pointer p_] (.one (.c .ptr)) H10 kp fun (r6 : Option Addr) H11 =>
 CallE Pg fQat [.pointer p_, .string (⟨#[41]⟩ : ByteArray)] (.tup []) H11 kp fun (r7 : Unit) H12 =>
 k r6 H12) (
 Jn (σ := Bool) (fun kk1 =>
 Ld (.int .i64) (adr b1) H9 fun (x4 : Int) =>
 Br (x4 == 1) (
 Ld .str ((adr b1).add 1) H9 fun (x5 : ByteArray) =>
 CallT Pg fQax [.string x5] (.one (.c .bool)) H9 fun (r8 : Bool) H14 =>
 kk1 r8 H14) (
 kk1 false H9)) fun j1 H13 =>
 Br j1 (
 CallT Pg jfo [.pointer p_] (.one (.agg [(.int .i64), .str, (.int .i64)])) H13 fun (r9 : Int × ByteArray × Int) H15 =>
 LdC [(.int .i64), .str, (.int .i64)] (adr b1) H15 fun (c2 : Int × ByteArray × Int) =>
 CallE Pg fQbf [.pointer p_] (.one (.c .sl)) H15 kp fun (r10 : Sl) H16 =>
 Stab [((adr b1).add 0, .int .i64 c2.1), ((adr b1).add 1, .string c2.2.1), ((adr b1).add 2, .int .i64 c2.2.2)] H16 <|
 CallT Pg jhi [.int .i64 36, .agg #[.int .i64 c2.1, .string c2.2.1, .int .i64 c2.2.2], slV r10] (.one (.c .ptr)) H16 fun (r11 : Option Addr) H17 =>
 k r11 H17) (
 CallT Pg jfB [.pointer p_, .string (⟨#[104, 97, 115]⟩ : ByteArray)] (.one (.c .bool)) H13 fun (r12 : Bool) H18 =>
 Br r12 (
 CallT Pg jfo [.pointer p_] (.one (.agg [(.int .i64), .str, (.int .i64)])) H18 fun (r13 : Int × ByteArray × Int) H19 =>
 CallE Pg jje [.pointer p_, .string (⟨#[40]⟩ : ByteArray)] (.one (.agg [(.int .i64), .str, (.int .i64)])) H19 kp fun (r14 : Int × ByteArray × Int) H20 =>
 LdC [(.int .i64), .str, (.int .i64)] (adr b1) H20 fun (c3 : Int × ByteArray × Int) =>
 CallT Pg jio [.int .i64 37, .agg #[.int .i64 c3.1, .string c3.2.1, .int .i64 c3.2.2], .slice none 0 0] (.one (.c .ptr)) H20 fun (r15 : Option Addr) H21 =>
 CallE Pg jkG [.pointer p_] (.one (.agg [(.int .i64), .str, (.int .i64)])) H21 kp fun (r16 : Int × ByteArray × Int) H22 =>
 jab r15 fun a4 =>
 St (a4.add 1) (.string r16.2.1) H22 fun H23 =>
 CallE Pg jje [.pointer p_, .string (⟨#[41]⟩ : ByteArray)] (.one (.agg [(.int .i64), .str, (.int .i64)])) H23 kp fun (r17 : Int × ByteArray × Int) H24 =>
 k r15 H24) (
 CallT Pg jfB [.pointer p_, .string (⟨#[116, 105, 99, 107]⟩ : ByteArray)] (.one (.c .bool)) H18 fun (r18 : Bool) H25 =>
 Jn (σ := Bool) (fun kk2 =>
 Br r18 (
 kk2 true H25) (
 CallT Pg jfB [.pointer p_, .string (⟨#[109, 101]⟩ : ByteArray)] (.one (.c .bool)) H25 fun (r19 : Bool) H27 =>
 kk2 r19 H27)) fun j2 H26 =>
 Br j2 (
 CallT Pg jfo [.pointer p_] (.one (.agg [(.int .i64), .str, (.int .i64)])) H26 fun (r20 : Int × ByteArray × Int) H28 =>
 CallT Pg jhi [.int .i64 38, .agg #[.int .i64 r20.1, .string r20.2.1, .int .i64 r20.2.2], .slice none 0 0] (.one (.c .ptr)) H28 fun (r21 : Option Addr) H29 =>
 k r21 H29) (
 CallE Pg jkG [.pointer p_] (.one (.agg [(.int .i64), .str, (.int .i64)])) H26 kp fun (r22 : Int × ByteArray × Int) H30 =>
 CallT Pg jfB [.pointer p_, .string (⟨#[40]⟩ : ByteArray)] (.one (.c .bool)) H30 fun (r23 : Bool) H31 =>
 Br r23 (
 LdC [(.int .i64), .str, (.int .i64)] (adr b1) H31 fun (c4 : Int × ByteArray × Int) =>
 CallE Pg fQbf [.pointer p_] (.one (.c .sl)) H31 kp fun (r24 : Sl) H32 =>
 Stab [((adr b1).add 0, .int .i64 c4.1), ((adr b1).add 1, .string c4.2.1), ((adr b1).add 2, .int .i64 c4.2.2)] H32 <|
 CallT Pg jhi [.int .i64 36, .agg #[.int .i64 c4.1, .string c4.2.1, .int .i64 c4.2.2], slV r24] (.one (.c .ptr)) H32 fun (r25 : Option Addr) H33 =>
 k r25 H33) (
 CallT Pg jmY [.pointer p_, .string (⟨#[46]⟩ : ByteArray)] (.one (.c .bool)) H31 fun (r26 : Bool) H34 =>
 Br r26 (
 LdC [(.int .i64), .str, (.int .i64)] (adr b1) H34 fun (c5 : Int × ByteArray × Int) =>
 CallE Pg jkG [.pointer p_] (.one (.agg [(.int .i64), .str, (.int .i64)])) H34 kp fun (r27 : Int × ByteArray × Int) H35 =>
 Stab [((adr b1).add 0, .int .i64 c5.1), ((adr b1).add 1, .string c5.2.1), ((adr b1).add 2, .int .i64 c5.2.2)] H35 <|
 CallT Pg jhi [.int .i64 31, .agg #[.int .i64 r27.1, .string r27.2.1, .int .i64 r27.2.2], .slice none 0 0] (.one (.c .ptr)) H35 fun (r28 : Option Addr) H36 =>
 Stab [((adr b1).add 0, .int .i64 c5.1), ((adr b1).add 1, .string c5.2.1), ((adr b1).add 2, .int .i64 c5.2.2)] H36 <|
 Nw #[.pointer r28] jbd H36 fun b2 H37 =>
 Stab [((adr b1).add 0, .int .i64 c5.1), ((adr b1).add 1, .string c5.2.1), ((adr b1).add 2, .int .i64 c5.2.2)] H37 <|
 CallT Pg jhi [.int .i64 32, .agg #[.int .i64 c5.1, .string c5.2.1, .int .i64 c5.2.2], .slice (some (adr b2)) 1 1] (.one (.c .ptr)) H37 fun (r29 : Option Addr) H38 =>
 k r29 H38) (
 LdC [(.int .i64), .str, (.int .i64)] (adr b1) H34 fun (c6 : Int × ByteArray × Int) =>
 CallT Pg jhi [.int .i64 31, .agg #[.int .i64 c6.1, .string c6.2.1, .int .i64 c6.2.2], .slice none 0 0] (.one (.c .ptr)) H34 fun (r30 : Option Addr) H39 =>
 k r30 H39)))))))
def jcv : Hint := (hq (hq (.two (.one (hq (hq (hq (hq (.two (.join [(40, (.c .bool))] .no) (hq (hq (hq (.two (hq (.join [(73, (.c .bool))] .no)) .no)))))))))) .no)))
theorem cQa5 (p_ : Option Addr) {H : jaa} {kp : Value → jaa → Prop} {k : Option Addr → jaa → Prop} (h : vQa5 p_ H kp k) : CallE Pg fQbe [.pointer p_] (.one (.c .ptr)) H kp k := cEE (PL := PLs) jad jcv Tryz.func205 h
def vQa6 (p_ : Option Addr) (H : jaa) (kp : Value → jaa → Prop) (k : Sl → jaa → Prop) : Prop :=
 CallE Pg jmh [.pointer p_, .string (⟨#[40]⟩ : ByteArray)] (.one (.agg [(.int .i64), .str, (.int .i64)])) H kp fun (r1 : Int × ByteArray × Int) H1 =>
 CallT Pg jfB [.pointer p_, .string (⟨#[41]⟩ : ByteArray)] (.one (.c .bool)) H1 fun (r2 : Bool) H2 =>
 Jn (σ := Sl) (fun kk1 =>
 Br (!r2) (
 CallE Pg jif [.pointer p_] (.one (.c .ptr)) H2 kp fun (r3 : Option Addr) H4 =>
 Nw #[.pointer r3] jbd H4 fun b1 H5 =>
 App jbd 1 8 #[.pointer none] ⟨none, 0, 0⟩ ⟨some (adr b1), 1, 1⟩ H5 fun l1 H6 =>
 LoopT (σ := Sl) (fun next1 s1 H7 =>
 CallT Pg jmY [.pointer p_, .string (⟨#[44]⟩ : ByteArray)] (.one (.c .bool)) H7 fun (r4 : Bool) H8 =>
 Br r4 (
 CallE Pg jif [.pointer p_] (.one (.c .ptr)) H8 kp fun (r5 : Option Addr) H9 =>
 Nw #[.pointer r5] jbd H9 fun b2 H10 =>
 App jbd 1 8 #[.pointer none] s1 ⟨some (adr b2), 1, 1⟩ H10 fun l2 H11 =>
 next1 l2 H11) (
 kk1 s1 H8)) l1 H6) (
 kk1 ⟨none, 0, 0⟩ H2)) fun j1 H3 =>
 CallE Pg fQat [.pointer p_, .string (⟨#[41]⟩ : ByteArray)] (.tup []) H3 kp fun (r6 : Unit) H12 =>
 k j1 H12
def jdJ : Hint := (hq (hq (hq (.two (hq (.join [(3, (.c .sl))] (.two (hq (.one (.loop [(3, (.c .sl))] .no))) .no))) .no))))
theorem cQa6 (p_ : Option Addr) {H : jaa} {kp : Value → jaa → Prop} {k : Sl → jaa → Prop} (h : vQa6 p_ H kp k) : CallE Pg fQbf [.pointer p_] (.one (.c .sl)) H kp k := cEE (PL := PLs) jad jdJ Tryz.func211 h
def vQa7 (word_ : ByteArray) (H : jaa) (k : Value → jaa → Prop) : Prop :=
 Br ((word_.toList == (⟨#[108, 101, 116]⟩ : ByteArray).toList)) (
 k ((.func (.func 161) #[] #[])) H) (
 Br ((word_.toList == (⟨#[105, 102]⟩ : ByteArray).toList)) (
 k ((.func (.func 162) #[] #[])) H) (
 Jn (σ := Bool) (fun kk1 =>
 Br ((word_.toList == (⟨#[119, 104, 105, 108, 101]⟩ : ByteArray).toList)) (
 kk1 true H) (
 kk1 ((word_.toList == (⟨#[114, 101, 112, 101, 97, 116]⟩ : ByteArray).toList)) H)) fun j1 H1 =>
 Br j1 (
 k ((.func (.func 163) #[] #[])) H1) (
 Br ((word_.toList == (⟨#[101, 109, 105, 116]⟩ : ByteArray).toList)) (
 k ((.func (.func 164) #[] #[])) H1) (
 Br ((word_.toList == (⟨#[115, 112, 97, 119, 110]⟩ : ByteArray).toList)) (
 k ((.func (.func 165) #[] #[])) H1) (
 Br ((word_.toList == (⟨#[97, 100, 100]⟩ : ByteArray).toList)) (
 k ((.func (.func 166) #[] #[])) H1) (
 Br ((word_.toList == (⟨#[114, 101, 109, 111, 118, 101]⟩ : ByteArray).toList)) (
 k ((.func (.func 167) #[] #[])) H1) (
 Jn (σ := Bool) (fun kk2 =>
 Br ((word_.toList == (⟨#[100, 105, 101]⟩ : ByteArray).toList)) (
 kk2 true H1) (
 kk2 ((word_.toList == (⟨#[115, 116, 111, 112]⟩ : ByteArray).toList)) H1)) fun j2 H2 =>
 Br j2 (
 k ((.func (.func 168) #[] #[])) H2) (
 Br ((word_.toList == (⟨#[114, 101, 116, 117, 114, 110]⟩ : ByteArray).toList)) (
 k ((.func (.func 169) #[] #[])) H2) (
 k (.nilFunc) H2)))))))))
def jf1 : Hint := (hq (.two (hq (.one (hq (hq (hq (hq (.two (hq (.join [(8, (.c .bool))] .no)) (hq (hq (hq (hq (hq (hq (hq (hq (hq (.two (hq (.join [(19, (.c .bool))] .no)) .no))))))))))))))))) .no))
theorem cQa7 (word_ : ByteArray) {H : jaa} {k : Value → jaa → Prop} (h : vQa7 word_ H k) : CallT Pg fQay [.string word_] (.one (.c .raw)) H k := cE jad jf1 Tryz.func143 h
def vQa8 (op_ : Int) (t_ : Int × ByteArray × Int) (l_ : Sl) (H : jaa) (k : Option Addr → jaa → Prop) : Prop :=
 Nw #[.int .i64 t_.1, .string t_.2.1, .int .i64 t_.2.2] jbP H fun b1 H1 =>
 Ld (.int .i64) ((adr b1).add 2) H1 fun (x1 : Int) =>
 Nw #[.int .i64 op_, .string ByteArray.empty, .int .i64 0, slV l_, .int .i64 x1] jdY H1 fun b2 H2 =>
 k (some (adr b2)) H2
def jhg : Hint := .no
theorem cQa8 (op_ : Int) (t_ : Int × ByteArray × Int) (l_ : Sl) {H : jaa} {k : Option Addr → jaa → Prop} (h : vQa8 op_ t_ l_ H k) : CallT Pg jio [.int .i64 op_, .agg #[.int .i64 t_.1, .string t_.2.1, .int .i64 t_.2.2], slV l_] (.one (.c .ptr)) H k := cE jad jhg Tryz.func83 h
def vQa9 (op_ : Int) (t_ : Int × ByteArray × Int) (l_ : Sl) (H : jaa) (k : Option Addr → jaa → Prop) : Prop :=
 Nw #[.int .i64 t_.1, .string t_.2.1, .int .i64 t_.2.2] jbP H fun b1 H1 =>
 Ld .str ((adr b1).add 1) H1 fun (x1 : ByteArray) =>
 Ld (.int .i64) ((adr b1).add 2) H1 fun (x2 : Int) =>
 Nw #[.int .i64 op_, .string x1, .int .i64 0, slV l_, .int .i64 x2] jdY H1 fun b2 H2 =>
 k (some (adr b2)) H2
def jfZ : Hint := .no
theorem cQa9 (op_ : Int) (t_ : Int × ByteArray × Int) (l_ : Sl) {H : jaa} {k : Option Addr → jaa → Prop} (h : vQa9 op_ t_ l_ H k) : CallT Pg jhi [.int .i64 op_, .agg #[.int .i64 t_.1, .string t_.2.1, .int .i64 t_.2.2], slV l_] (.one (.c .ptr)) H k := cE jad jfZ Tryz.func79 h
def vQba (sign_ : ByteArray) (H : jaa) (k : Int → jaa → Prop) : Prop :=
 Br ((sign_.toList == (⟨#[124, 124]⟩ : ByteArray).toList)) (
 k 1 H) (
 Br ((sign_.toList == (⟨#[38, 38]⟩ : ByteArray).toList)) (
 k 2 H) (
 Jn (σ := Bool) (fun kk1 =>
 Br ((sign_.toList == (⟨#[61, 61]⟩ : ByteArray).toList)) (
 kk1 true H) (
 kk1 ((sign_.toList == (⟨#[33, 61]⟩ : ByteArray).toList)) H)) fun j1 H1 =>
 Br j1 (
 k 3 H1) (
 Jn (σ := Bool) (fun kk2 =>
 Br ((sign_.toList == (⟨#[60]⟩ : ByteArray).toList)) (
 kk2 true H1) (
 Jn (σ := Bool) (fun kk3 =>
 Br ((sign_.toList == (⟨#[60, 61]⟩ : ByteArray).toList)) (
 kk3 true H1) (
 Jn (σ := Bool) (fun kk4 =>
 Br ((sign_.toList == (⟨#[62]⟩ : ByteArray).toList)) (
 kk4 true H1) (
 kk4 ((sign_.toList == (⟨#[62, 61]⟩ : ByteArray).toList)) H1)) fun j4 H4 =>
 kk3 j4 H4)) fun j3 H3 =>
 kk2 j3 H3)) fun j2 H2 =>
 Br j2 (
 k 4 H2) (
 Jn (σ := Bool) (fun kk5 =>
 Br ((sign_.toList == (⟨#[43]⟩ : ByteArray).toList)) (
 kk5 true H2) (
 kk5 ((sign_.toList == (⟨#[45]⟩ : ByteArray).toList)) H2)) fun j5 H5 =>
 Br j5 (
 k 5 H5) (
 Jn (σ := Bool) (fun kk6 =>
 Br ((sign_.toList == (⟨#[42]⟩ : ByteArray).toList)) (
 kk6 true H5) (
 Jn (σ := Bool) (fun kk7 =>
 Br ((sign_.toList == (⟨#[47]⟩ : ByteArray).toList)) (
 kk7 true H5) (
 kk7 ((sign_.toList == (⟨#[37]⟩ : ByteArray).toList)) H5)) fun j7 H7 =>
 kk6 j7 H7)) fun j6 H6 =>
 Br j6 (
 k 6 H6) (
 k 0 H6))))))
def jfq : Hint := (hq (.two (hq (.one (hq (hq (hq (hq (.two (hq (.join [(8, (.c .bool))] .no)) (hq (.two (hq (.join [(11, (.c .bool))] (hq (hq (.join [(11, (.c .bool))] (hq (hq (.join [(11, (.c .bool))] .no)))))))) (hq (.two (hq (.join [(16, (.c .bool))] .no)) (hq (.two (hq (.join [(19, (.c .bool))] (hq (hq (.join [(19, (.c .bool))] .no))))) .no))))))))))))) .no))
theorem cQba (sign_ : ByteArray) {H : jaa} {k : Int → jaa → Prop} (h : vQba sign_ H k) : CallT Pg fQaw [.string sign_] (.one (.c (.int .i64))) H k := cE jad jfq Tryz.func128 h
def vQbb (s_ : ByteArray) (H : jaa) (k : Bool → jaa → Prop) : Prop :=
 Nw #[.string (⟨#[114, 97, 110, 100]⟩ : ByteArray), .string (⟨#[105, 110, 112, 117, 116]⟩ : ByteArray), .string (⟨#[109, 105, 110]⟩ : ByteArray), .string (⟨#[109, 97, 120]⟩ : ByteArray), .string (⟨#[97, 98, 115]⟩ : ByteArray)] jcC H fun b1 H1 =>
 CallT Pg fQau [.slice (some (adr b1)) 5 5, .string s_] (.one (.c .bool)) H1 fun (r1 : Bool) H2 =>
 k r1 H2
def jfl : Hint := .no
theorem cQbb (s_ : ByteArray) {H : jaa} {k : Bool → jaa → Prop} (h : vQbb s_ H k) : CallT Pg fQax [.string s_] (.one (.c .bool)) H k := cE jad jfl Tryz.func129 h
def vQbc (s_ : ByteArray) (H : jaa) (k : Bool → jaa → Prop) : Prop :=
 Jn (σ := Bool) (fun kk1 =>
 Br ((s_.toList == (⟨#[]⟩ : ByteArray).toList)) (
 kk1 true H) (
 Br (decide ((s_.size : Int) > 16)) (
 kk1 true H) (
 CallT Pg fQav [] (.one (.c .sl)) H fun (r1 : Sl) H2 =>
 CallT Pg fQau [slV r1, .string s_] (.one (.c .bool)) H2 fun (r2 : Bool) H3 =>
 kk1 r2 H3))) fun j1 H1 =>
 Br j1 (
 k false H1) (
 S2B TQag s_ H1 fun l1 H4 =>
 LoopT (σ := Int) (fun next1 s1 H5 =>
 Br (decide (s1 < (l1.len : Int))) (
 IxA 1 l1 s1 fun a1 =>
 Ld (.int .u8) a1 H5 fun (x1 : Int) =>
 Jn (σ := Bool) (fun kk2 =>
 Lt (bits .or .u8 x1 32) fun t1 =>
 Br (decide (t1 ≥ 97)) (
 Lt (bits .or .u8 x1 32) fun t2 =>
 kk2 (decide (t2 ≤ 122)) H5) (
 kk2 false H5)) fun j2 H6 =>
 Jn (σ := Bool) (fun kk3 =>
 Br (!j2) (
 Br (s1 == 0) (
 kk3 true H6) (
 Br (x1 != 95) (
 Br (decide (x1 < 48)) (
 kk3 true H6) (
 kk3 (decide (x1 > 57)) H6)) (
 kk3 false H6))) (
 kk3 false H6)) fun j3 H7 =>
 Br j3 (
 k false H7) (
 Lt (IntKind.wrap .i64 (s1 + 1)) fun t3 =>
 next1 t3 H7)) (
 k true H5)) 0 H4)
def jfD : Hint := (hq (.two (.two (.join [(17, (.c .bool))] .no) .no) (.two (hq (.one (.loop [(21, (.c (.int .i64)))] (hq (hq (.two (.one (hq (.two (.join [(5, (.c .bool))] .no) (.two (.join [(51, (.c .bool))] .no) .no)))) .no)))))) .no)))
theorem cQbc (s_ : ByteArray) {H : jaa} {k : Bool → jaa → Prop} (h : vQbc s_ H k) : CallT Pg fQan [.string s_] (.one (.c .bool)) H k := cE jad jfD Tryz.func90 h
end
end Go.Proofs.YtfpmgpblhhcpgaaGreatDoor
