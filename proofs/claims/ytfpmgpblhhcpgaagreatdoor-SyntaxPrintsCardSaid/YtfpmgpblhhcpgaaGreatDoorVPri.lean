import Derived.Test.YtfpmgpblhhcpgaaGreatDoorVLex
import Derived.Test.YtfpmgpblhhcpgaaGreatDoorHcLists
import Derived.Test.YtfpmgpblhhcpgaaGreatDoorProg
set_option linter.unusedVariables false
set_option linter.unusedSimpArgs false
namespace Go.Proofs.YtfpmgpblhhcpgaaGreatDoor
set_option maxRecDepth 100000
section
open Hc
abbrev TQai : TypeId := 109
abbrev jcZ : TypeId := 3
abbrev jcp : TypeId := 113
abbrev TQal : TypeId := 124
abbrev TQam : TypeId := 84
abbrev fQb7 : FuncId := 7
abbrev fQb8 : FuncId := 8
abbrev fQb9 : FuncId := 10
abbrev fQca : FuncId := 16
abbrev fQcb : FuncId := 17
abbrev fQcc : FuncId := 32
abbrev fQcd : FuncId := 33
abbrev fQce : FuncId := 34
abbrev fQcf : FuncId := 35
abbrev fQcg : FuncId := 58
abbrev fQch : FuncId := 59
abbrev fQci : FuncId := 60
abbrev fQcj : FuncId := 61
abbrev fQck : FuncId := 62
abbrev jfv : FuncId := 63
abbrev jml : FuncId := 64
abbrev jkn : FuncId := 65
abbrev fQco : FuncId := 89
abbrev fQcp : FuncId := 91
abbrev fQcq : FuncId := 92
abbrev fQcr : FuncId := 93
abbrev fQcs : FuncId := 94
abbrev fQct : FuncId := 95
abbrev fQcu : FuncId := 96
abbrev fQcv : FuncId := 127
abbrev fQcw : FuncId := 132
abbrev jil : FuncId := 133
abbrev fQcy : FuncId := 134
abbrev jmw : FuncId := 151
abbrev fQc0 : FuncId := 152
abbrev fQc1 : FuncId := 153
abbrev fQc2 : FuncId := 177
abbrev fQc3 : FuncId := 178
abbrev fQc4 : FuncId := 179
def vQb1 (n_ : Option Addr) (H : jaa) (k : ByteArray → jaa → Prop) : Prop :=
 Nw #[.int .i64 0] jcZ H fun b1 H1 =>
 St (adr b1) (.int .i64 100000) H1 fun H2 =>
 Jn (σ := Bool) (fun kk1 =>
 CallT Pg fQcc [.pointer n_, .int .i64 0, .pointer (some (adr b1))] (.one (.c .bool)) H2 fun (r1 : Bool) H4 =>
 Br (!r1) (
 kk1 true H4) (
 jab n_ fun a1 =>
 Ld (.int .i64) a1 H4 fun (x1 : Int) =>
 kk1 (x1 != 1) H4)) fun j1 H3 =>
 Br j1 (
 k (⟨#[]⟩ : ByteArray) H3) (
 Nw #[.pointer none, .slice none 0 0, .int .i64 0] TQam H3 fun b2 H5 =>
 jab n_ fun a2 =>
 Ld .sl (a2.add 3) H5 fun (x2 : Sl) =>
 LoopT (σ := Int) (fun next1 s1 H6 =>
 Br (decide (s1 < (x2.len : Int))) (
 IxA 1 x2 s1 fun a3 =>
 Ld .ptr a3 H6 fun (x3 : Option Addr) =>
 CallT Pg fQcd [.pointer (some (adr b2)), .pointer x3] (.tup []) H6 fun (r2 : Unit) H7 =>
 Lt (IntKind.wrap .i64 (s1 + 1)) fun t1 =>
 next1 t1 H7) (
 jab (some (adr b2)) fun a4 =>
 CallT Pg fQce [.pointer (some a4)] (.one (.c .str)) H6 fun (r3 : ByteArray) H8 =>
 k r3 H8)) 0 H5)
def jgt : Hint := (hq (hq (.two (.two (.join [(16, (.c .bool))] .no) .no) (hq (.two (hq (.one (.loop [(24, (.c (.int .i64)))] .no))) .no)))))
theorem cQb1 (n_ : Option Addr) {H : jaa} {k : ByteArray → jaa → Prop} (h : vQb1 n_ H k) : CallT Pg fQca [.pointer n_] (.one (.c .str)) H k := cE jad jgt Tryz.func16 h
def vQb2 (a_ : Option Addr) (b_ : Option Addr) (H : jaa) (k : Bool → jaa → Prop) : Prop :=
 MkM H fun m1 H1 =>
 CallT Pg fQcf [.pointer a_, .pointer b_, m1] (.one (.c .bool)) H1 fun (r1 : Bool) H2 =>
 k r1 H2
def jhn : Hint := .no
theorem cQb2 (a_ : Option Addr) (b_ : Option Addr) {H : jaa} {k : Bool → jaa → Prop} (h : vQb2 a_ b_ H k) : CallT Pg fQcb [.pointer a_, .pointer b_] (.one (.c .bool)) H k := cE jad jhn Tryz.func17 h
def vQb3 (n_ : Option Addr) (blocks_ : Int) (left_ : Option Addr) (H : jaa) (k : Bool → jaa → Prop) : Prop :=
 jab left_ fun a1 =>
 Ld (.int .i64) a1 H fun (x1 : Int) =>
 Lt (IntKind.wrap .i64 (x1 - 1)) fun t1 =>
 jab left_ fun a2 =>
 St a2 (.int .i64 t1) H fun H1 =>
 Jn (σ := Bool) (fun kk1 =>
 Br n_.isNone (
 kk1 true H1) (
 jab left_ fun a3 =>
 Ld (.int .i64) a3 H1 fun (x2 : Int) =>
 Br (decide (x2 < 0)) (
 kk1 true H1) (
 jab n_ fun a4 =>
 Ld (.int .i64) a4 H1 fun (x3 : Int) =>
 Br (x3 == 30) (
 jab n_ fun a5 =>
 Ld (.int .i64) (a5.add 2) H1 fun (x4 : Int) =>
 kk1 (decide (x4 < 0)) H1) (
 kk1 false H1)))) fun j1 H2 =>
 Br j1 (
 k false H2) (
 jab n_ fun a6 =>
 Ld (.int .i64) a6 H2 fun (x5 : Int) =>
 Jn (σ := Int) (fun kk2 =>
 Br (x5 == 5) (
 Lt (IntKind.wrap .i64 (blocks_ + 1)) fun t2 =>
 kk2 t2 H2) (
 kk2 blocks_ H2)) fun j2 H3 =>
 jab n_ fun a7 =>
 Ld (.int .i64) a7 H3 fun (x6 : Int) =>
 CallT Pg fQcg [.int .i64 x6] (.tup [(.agg [.raw, .sl, .bool, (.int .i64)]), (.c .bool)]) H3 fun (r1 : (Value × Sl × Bool × Int) × Bool) H4 =>
 Nw #[.nilFunc, .slice none 0 0, .bool false, .int .i64 0] jcp H4 fun b1 H5 =>
 StV ((adr b1).add 0) r1.1.1 H5 fun H6 =>
 St ((adr b1).add 1) (slV r1.1.2.1) H6 fun H7 =>
 St ((adr b1).add 2) (.bool r1.1.2.2.1) H7 fun H8 =>
 St ((adr b1).add 3) (.int .i64 r1.1.2.2.2) H8 fun H9 =>
 Jn (σ := Bool) (fun kk3 =>
 Br (!r1.2) (
 kk3 true H9) (
 Br (decide (j2 > 20)) (
 kk3 true H9) (
 Ld .raw (adr b1) H9 fun (x7 : Value) =>
 jab n_ fun a8 =>
 Ld .str (a8.add 1) H9 fun (x8 : ByteArray) =>
 jkw Pg x7 [.string x8] (.one (.c .bool)) H9 fun (r2 : Bool) H11 =>
 Br (!r2) (
 kk3 true H11) (
 jab n_ fun a9 =>
 Ld .sl (a9.add 3) H11 fun (x9 : Sl) =>
 Ld (.int .i64) ((adr b1).add 3) H11 fun (x10 : Int) =>
 Br (decide ((x9.len : Int) < x10)) (
 kk3 true H11) (
 jab n_ fun a10 =>
 Ld .sl (a10.add 3) H11 fun (x11 : Sl) =>
 Ld .sl ((adr b1).add 1) H11 fun (x12 : Sl) =>
 Br (decide ((x11.len : Int) > (x12.len : Int))) (
 Ld .bool ((adr b1).add 2) H11 fun (x13 : Bool) =>
 kk3 (!x13) H11) (
 kk3 false H11)))))) fun j3 H10 =>
 Br j3 (
 k false H10) (
 jab n_ fun a11 =>
 Ld .sl (a11.add 3) H10 fun (x14 : Sl) =>
 LoopT (σ := Int) (fun next1 s1 H12 =>
 Br (decide (s1 < (x14.len : Int))) (
 IxA 1 x14 s1 fun a12 =>
 Ld .ptr a12 H12 fun (x15 : Option Addr) =>
 Jn (σ := Bool) (fun kk4 =>
 CallT Pg fQcc [.pointer x15, .int .i64 j2, .pointer left_] (.one (.c .bool)) H12 fun (r3 : Bool) H14 =>
 Br (!r3) (
 kk4 true H14) (
 jab x15 fun a13 =>
 Ld (.int .i64) a13 H14 fun (x16 : Int) =>
 Ld .sl ((adr b1).add 1) H14 fun (x17 : Sl) =>
 Ld .sl ((adr b1).add 1) H14 fun (x18 : Sl) =>
 Lt (IntKind.wrap .i64 ((x18.len : Int) - 1)) fun t3 =>
 IxA 1 x17 (if t3 < s1 then t3 else s1) fun a14 =>
 Ld (.int .i64) a14 H14 fun (x19 : Int) =>
 CallT Pg fQch [.int .i64 x16, .int .i64 x19] (.one (.c .bool)) H14 fun (r4 : Bool) H15 =>
 Stab [((adr b1).add 1, slV x18), ((adr b1).add 1, slV x17)] H15 <|
 kk4 (!r4) H15)) fun j4 H13 =>
 Br j4 (
 k false H13) (
 Lt (IntKind.wrap .i64 (s1 + 1)) fun t4 =>
 next1 t4 H13)) (
 CallT Pg fQci [.pointer n_] (.one (.c .bool)) H12 fun (r5 : Bool) H16 =>
 k r5 H16)) 0 H10))
def jej : Hint := (hq (hq (.two (.two (.join [(37, (.c .bool))] .no) .no) (.two (hq (.join [(1, (.c (.int .i64)))] .no)) (hq (.two (.two (.join [(94, (.c .bool))] .no) .no) (.two (hq (.one (.loop [(100, (.c (.int .i64)))] (hq (hq (.two (.one (hq (.two (.join [(127, (.c .bool))] .no) .no))) .no)))))) .no)))))))
theorem cQb3 (n_ : Option Addr) (blocks_ : Int) (left_ : Option Addr) {H : jaa} {k : Bool → jaa → Prop} (h : vQb3 n_ blocks_ left_ H k) : CallT Pg fQcc [.pointer n_, .int .i64 blocks_, .pointer left_] (.one (.c .bool)) H k := cE jad jej Tryz.func32 h
def vQb4 (w_ : Option Addr) (n_ : Option Addr) (H : jaa) (k : Unit → jaa → Prop) : Prop :=
 jab n_ fun a1 =>
 Ld (.int .i64) a1 H fun (x1 : Int) =>
 Jn (σ := Unit) (fun kk1 =>
 Br (x1 == 4) (
 jab n_ fun a2 =>
 Ld .str (a2.add 1) H fun (x2 : ByteArray) =>
 jag (⟨#[102, 117, 110, 99, 32]⟩ : ByteArray) x2 fun y1 =>
 jag y1 (⟨#[40]⟩ : ByteArray) fun y2 =>
 jab n_ fun a3 =>
 Ld .sl (a3.add 3) H fun (x3 : Sl) =>
 IxA 1 x3 0 fun a4 =>
 Ld .ptr a4 H fun (x4 : Option Addr) =>
 jab x4 fun a5 =>
 Ld .sl (a5.add 3) H fun (x5 : Sl) =>
 CallT Pg fQck [slV x5] (.one (.c .str)) H fun (r1 : ByteArray) H2 =>
 Stab [(a4, .pointer x4), (a3.add 3, slV x3), (a2.add 1, .string x2)] H2 <|
 jag y2 r1 fun y3 =>
 jag y3 (⟨#[41]⟩ : ByteArray) fun y4 =>
 CallT Pg fQcj [.pointer w_, .string y4] (.tup []) H2 fun (r2 : Unit) H3 =>
 Stab [(a5.add 3, slV x5), (a4, .pointer x4), (a3.add 3, slV x3), (a2.add 1, .string x2)] H3 <|
 kk1 () H3) (
 jab n_ fun a6 =>
 Ld .str (a6.add 1) H fun (x6 : ByteArray) =>
 jag (⟨#[115, 121, 115, 116, 101, 109, 32]⟩ : ByteArray) x6 fun y5 =>
 CallT Pg fQcj [.pointer w_, .string y5] (.tup []) H fun (r3 : Unit) H4 =>
 jab n_ fun a7 =>
 Ld .sl (a7.add 3) H4 fun (x7 : Sl) =>
 SlA 1 x7 0 4 (x7.cap : Nat) fun l1 =>
 LoopT (σ := Int) (fun next1 s1 H5 =>
 Br (decide (s1 < (l1.len : Int))) (
 Jn (σ := Unit) (fun kk2 =>
 IxA 1 l1 s1 fun a8 =>
 Ld .ptr a8 H5 fun (x8 : Option Addr) =>
 jab x8 fun a9 =>
 Ld .sl (a9.add 3) H5 fun (x9 : Sl) =>
 Jn (σ := Unit) (fun kk3 =>
 Br (decide ((x9.len : Int) > 0)) (
 jab w_ fun a10 =>
 jab x8 fun a11 =>
 Ld .str (a11.add 1) H5 fun (x10 : ByteArray) =>
 jag (⟨#[32]⟩ : ByteArray) x10 fun y6 =>
 jag y6 (⟨#[32]⟩ : ByteArray) fun y7 =>
 jab x8 fun a12 =>
 Ld .sl (a12.add 3) H5 fun (x11 : Sl) =>
 CallT Pg fQck [slV x11] (.one (.c .str)) H5 fun (r4 : ByteArray) H8 =>
 Stab [(a11.add 1, .string x10)] H8 <|
 jag y7 r4 fun y8 =>
 CallT Pg jfv [.pointer (some a10), .string y8] (.tup [(.c (.int .i64)), (.c .raw)]) H8 fun (r5 : Int × Value) H9 =>
 Stab [(a12.add 3, slV x11), (a11.add 1, .string x10)] H9 <|
 kk3 () H9) (
 kk3 () H5)) fun j3 H7 =>
 kk2 () H7) fun j2 H6 =>
 Lt (IntKind.wrap .i64 (s1 + 1)) fun t1 =>
 next1 t1 H6) (
 kk1 () H5)) 0 H4)) fun j1 H1 =>
 jab n_ fun a13 =>
 Ld .sl (a13.add 3) H1 fun (x12 : Sl) =>
 jab n_ fun a14 =>
 Ld .sl (a14.add 3) H1 fun (x13 : Sl) =>
 Lt (IntKind.wrap .i64 ((x13.len : Int) - 1)) fun t2 =>
 IxA 1 x12 t2 fun a15 =>
 Ld .ptr a15 H1 fun (x14 : Option Addr) =>
 CallT Pg jml [.pointer w_, .pointer x14] (.tup []) H1 fun (r6 : Unit) H10 =>
 Stab [(a14.add 3, slV x13), (a13.add 3, slV x12)] H10 <|
 jab w_ fun a16 =>
 CallT Pg jkn [.pointer (some a16), .int .u8 10] (.one (.c .raw)) H10 fun (r7 : Value) H11 =>
 k () H11
def jdm : Hint := (.two (hq (.join [] (hq (hq (hq (.one (.loop [(44, (.c (.int .i64)))] (hq (hq (.two (.join [] (.one (hq (hq (.join [] .no))))) .no)))))))))) .no)
theorem cQb4 (w_ : Option Addr) (n_ : Option Addr) {H : jaa} {k : Unit → jaa → Prop} (h : vQb4 w_ n_ H k) : CallT Pg fQcd [.pointer w_, .pointer n_] (.tup []) H k := cE jad jdm Tryz.func33 h
def vQb5 (a_ : Option Addr) (b_ : Option Addr) (within_ : Value) (H : jaa) (k : Bool → jaa → Prop) : Prop :=
 Jn (σ := Bool) (fun kk1 =>
 PtrEq a_ b_ H fun e1 =>
 Br e1 (
 kk1 true H) (
 MpLX Pg TQal (.c (.int .i64)) 0 within_ (.agg #[.pointer a_, .pointer b_]) H fun (x1 : Int) e2 =>
 kk1 (decide (x1 > 0)) H)) fun j1 H1 =>
 Br j1 (
 k true H1) (
 Jn (σ := Bool) (fun kk2 =>
 Br a_.isNone (
 kk2 true H1) (
 Br b_.isNone (
 kk2 true H1) (
 jab a_ fun a1 =>
 Ld (.int .i64) a1 H1 fun (x2 : Int) =>
 jab b_ fun a2 =>
 Ld (.int .i64) a2 H1 fun (x3 : Int) =>
 Br (x2 != x3) (
 kk2 true H1) (
 jab a_ fun a3 =>
 Ld .str (a3.add 1) H1 fun (x4 : ByteArray) =>
 jab b_ fun a4 =>
 Ld .str (a4.add 1) H1 fun (x5 : ByteArray) =>
 Br (!(x4.toList == x5.toList)) (
 kk2 true H1) (
 jab a_ fun a5 =>
 Ld (.int .i64) (a5.add 2) H1 fun (x6 : Int) =>
 jab b_ fun a6 =>
 Ld (.int .i64) (a6.add 2) H1 fun (x7 : Int) =>
 Br (x6 != x7) (
 kk2 true H1) (
 jab a_ fun a7 =>
 Ld .sl (a7.add 3) H1 fun (x8 : Sl) =>
 jab b_ fun a8 =>
 Ld .sl (a8.add 3) H1 fun (x9 : Sl) =>
 kk2 ((x8.len : Int) != (x9.len : Int)) H1)))))) fun j2 H2 =>
 Br j2 (
 k false H2) (
 MpUX Pg TQal within_ (.agg #[.pointer a_, .pointer b_]) (.int .i64 1) H2 fun H3 =>
 jab a_ fun a9 =>
 Ld .sl (a9.add 3) H3 fun (x10 : Sl) =>
 LoopT (σ := Int) (fun next1 s1 H4 =>
 Br (decide (s1 < (x10.len : Int))) (
 jab a_ fun a10 =>
 Ld .sl (a10.add 3) H4 fun (x11 : Sl) =>
 IxA 1 x11 s1 fun a11 =>
 Ld .ptr a11 H4 fun (x12 : Option Addr) =>
 jab b_ fun a12 =>
 Ld .sl (a12.add 3) H4 fun (x13 : Sl) =>
 IxA 1 x13 s1 fun a13 =>
 Ld .ptr a13 H4 fun (x14 : Option Addr) =>
 CallT Pg fQcf [.pointer x12, .pointer x14, within_] (.one (.c .bool)) H4 fun (r1 : Bool) H5 =>
 Stab [(a12.add 3, slV x13), (a10.add 3, slV x11)] H5 <|
 Br (!r1) (
 k false H5) (
 Lt (IntKind.wrap .i64 (s1 + 1)) fun t1 =>
 next1 t1 H5)) (
 k true H4)) 0 H3))
def jg3 : Hint := (hq (.two (.two (.join [(18, (.c .bool))] .no) .no) (.two (.two (.join [(70, (.c .bool))] .no) .no) (hq (.two (hq (.one (.loop [(80, (.c (.int .i64)))] .no))) .no)))))
theorem cQb5 (a_ : Option Addr) (b_ : Option Addr) (within_ : Value) {H : jaa} {k : Bool → jaa → Prop} (h : vQb5 a_ b_ within_ H k) : CallT Pg fQcf [.pointer a_, .pointer b_, within_] (.one (.c .bool)) H k := cE jad jg3 Tryz.func35 h
def vQb6 (op_ : Int) (H : jaa) (k : (Value × Sl × Bool × Int) × Bool → jaa → Prop) : Prop :=
 Nw #[.nilFunc, .slice none 0 0, .bool false, .int .i64 0] jcp H fun b1 H1 =>
 Br (op_ == 1) (
 Nw #[.int .i64 8] jcZ H1 fun b2 H2 =>
 jdA Pg jcp [(0, .func (.func 89) #[] #[]), (1, .slice (some (adr b2)) 1 1), (2, .bool true), (3, .int .i64 0)] [.raw, .sl, .bool, (.int .i64)] fun (d1 : Value × Sl × Bool × Int) =>
 StV ((adr b1).add 0) d1.1 H2 fun H3 =>
 St ((adr b1).add 1) (slV d1.2.1) H3 fun H4 =>
 St ((adr b1).add 2) (.bool d1.2.2.1) H4 fun H5 =>
 St ((adr b1).add 3) (.int .i64 d1.2.2.2) H5 fun H6 =>
 LdC [.raw, .sl, .bool, (.int .i64)] (adr b1) H6 fun (c1 : Value × Sl × Bool × Int) =>
 k (((c1.1, c1.2.1, c1.2.2.1, c1.2.2.2), true)) H6) (
 Br (op_ == 2) (
 Nw #[.int .i64 0, .int .i64 0, .int .i64 0, .int .i64 0, .int .i64 1] jcZ H1 fun b3 H7 =>
 jdA Pg jcp [(0, .func (.func 90) #[] #[]), (1, .slice (some (adr b3)) 5 5), (2, .bool false), (3, .int .i64 5)] [.raw, .sl, .bool, (.int .i64)] fun (d2 : Value × Sl × Bool × Int) =>
 StV ((adr b1).add 0) d2.1 H7 fun H8 =>
 St ((adr b1).add 1) (slV d2.2.1) H8 fun H9 =>
 St ((adr b1).add 2) (.bool d2.2.2.1) H9 fun H10 =>
 St ((adr b1).add 3) (.int .i64 d2.2.2.2) H10 fun H11 =>
 LdC [.raw, .sl, .bool, (.int .i64)] (adr b1) H11 fun (c2 : Value × Sl × Bool × Int) =>
 k (((c2.1, c2.2.1, c2.2.2.1, c2.2.2.2), true)) H11) (
 Br (op_ == 3) (
 Nw #[.string (⟨#[119, 105, 116, 104]⟩ : ByteArray), .string (⟨#[119, 105, 116, 104, 111, 117, 116]⟩ : ByteArray), .string (⟨#[114, 101, 97, 100, 115]⟩ : ByteArray), .string (⟨#[119, 114, 105, 116, 101, 115]⟩ : ByteArray), .string (⟨#[102, 117, 110, 99]⟩ : ByteArray)] jcC H1 fun b4 H12 =>
 CallT Pg fQcp [.slice (some (adr b4)) 5 5] (.one (.c .raw)) H12 fun (r1 : Value) H13 =>
 Nw #[.int .i64 6] jcZ H13 fun b5 H14 =>
 jdA Pg jcp [(0, r1), (1, .slice (some (adr b5)) 1 1), (2, .bool true), (3, .int .i64 0)] [.raw, .sl, .bool, (.int .i64)] fun (d3 : Value × Sl × Bool × Int) =>
 StV ((adr b1).add 0) d3.1 H14 fun H15 =>
 St ((adr b1).add 1) (slV d3.2.1) H15 fun H16 =>
 St ((adr b1).add 2) (.bool d3.2.2.1) H16 fun H17 =>
 St ((adr b1).add 3) (.int .i64 d3.2.2.2) H17 fun H18 =>
 LdC [.raw, .sl, .bool, (.int .i64)] (adr b1) H18 fun (c3 : Value × Sl × Bool × Int) =>
 k (((c3.1, c3.2.1, c3.2.2.1, c3.2.2.2), true)) H18) (
 Br (op_ == 4) (
 Nw #[.int .i64 0, .int .i64 1] jcZ H1 fun b6 H19 =>
 jdA Pg jcp [(0, .func (.func 90) #[] #[]), (1, .slice (some (adr b6)) 2 2), (2, .bool false), (3, .int .i64 2)] [.raw, .sl, .bool, (.int .i64)] fun (d4 : Value × Sl × Bool × Int) =>
 StV ((adr b1).add 0) d4.1 H19 fun H20 =>
 St ((adr b1).add 1) (slV d4.2.1) H20 fun H21 =>
 St ((adr b1).add 2) (.bool d4.2.2.1) H21 fun H22 =>
 St ((adr b1).add 3) (.int .i64 d4.2.2.2) H22 fun H23 =>
 LdC [.raw, .sl, .bool, (.int .i64)] (adr b1) H23 fun (c4 : Value × Sl × Bool × Int) =>
 k (((c4.1, c4.2.1, c4.2.2.1, c4.2.2.2), true)) H23) (
 Br (op_ == 5) (
 Nw #[.int .i64 2] jcZ H1 fun b7 H24 =>
 jdA Pg jcp [(0, .func (.func 89) #[] #[]), (1, .slice (some (adr b7)) 1 1), (2, .bool true), (3, .int .i64 0)] [.raw, .sl, .bool, (.int .i64)] fun (d5 : Value × Sl × Bool × Int) =>
 StV ((adr b1).add 0) d5.1 H24 fun H25 =>
 St ((adr b1).add 1) (slV d5.2.1) H25 fun H26 =>
 St ((adr b1).add 2) (.bool d5.2.2.1) H26 fun H27 =>
 St ((adr b1).add 3) (.int .i64 d5.2.2.2) H27 fun H28 =>
 LdC [.raw, .sl, .bool, (.int .i64)] (adr b1) H28 fun (c5 : Value × Sl × Bool × Int) =>
 k (((c5.1, c5.2.1, c5.2.2.1, c5.2.2.2), true)) H28) (
 Br (op_ == 10) (
 Nw #[.int .i64 3] jcZ H1 fun b8 H29 =>
 jdA Pg jcp [(0, .func (.func 90) #[] #[]), (1, .slice (some (adr b8)) 1 1), (2, .bool false), (3, .int .i64 1)] [.raw, .sl, .bool, (.int .i64)] fun (d6 : Value × Sl × Bool × Int) =>
 StV ((adr b1).add 0) d6.1 H29 fun H30 =>
 St ((adr b1).add 1) (slV d6.2.1) H30 fun H31 =>
 St ((adr b1).add 2) (.bool d6.2.2.1) H31 fun H32 =>
 St ((adr b1).add 3) (.int .i64 d6.2.2.2) H32 fun H33 =>
 LdC [.raw, .sl, .bool, (.int .i64)] (adr b1) H33 fun (c6 : Value × Sl × Bool × Int) =>
 k (((c6.1, c6.2.1, c6.2.2.1, c6.2.2.2), true)) H33) (
 Br (op_ == 11) (
 Nw #[.int .i64 3] jcZ H1 fun b9 H34 =>
 jdA Pg jcp [(0, .func (.func 90) #[] #[]), (1, .slice (some (adr b9)) 1 1), (2, .bool false), (3, .int .i64 1)] [.raw, .sl, .bool, (.int .i64)] fun (d7 : Value × Sl × Bool × Int) =>
 StV ((adr b1).add 0) d7.1 H34 fun H35 =>
 St ((adr b1).add 1) (slV d7.2.1) H35 fun H36 =>
 St ((adr b1).add 2) (.bool d7.2.2.1) H36 fun H37 =>
 St ((adr b1).add 3) (.int .i64 d7.2.2.2) H37 fun H38 =>
 LdC [.raw, .sl, .bool, (.int .i64)] (adr b1) H38 fun (c7 : Value × Sl × Bool × Int) =>
 k (((c7.1, c7.2.1, c7.2.2.1, c7.2.2.2), true)) H38) (
 Br (op_ == 12) (
 Nw #[.int .i64 6, .int .i64 3] jcZ H1 fun b10 H39 =>
 jdA Pg jcp [(0, .func (.func 90) #[] #[]), (1, .slice (some (adr b10)) 2 2), (2, .bool false), (3, .int .i64 2)] [.raw, .sl, .bool, (.int .i64)] fun (d8 : Value × Sl × Bool × Int) =>
 StV ((adr b1).add 0) d8.1 H39 fun H40 =>
 St ((adr b1).add 1) (slV d8.2.1) H40 fun H41 =>
 St ((adr b1).add 2) (.bool d8.2.2.1) H41 fun H42 =>
 St ((adr b1).add 3) (.int .i64 d8.2.2.2) H42 fun H43 =>
 LdC [.raw, .sl, .bool, (.int .i64)] (adr b1) H43 fun (c8 : Value × Sl × Bool × Int) =>
 k (((c8.1, c8.2.1, c8.2.2.1, c8.2.2.2), true)) H43) (
 Br (op_ == 13) (
 Nw #[.int .i64 3, .int .i64 1, .int .i64 7] jcZ H1 fun b11 H44 =>
 jdA Pg jcp [(0, .func (.func 89) #[] #[]), (1, .slice (some (adr b11)) 3 3), (2, .bool false), (3, .int .i64 2)] [.raw, .sl, .bool, (.int .i64)] fun (d9 : Value × Sl × Bool × Int) =>
 StV ((adr b1).add 0) d9.1 H44 fun H45 =>
 St ((adr b1).add 1) (slV d9.2.1) H45 fun H46 =>
 St ((adr b1).add 2) (.bool d9.2.2.1) H46 fun H47 =>
 St ((adr b1).add 3) (.int .i64 d9.2.2.2) H47 fun H48 =>
 LdC [.raw, .sl, .bool, (.int .i64)] (adr b1) H48 fun (c9 : Value × Sl × Bool × Int) =>
 k (((c9.1, c9.2.1, c9.2.2.1, c9.2.2.2), true)) H48) (
 Br (op_ == 14) (
 Nw #[.int .i64 3, .int .i64 1] jcZ H1 fun b12 H49 =>
 jdA Pg jcp [(0, .func (.func 89) #[] #[]), (1, .slice (some (adr b12)) 2 2), (2, .bool false), (3, .int .i64 2)] [.raw, .sl, .bool, (.int .i64)] fun (d10 : Value × Sl × Bool × Int) =>
 StV ((adr b1).add 0) d10.1 H49 fun H50 =>
 St ((adr b1).add 1) (slV d10.2.1) H50 fun H51 =>
 St ((adr b1).add 2) (.bool d10.2.2.1) H51 fun H52 =>
 St ((adr b1).add 3) (.int .i64 d10.2.2.2) H52 fun H53 =>
 LdC [.raw, .sl, .bool, (.int .i64)] (adr b1) H53 fun (c10 : Value × Sl × Bool × Int) =>
 k (((c10.1, c10.2.1, c10.2.2.1, c10.2.2.2), true)) H53) (
 Br (op_ == 15) (
 Nw #[.int .i64 3, .int .i64 1] jcZ H1 fun b13 H54 =>
 jdA Pg jcp [(0, .func (.func 89) #[] #[]), (1, .slice (some (adr b13)) 2 2), (2, .bool false), (3, .int .i64 2)] [.raw, .sl, .bool, (.int .i64)] fun (d11 : Value × Sl × Bool × Int) =>
 StV ((adr b1).add 0) d11.1 H54 fun H55 =>
 St ((adr b1).add 1) (slV d11.2.1) H55 fun H56 =>
 St ((adr b1).add 2) (.bool d11.2.2.1) H56 fun H57 =>
 St ((adr b1).add 3) (.int .i64 d11.2.2.2) H57 fun H58 =>
 LdC [.raw, .sl, .bool, (.int .i64)] (adr b1) H58 fun (c11 : Value × Sl × Bool × Int) =>
 k (((c11.1, c11.2.1, c11.2.2.1, c11.2.2.2), true)) H58) (
 Br (op_ == 16) (
 Nw #[.int .i64 3, .int .i64 3] jcZ H1 fun b14 H59 =>
 jdA Pg jcp [(0, .func (.func 89) #[] #[]), (1, .slice (some (adr b14)) 2 2), (2, .bool false), (3, .int .i64 2)] [.raw, .sl, .bool, (.int .i64)] fun (d12 : Value × Sl × Bool × Int) =>
 StV ((adr b1).add 0) d12.1 H59 fun H60 =>
 St ((adr b1).add 1) (slV d12.2.1) H60 fun H61 =>
 St ((adr b1).add 2) (.bool d12.2.2.1) H61 fun H62 =>
 St ((adr b1).add 3) (.int .i64 d12.2.2.2) H62 fun H63 =>
 LdC [.raw, .sl, .bool, (.int .i64)] (adr b1) H63 fun (c12 : Value × Sl × Bool × Int) =>
 k (((c12.1, c12.2.1, c12.2.2.1, c12.2.2.2), true)) H63) (
 Br (op_ == 17) (
 Nw #[.int .i64 4] jcZ H1 fun b15 H64 =>
 jdA Pg jcp [(0, .func (.func 89) #[] #[]), (1, .slice (some (adr b15)) 1 1), (2, .bool true), (3, .int .i64 0)] [.raw, .sl, .bool, (.int .i64)] fun (d13 : Value × Sl × Bool × Int) =>
 StV ((adr b1).add 0) d13.1 H64 fun H65 =>
 St ((adr b1).add 1) (slV d13.2.1) H65 fun H66 =>
 St ((adr b1).add 2) (.bool d13.2.2.1) H66 fun H67 =>
 St ((adr b1).add 3) (.int .i64 d13.2.2.2) H67 fun H68 =>
 LdC [.raw, .sl, .bool, (.int .i64)] (adr b1) H68 fun (c13 : Value × Sl × Bool × Int) =>
 k (((c13.1, c13.2.1, c13.2.2.1, c13.2.2.2), true)) H68) (
 Br (op_ == 18) (
 Nw #[.int .i64 4] jcZ H1 fun b16 H69 =>
 jdA Pg jcp [(0, .func (.func 89) #[] #[]), (1, .slice (some (adr b16)) 1 1), (2, .bool false), (3, .int .i64 1)] [.raw, .sl, .bool, (.int .i64)] fun (d14 : Value × Sl × Bool × Int) =>
 StV ((adr b1).add 0) d14.1 H69 fun H70 =>
 St ((adr b1).add 1) (slV d14.2.1) H70 fun H71 =>
 St ((adr b1).add 2) (.bool d14.2.2.1) H71 fun H72 =>
 St ((adr b1).add 3) (.int .i64 d14.2.2.2) H72 fun H73 =>
 LdC [.raw, .sl, .bool, (.int .i64)] (adr b1) H73 fun (c14 : Value × Sl × Bool × Int) =>
 k (((c14.1, c14.2.1, c14.2.2.1, c14.2.2.2), true)) H73) (
 Br (op_ == 19) (
 jdA Pg jcp [(0, .func (.func 90) #[] #[]), (1, .slice none 0 0), (2, .bool false), (3, .int .i64 0)] [.raw, .sl, .bool, (.int .i64)] fun (d15 : Value × Sl × Bool × Int) =>
 StV ((adr b1).add 0) d15.1 H1 fun H74 =>
 St ((adr b1).add 1) (slV d15.2.1) H74 fun H75 =>
 St ((adr b1).add 2) (.bool d15.2.2.1) H75 fun H76 =>
 St ((adr b1).add 3) (.int .i64 d15.2.2.2) H76 fun H77 =>
 LdC [.raw, .sl, .bool, (.int .i64)] (adr b1) H77 fun (c15 : Value × Sl × Bool × Int) =>
 k (((c15.1, c15.2.1, c15.2.2.1, c15.2.2.2), true)) H77) (
 Br (op_ == 20) (
 jdA Pg jcp [(0, .func (.func 89) #[] #[]), (1, .slice none 0 0), (2, .bool false), (3, .int .i64 0)] [.raw, .sl, .bool, (.int .i64)] fun (d16 : Value × Sl × Bool × Int) =>
 StV ((adr b1).add 0) d16.1 H1 fun H78 =>
 St ((adr b1).add 1) (slV d16.2.1) H78 fun H79 =>
 St ((adr b1).add 2) (.bool d16.2.2.1) H79 fun H80 =>
 St ((adr b1).add 3) (.int .i64 d16.2.2.2) H80 fun H81 =>
 LdC [.raw, .sl, .bool, (.int .i64)] (adr b1) H81 fun (c16 : Value × Sl × Bool × Int) =>
 k (((c16.1, c16.2.1, c16.2.2.1, c16.2.2.2), true)) H81) (
 Br (op_ == 21) (
 jdA Pg jcp [(0, .func (.func 89) #[] #[]), (1, .slice none 0 0), (2, .bool false), (3, .int .i64 0)] [.raw, .sl, .bool, (.int .i64)] fun (d17 : Value × Sl × Bool × Int) =>
 StV ((adr b1).add 0) d17.1 H1 fun H82 =>
 St ((adr b1).add 1) (slV d17.2.1) H82 fun H83 =>
 St ((adr b1).add 2) (.bool d17.2.2.1) H83 fun H84 =>
 St ((adr b1).add 3) (.int .i64 d17.2.2.2) H84 fun H85 =>
 LdC [.raw, .sl, .bool, (.int .i64)] (adr b1) H85 fun (c17 : Value × Sl × Bool × Int) =>
 k (((c17.1, c17.2.1, c17.2.2.1, c17.2.2.2), true)) H85) (
 Br (op_ == 22) (
 Nw #[.int .i64 3] jcZ H1 fun b17 H86 =>
 jdA Pg jcp [(0, .func (.func 89) #[] #[]), (1, .slice (some (adr b17)) 1 1), (2, .bool false), (3, .int .i64 1)] [.raw, .sl, .bool, (.int .i64)] fun (d18 : Value × Sl × Bool × Int) =>
 StV ((adr b1).add 0) d18.1 H86 fun H87 =>
 St ((adr b1).add 1) (slV d18.2.1) H87 fun H88 =>
 St ((adr b1).add 2) (.bool d18.2.2.1) H88 fun H89 =>
 St ((adr b1).add 3) (.int .i64 d18.2.2.2) H89 fun H90 =>
 LdC [.raw, .sl, .bool, (.int .i64)] (adr b1) H90 fun (c18 : Value × Sl × Bool × Int) =>
 k (((c18.1, c18.2.1, c18.2.2.1, c18.2.2.2), true)) H90) (
 Br (op_ == 23) (
 Nw #[.int .i64 5] jcZ H1 fun b18 H91 =>
 jdA Pg jcp [(0, .func (.func 90) #[] #[]), (1, .slice (some (adr b18)) 1 1), (2, .bool true), (3, .int .i64 0)] [.raw, .sl, .bool, (.int .i64)] fun (d19 : Value × Sl × Bool × Int) =>
 StV ((adr b1).add 0) d19.1 H91 fun H92 =>
 St ((adr b1).add 1) (slV d19.2.1) H92 fun H93 =>
 St ((adr b1).add 2) (.bool d19.2.2.1) H93 fun H94 =>
 St ((adr b1).add 3) (.int .i64 d19.2.2.2) H94 fun H95 =>
 LdC [.raw, .sl, .bool, (.int .i64)] (adr b1) H95 fun (c19 : Value × Sl × Bool × Int) =>
 k (((c19.1, c19.2.1, c19.2.2.1, c19.2.2.2), true)) H95) (
 Br (op_ == 24) (
 Nw #[.int .i64 3] jcZ H1 fun b19 H96 =>
 jdA Pg jcp [(0, .func (.func 90) #[] #[]), (1, .slice (some (adr b19)) 1 1), (2, .bool false), (3, .int .i64 1)] [.raw, .sl, .bool, (.int .i64)] fun (d20 : Value × Sl × Bool × Int) =>
 StV ((adr b1).add 0) d20.1 H96 fun H97 =>
 St ((adr b1).add 1) (slV d20.2.1) H97 fun H98 =>
 St ((adr b1).add 2) (.bool d20.2.2.1) H98 fun H99 =>
 St ((adr b1).add 3) (.int .i64 d20.2.2.2) H99 fun H100 =>
 LdC [.raw, .sl, .bool, (.int .i64)] (adr b1) H100 fun (c20 : Value × Sl × Bool × Int) =>
 k (((c20.1, c20.2.1, c20.2.2.1, c20.2.2.2), true)) H100) (
 Br (op_ == 30) (
 jdA Pg jcp [(0, .func (.func 89) #[] #[]), (1, .slice none 0 0), (2, .bool false), (3, .int .i64 0)] [.raw, .sl, .bool, (.int .i64)] fun (d21 : Value × Sl × Bool × Int) =>
 StV ((adr b1).add 0) d21.1 H1 fun H101 =>
 St ((adr b1).add 1) (slV d21.2.1) H101 fun H102 =>
 St ((adr b1).add 2) (.bool d21.2.2.1) H102 fun H103 =>
 St ((adr b1).add 3) (.int .i64 d21.2.2.2) H103 fun H104 =>
 LdC [.raw, .sl, .bool, (.int .i64)] (adr b1) H104 fun (c21 : Value × Sl × Bool × Int) =>
 k (((c21.1, c21.2.1, c21.2.2.1, c21.2.2.2), true)) H104) (
 Br (op_ == 31) (
 jdA Pg jcp [(0, .func (.func 90) #[] #[]), (1, .slice none 0 0), (2, .bool false), (3, .int .i64 0)] [.raw, .sl, .bool, (.int .i64)] fun (d22 : Value × Sl × Bool × Int) =>
 StV ((adr b1).add 0) d22.1 H1 fun H105 =>
 St ((adr b1).add 1) (slV d22.2.1) H105 fun H106 =>
 St ((adr b1).add 2) (.bool d22.2.2.1) H106 fun H107 =>
 St ((adr b1).add 3) (.int .i64 d22.2.2.2) H107 fun H108 =>
 LdC [.raw, .sl, .bool, (.int .i64)] (adr b1) H108 fun (c22 : Value × Sl × Bool × Int) =>
 k (((c22.1, c22.2.1, c22.2.2.1, c22.2.2.2), true)) H108) (
 Br (op_ == 32) (
 Nw #[.int .i64 6] jcZ H1 fun b20 H109 =>
 jdA Pg jcp [(0, .func (.func 90) #[] #[]), (1, .slice (some (adr b20)) 1 1), (2, .bool false), (3, .int .i64 1)] [.raw, .sl, .bool, (.int .i64)] fun (d23 : Value × Sl × Bool × Int) =>
 StV ((adr b1).add 0) d23.1 H109 fun H110 =>
 St ((adr b1).add 1) (slV d23.2.1) H110 fun H111 =>
 St ((adr b1).add 2) (.bool d23.2.2.1) H111 fun H112 =>
 St ((adr b1).add 3) (.int .i64 d23.2.2.2) H112 fun H113 =>
 LdC [.raw, .sl, .bool, (.int .i64)] (adr b1) H113 fun (c23 : Value × Sl × Bool × Int) =>
 k (((c23.1, c23.2.1, c23.2.2.1, c23.2.2.2), true)) H113) (
 Br (op_ == 33) (
 Nw #[.int .i64 3, .int .i64 3] jcZ H1 fun b21 H114 =>
 jdA Pg jcp [(0, .func (.func 92) #[] #[]), (1, .slice (some (adr b21)) 2 2), (2, .bool false), (3, .int .i64 2)] [.raw, .sl, .bool, (.int .i64)] fun (d24 : Value × Sl × Bool × Int) =>
 StV ((adr b1).add 0) d24.1 H114 fun H115 =>
 St ((adr b1).add 1) (slV d24.2.1) H115 fun H116 =>
 St ((adr b1).add 2) (.bool d24.2.2.1) H116 fun H117 =>
 St ((adr b1).add 3) (.int .i64 d24.2.2.2) H117 fun H118 =>
 LdC [.raw, .sl, .bool, (.int .i64)] (adr b1) H118 fun (c24 : Value × Sl × Bool × Int) =>
 k (((c24.1, c24.2.1, c24.2.2.1, c24.2.2.2), true)) H118) (
 Br (op_ == 34) (
 Nw #[.string (⟨#[45]⟩ : ByteArray), .string (⟨#[33]⟩ : ByteArray)] jcC H1 fun b22 H119 =>
 CallT Pg fQcp [.slice (some (adr b22)) 2 2] (.one (.c .raw)) H119 fun (r2 : Value) H120 =>
 Nw #[.int .i64 3] jcZ H120 fun b23 H121 =>
 jdA Pg jcp [(0, r2), (1, .slice (some (adr b23)) 1 1), (2, .bool false), (3, .int .i64 1)] [.raw, .sl, .bool, (.int .i64)] fun (d25 : Value × Sl × Bool × Int) =>
 StV ((adr b1).add 0) d25.1 H121 fun H122 =>
 St ((adr b1).add 1) (slV d25.2.1) H122 fun H123 =>
 St ((adr b1).add 2) (.bool d25.2.2.1) H123 fun H124 =>
 St ((adr b1).add 3) (.int .i64 d25.2.2.2) H124 fun H125 =>
 LdC [.raw, .sl, .bool, (.int .i64)] (adr b1) H125 fun (c25 : Value × Sl × Bool × Int) =>
 k (((c25.1, c25.2.1, c25.2.2.1, c25.2.2.2), true)) H125) (
 Br (op_ == 35) (
 Nw #[.int .i64 3, .int .i64 3, .int .i64 3] jcZ H1 fun b24 H126 =>
 jdA Pg jcp [(0, .func (.func 89) #[] #[]), (1, .slice (some (adr b24)) 3 3), (2, .bool false), (3, .int .i64 3)] [.raw, .sl, .bool, (.int .i64)] fun (d26 : Value × Sl × Bool × Int) =>
 StV ((adr b1).add 0) d26.1 H126 fun H127 =>
 St ((adr b1).add 1) (slV d26.2.1) H127 fun H128 =>
 St ((adr b1).add 2) (.bool d26.2.2.1) H128 fun H129 =>
 St ((adr b1).add 3) (.int .i64 d26.2.2.2) H129 fun H130 =>
 LdC [.raw, .sl, .bool, (.int .i64)] (adr b1) H130 fun (c26 : Value × Sl × Bool × Int) =>
 k (((c26.1, c26.2.1, c26.2.2.1, c26.2.2.2), true)) H130) (
 Br (op_ == 36) (
 Nw #[.int .i64 3] jcZ H1 fun b25 H131 =>
 jdA Pg jcp [(0, .func (.func 93) #[] #[]), (1, .slice (some (adr b25)) 1 1), (2, .bool true), (3, .int .i64 0)] [.raw, .sl, .bool, (.int .i64)] fun (d27 : Value × Sl × Bool × Int) =>
 StV ((adr b1).add 0) d27.1 H131 fun H132 =>
 St ((adr b1).add 1) (slV d27.2.1) H132 fun H133 =>
 St ((adr b1).add 2) (.bool d27.2.2.1) H133 fun H134 =>
 St ((adr b1).add 3) (.int .i64 d27.2.2.2) H134 fun H135 =>
 LdC [.raw, .sl, .bool, (.int .i64)] (adr b1) H135 fun (c27 : Value × Sl × Bool × Int) =>
 k (((c27.1, c27.2.1, c27.2.2.1, c27.2.2.2), true)) H135) (
 Br (op_ == 37) (
 jdA Pg jcp [(0, .func (.func 90) #[] #[]), (1, .slice none 0 0), (2, .bool false), (3, .int .i64 0)] [.raw, .sl, .bool, (.int .i64)] fun (d28 : Value × Sl × Bool × Int) =>
 StV ((adr b1).add 0) d28.1 H1 fun H136 =>
 St ((adr b1).add 1) (slV d28.2.1) H136 fun H137 =>
 St ((adr b1).add 2) (.bool d28.2.2.1) H137 fun H138 =>
 St ((adr b1).add 3) (.int .i64 d28.2.2.2) H138 fun H139 =>
 LdC [.raw, .sl, .bool, (.int .i64)] (adr b1) H139 fun (c28 : Value × Sl × Bool × Int) =>
 k (((c28.1, c28.2.1, c28.2.2.1, c28.2.2.2), true)) H139) (
 Br (op_ == 38) (
 Nw #[.string (⟨#[116, 105, 99, 107]⟩ : ByteArray), .string (⟨#[109, 101]⟩ : ByteArray)] jcC H1 fun b26 H140 =>
 CallT Pg fQcp [.slice (some (adr b26)) 2 2] (.one (.c .raw)) H140 fun (r3 : Value) H141 =>
 jdA Pg jcp [(0, r3), (1, .slice none 0 0), (2, .bool false), (3, .int .i64 0)] [.raw, .sl, .bool, (.int .i64)] fun (d29 : Value × Sl × Bool × Int) =>
 StV ((adr b1).add 0) d29.1 H141 fun H142 =>
 St ((adr b1).add 1) (slV d29.2.1) H142 fun H143 =>
 St ((adr b1).add 2) (.bool d29.2.2.1) H143 fun H144 =>
 St ((adr b1).add 3) (.int .i64 d29.2.2.2) H144 fun H145 =>
 LdC [.raw, .sl, .bool, (.int .i64)] (adr b1) H145 fun (c29 : Value × Sl × Bool × Int) =>
 k (((c29.1, c29.2.1, c29.2.2.1, c29.2.2.2), true)) H145) (
 jdA Pg jcp [] [.raw, .sl, .bool, (.int .i64)] fun (d30 : Value × Sl × Bool × Int) =>
 StV ((adr b1).add 0) d30.1 H1 fun H146 =>
 St ((adr b1).add 1) (slV d30.2.1) H146 fun H147 =>
 St ((adr b1).add 2) (.bool d30.2.2.1) H147 fun H148 =>
 St ((adr b1).add 3) (.int .i64 d30.2.2.2) H148 fun H149 =>
 LdC [.raw, .sl, .bool, (.int .i64)] (adr b1) H149 fun (c30 : Value × Sl × Bool × Int) =>
 k (((c30.1, c30.2.1, c30.2.2.1, c30.2.2.2), false)) H149)))))))))))))))))))))))))))))
def jgg : Hint := .no
theorem cQb6 (op_ : Int) {H : jaa} {k : (Value × Sl × Bool × Int) × Bool → jaa → Prop} (h : vQb6 op_ H k) : CallT Pg fQcg [.int .i64 op_] (.tup [(.agg [.raw, .sl, .bool, (.int .i64)]), (.c .bool)]) H k := cE jad jgg Tryz.func58 h
def vQb7 (op_ : Int) (sort_ : Int) (H : jaa) (k : Bool → jaa → Prop) : Prop :=
 Br (sort_ == 0) (
 k (op_ == 3) H) (
 Br (sort_ == 1) (
 k (op_ == 5) H) (
 Br (sort_ == 2) (
 Jn (σ := Bool) (fun kk1 =>
 Br (decide (op_ ≥ 10)) (
 kk1 (decide (op_ ≤ 22)) H) (
 kk1 false H)) fun j1 H1 =>
 k j1 H1) (
 Br (sort_ == 3) (
 Jn (σ := Bool) (fun kk2 =>
 Br (decide (op_ ≥ 30)) (
 kk2 (decide (op_ ≤ 38)) H) (
 kk2 false H)) fun j2 H2 =>
 k j2 H2) (
 Br (sort_ == 4) (
 k (op_ == 23) H) (
 Br (sort_ == 5) (
 k (op_ == 24) H) (
 Br (sort_ == 6) (
 k (op_ == 31) H) (
 Br (sort_ == 7) (
 Jn (σ := Bool) (fun kk3 =>
 Br (op_ == 5) (
 kk3 true H) (
 kk3 (op_ == 13) H)) fun j3 H3 =>
 k j3 H3) (
 Jn (σ := Bool) (fun kk4 =>
 Br (op_ == 2) (
 kk4 true H) (
 kk4 (op_ == 4) H)) fun j4 H4 =>
 k j4 H4))))))))
def jji : Hint := (hq (.two (hq (.one (hq (hq (hq (hq (hq (.two (.two (.join [(4, (.c .bool))] .no) .no) (hq (.two (.two (.join [(4, (.c .bool))] .no) .no) (hq (hq (hq (hq (hq (hq (hq (.two (.two (.join [(4, (.c .bool))] .no) .no) .no)))))))))))))))))) (.two (.join [(4, (.c .bool))] .no) .no)))
theorem cQb7 (op_ : Int) (sort_ : Int) {H : jaa} {k : Bool → jaa → Prop} (h : vQb7 op_ sort_ H k) : CallT Pg fQch [.int .i64 op_, .int .i64 sort_] (.one (.c .bool)) H k := cE jad jji Tryz.func59 h
def vQb8 (n_ : Option Addr) (H : jaa) (k : Bool → jaa → Prop) : Prop :=
 jab n_ fun a1 =>
 Ld (.int .i64) a1 H fun (x1 : Int) =>
 Jn (σ := Sl) (fun kk1 =>
 Jn (σ := Sl) (fun kk2 =>
 Br (x1 == 2) (
 Nw #[.string (⟨#[119, 105, 116, 104]⟩ : ByteArray), .string (⟨#[119, 105, 116, 104, 111, 117, 116]⟩ : ByteArray), .string (⟨#[114, 101, 97, 100, 115]⟩ : ByteArray), .string (⟨#[119, 114, 105, 116, 101, 115]⟩ : ByteArray)] jcC H fun b1 H3 =>
 kk2 ⟨some (adr b1), 4, 4⟩ H3) (
 Jn (σ := Sl) (fun kk3 =>
 Br (x1 == 4) (
 Nw #[.string (⟨#[102, 117, 110, 99]⟩ : ByteArray)] jcC H fun b2 H5 =>
 kk3 ⟨some (adr b2), 1, 1⟩ H5) (
 kk3 ⟨none, 0, 0⟩ H)) fun j3 H4 =>
 kk2 j3 H4)) fun j2 H2 =>
 kk1 j2 H2) fun j1 H1 =>
 LoopT (σ := Int) (fun next1 s1 H6 =>
 Br (decide (s1 < (j1.len : Int))) (
 IxA 1 j1 s1 fun a2 =>
 Ld .str a2 H6 fun (x2 : ByteArray) =>
 jab n_ fun a3 =>
 Ld .sl (a3.add 3) H6 fun (x3 : Sl) =>
 IxA 1 x3 s1 fun a4 =>
 Ld .ptr a4 H6 fun (x4 : Option Addr) =>
 jab x4 fun a5 =>
 Ld .str (a5.add 1) H6 fun (x5 : ByteArray) =>
 Br (!(x5.toList == x2.toList)) (
 k false H6) (
 Lt (IntKind.wrap .i64 (s1 + 1)) fun t1 =>
 next1 t1 H6)) (
 k true H6)) 0 H1
def jde : Hint := (hq (hq (.two (hq (.join [(3, (.c .sl))] (.one (hq (.join [(3, (.c .sl))] (hq (hq (.join [(3, (.c .sl))] .no)))))))) (.two (hq (.one (.loop [(18, (.c (.int .i64)))] .no))) .no))))
theorem cQb8 (n_ : Option Addr) {H : jaa} {k : Bool → jaa → Prop} (h : vQb8 n_ H k) : CallT Pg fQci [.pointer n_] (.one (.c .bool)) H k := cE jad jde Tryz.func60 h
def vQb9 (w_ : Option Addr) (s_ : ByteArray) (H : jaa) (k : Unit → jaa → Prop) : Prop :=
 jab w_ fun a1 =>
 Ld (.int .i64) (a1.add 2) H fun (x1 : Int) =>
 LoopT (σ := Int) (fun next1 s1 H1 =>
 Br (decide (s1 < x1)) (
 jab w_ fun a2 =>
 CallT Pg jkn [.pointer (some a2), .int .u8 9] (.one (.c .raw)) H1 fun (r1 : Value) H2 =>
 Lt (IntKind.wrap .i64 (s1 + 1)) fun t1 =>
 next1 t1 H2) (
 jab w_ fun a3 =>
 CallT Pg jfv [.pointer (some a3), .string s_] (.tup [(.c (.int .i64)), (.c .raw)]) H1 fun (r2 : Int × Value) H3 =>
 k () H3)) 0 H
def jdM : Hint := (.two (hq (.one (.loop [(8, (.c (.int .i64)))] .no))) .no)
theorem cQb9 (w_ : Option Addr) (s_ : ByteArray) {H : jaa} {k : Unit → jaa → Prop} (h : vQb9 w_ s_ H k) : CallT Pg fQcj [.pointer w_, .string s_] (.tup []) H k := cE jad jdM Tryz.func61 h
def vQca (l_ : Sl) (H : jaa) (k : ByteArray → jaa → Prop) : Prop :=
 LoopT (σ := Sl × Int) (fun next1 s1 H1 =>
 Br (decide (s1.2 < (l_.len : Int))) (
 IxA 1 l_ s1.2 fun a1 =>
 Ld .ptr a1 H1 fun (x1 : Option Addr) =>
 jab x1 fun a2 =>
 Ld .str (a2.add 1) H1 fun (x2 : ByteArray) =>
 Nw #[.string x2] jcC H1 fun b1 H2 =>
 App jcC 1 16 #[.string ByteArray.empty] s1.1 ⟨some (adr b1), 1, 1⟩ H2 fun l1 H3 =>
 Lt (IntKind.wrap .i64 (s1.2 + 1)) fun t1 =>
 next1 (l1, t1) H3) (
 CallT Pg fQcs [slV s1.1, .string (⟨#[44, 32]⟩ : ByteArray)] (.one (.c .str)) H1 fun (r1 : ByteArray) H4 =>
 k r1 H4)) (⟨none, 0, 0⟩, 0) H
def jgl : Hint := (hq (hq (.two (hq (.one (.loop [(3, (.c .sl)), (8, (.c (.int .i64)))] .no))) .no)))
theorem cQca (l_ : Sl) {H : jaa} {k : ByteArray → jaa → Prop} (h : vQca l_ H k) : CallT Pg fQck [slV l_] (.one (.c .str)) H k := cE jad jgl Tryz.func62 h
def vQcb (b_ : Option Addr) (s_ : ByteArray) (H : jaa) (k : Int × Value → jaa → Prop) : Prop :=
 CallT Pg fQct [.pointer b_] (.tup []) H fun (r1 : Unit) H1 =>
 jab b_ fun a1 =>
 Ld .sl (a1.add 1) H1 fun (x1 : Sl) =>
 AppStr TQag 1 #[.int .u8 0] x1 s_ H1 fun l1 H2 =>
 jab b_ fun a2 =>
 St (a2.add 1) (slV l1) H2 fun H3 =>
 k (((s_.size : Int), (.nilIface))) H3
def jbJ : Hint := .no
theorem cQcb (b_ : Option Addr) (s_ : ByteArray) {H : jaa} {k : Int × Value → jaa → Prop} (h : vQcb b_ s_ H k) : CallT Pg jfv [.pointer b_, .string s_] (.tup [(.c (.int .i64)), (.c .raw)]) H k := cE jad jbJ Tryz.func63 h
def vQcc (w_ : Option Addr) (n_ : Option Addr) (H : jaa) (k : Unit → jaa → Prop) : Prop :=
 jab w_ fun a1 =>
 CallT Pg jfv [.pointer (some a1), .string (⟨#[32, 123, 10]⟩ : ByteArray)] (.tup [(.c (.int .i64)), (.c .raw)]) H fun (r1 : Int × Value) H1 =>
 jab w_ fun a2 =>
 Ld (.int .i64) (a2.add 2) H1 fun (x1 : Int) =>
 Lt (IntKind.wrap .i64 (x1 + 1)) fun t1 =>
 jab w_ fun a3 =>
 St (a3.add 2) (.int .i64 t1) H1 fun H2 =>
 jab n_ fun a4 =>
 Ld .sl (a4.add 3) H2 fun (x2 : Sl) =>
 LoopT (σ := Int) (fun next1 s1 H3 =>
 Br (decide (s1 < (x2.len : Int))) (
 IxA 1 x2 s1 fun a5 =>
 Ld .ptr a5 H3 fun (x3 : Option Addr) =>
 CallT Pg fQcu [.pointer w_, .pointer x3] (.tup []) H3 fun (r2 : Unit) H4 =>
 Lt (IntKind.wrap .i64 (s1 + 1)) fun t2 =>
 next1 t2 H4) (
 jab w_ fun a6 =>
 Ld (.int .i64) (a6.add 2) H3 fun (x4 : Int) =>
 Lt (IntKind.wrap .i64 (x4 - 1)) fun t3 =>
 jab w_ fun a7 =>
 St (a7.add 2) (.int .i64 t3) H3 fun H5 =>
 CallT Pg fQcj [.pointer w_, .string (⟨#[125]⟩ : ByteArray)] (.tup []) H5 fun (r3 : Unit) H6 =>
 k () H6)) 0 H2
def jc8 : Hint := (hq (hq (.two (hq (.one (.loop [(22, (.c (.int .i64)))] .no))) .no)))
theorem cQcc (w_ : Option Addr) (n_ : Option Addr) {H : jaa} {k : Unit → jaa → Prop} (h : vQcc w_ n_ H k) : CallT Pg jml [.pointer w_, .pointer n_] (.tup []) H k := cE jad jc8 Tryz.func64 h
def vQcd (b_ : Option Addr) (c_ : Int) (H : jaa) (k : Value → jaa → Prop) : Prop :=
 CallT Pg fQct [.pointer b_] (.tup []) H fun (r1 : Unit) H1 =>
 jab b_ fun a1 =>
 Ld .sl (a1.add 1) H1 fun (x1 : Sl) =>
 Nw #[.int .u8 c_] TQag H1 fun b1 H2 =>
 App TQag 1 1 #[.int .u8 0] x1 ⟨some (adr b1), 1, 1⟩ H2 fun l1 H3 =>
 jab b_ fun a2 =>
 St (a2.add 1) (slV l1) H3 fun H4 =>
 k (.nilIface) H4
def jbU : Hint := .no
theorem cQcd (b_ : Option Addr) (c_ : Int) {H : jaa} {k : Value → jaa → Prop} (h : vQcd b_ c_ H k) : CallT Pg jkn [.pointer b_, .int .u8 c_] (.one (.c .raw)) H k := cE jad jbU Tryz.func65 h
def vQce (s_ : ByteArray) (H : jaa) (k : Bool → jaa → Prop) : Prop :=
 k ((s_.toList == (⟨#[]⟩ : ByteArray).toList)) H
def jfH : Hint := .no
theorem cQce (s_ : ByteArray) {H : jaa} {k : Bool → jaa → Prop} (h : vQce s_ H k) : CallT Pg fQco [.string s_] (.one (.c .bool)) H k := cE jad jfH Tryz.func89 h
def vQcf (l_ : Sl) (H : jaa) (k : Value → jaa → Prop) : Prop :=
 Nw #[slV l_] TQai H fun b1 H1 =>
 k ((.func (.func 127) #[] #[.pointer (some (adr b1))])) H1
def jgo : Hint := .no
theorem cQcf (l_ : Sl) {H : jaa} {k : Value → jaa → Prop} (h : vQcf l_ H k) : CallT Pg fQcp [slV l_] (.one (.c .raw)) H k := cE jad jgo Tryz.func91 h
def vQcg (s_ : ByteArray) (H : jaa) (k : Bool → jaa → Prop) : Prop :=
 CallT Pg fQaw [.string s_] (.one (.c (.int .i64))) H fun (r1 : Int) H1 =>
 k (decide (r1 > 0)) H1
def jf7 : Hint := .no
theorem cQcg (s_ : ByteArray) {H : jaa} {k : Bool → jaa → Prop} (h : vQcg s_ H k) : CallT Pg fQcq [.string s_] (.one (.c .bool)) H k := cE jad jf7 Tryz.func92 h
def vQch (s_ : ByteArray) (H : jaa) (k : Bool → jaa → Prop) : Prop :=
 Jn (σ := Bool) (fun kk1 =>
 CallT Pg fQan [.string s_] (.one (.c .bool)) H fun (r1 : Bool) H2 =>
 Br r1 (
 kk1 true H2) (
 CallT Pg fQax [.string s_] (.one (.c .bool)) H2 fun (r2 : Bool) H3 =>
 kk1 r2 H3)) fun j1 H1 =>
 k j1 H1
def jeT : Hint := (hq (.two (.join [(2, (.c .bool))] .no) .no))
theorem cQch (s_ : ByteArray) {H : jaa} {k : Bool → jaa → Prop} (h : vQch s_ H k) : CallT Pg fQcr [.string s_] (.one (.c .bool)) H k := cE jad jeT Tryz.func93 h
def vQci (w_ : Option Addr) (n_ : Option Addr) (H : jaa) (k : Unit → jaa → Prop) : Prop :=
 CallT Pg fQcj [.pointer w_, .string (⟨#[]⟩ : ByteArray)] (.tup []) H fun (r1 : Unit) H1 =>
 jab n_ fun a1 =>
 Ld (.int .i64) a1 H1 fun (x1 : Int) =>
 Jn (σ := Unit) (fun kk1 =>
 Jn (σ := Unit) (fun kk2 =>
 Br (x1 == 13) (
 CallT Pg fQcw [.pointer w_, .pointer n_] (.tup []) H1 fun (r2 : Unit) H4 =>
 kk2 () H4) (
 Jn (σ := Unit) (fun kk3 =>
 Br (x1 == 14) (
 jab n_ fun a2 =>
 Ld .sl (a2.add 3) H1 fun (x2 : Sl) =>
 IxA 1 x2 0 fun a3 =>
 Ld .ptr a3 H1 fun (x3 : Option Addr) =>
 CallT Pg jil [.pointer w_, .string (⟨#[119, 104, 105, 108, 101, 32]⟩ : ByteArray), .pointer x3] (.tup []) H1 fun (r3 : Unit) H6 =>
 jab n_ fun a4 =>
 Ld .sl (a4.add 3) H6 fun (x4 : Sl) =>
 IxA 1 x4 1 fun a5 =>
 Ld .ptr a5 H6 fun (x5 : Option Addr) =>
 CallT Pg jml [.pointer w_, .pointer x5] (.tup []) H6 fun (r4 : Unit) H7 =>
 kk3 () H7) (
 Jn (σ := Unit) (fun kk4 =>
 Br (x1 == 15) (
 jab n_ fun a6 =>
 Ld .sl (a6.add 3) H1 fun (x6 : Sl) =>
 IxA 1 x6 0 fun a7 =>
 Ld .ptr a7 H1 fun (x7 : Option Addr) =>
 CallT Pg jil [.pointer w_, .string (⟨#[114, 101, 112, 101, 97, 116, 32]⟩ : ByteArray), .pointer x7] (.tup []) H1 fun (r5 : Unit) H9 =>
 jab n_ fun a8 =>
 Ld .sl (a8.add 3) H9 fun (x8 : Sl) =>
 IxA 1 x8 1 fun a9 =>
 Ld .ptr a9 H9 fun (x9 : Option Addr) =>
 CallT Pg jml [.pointer w_, .pointer x9] (.tup []) H9 fun (r6 : Unit) H10 =>
 kk4 () H10) (
 CallT Pg fQcy [.pointer w_, .pointer n_] (.tup []) H1 fun (r7 : Unit) H11 =>
 jab w_ fun a10 =>
 CallT Pg jkn [.pointer (some a10), .int .u8 59] (.one (.c .raw)) H11 fun (r8 : Value) H12 =>
 kk4 () H12)) fun j4 H8 =>
 kk3 () H8)) fun j3 H5 =>
 kk2 () H5)) fun j2 H3 =>
 kk1 () H3) fun j1 H2 =>
 jab w_ fun a11 =>
 CallT Pg jkn [.pointer (some a11), .int .u8 10] (.one (.c .raw)) H2 fun (r9 : Value) H13 =>
 k () H13
def jdC : Hint := (hq (.two (hq (.join [] (.one (hq (.join [] (hq (hq (.join [] (hq (hq (.join [] .no))))))))))) .no))
theorem cQci (w_ : Option Addr) (n_ : Option Addr) {H : jaa} {k : Unit → jaa → Prop} (h : vQci w_ n_ H k) : CallT Pg fQcu [.pointer w_, .pointer n_] (.tup []) H k := cE jad jdC Tryz.func96 h
def vQcj (w_ : Option Addr) (n_ : Option Addr) (H : jaa) (k : Unit → jaa → Prop) : Prop :=
 jab n_ fun a1 =>
 Ld .sl (a1.add 3) H fun (x1 : Sl) =>
 IxA 1 x1 0 fun a2 =>
 Ld .ptr a2 H fun (x2 : Option Addr) =>
 CallT Pg jil [.pointer w_, .string (⟨#[105, 102, 32]⟩ : ByteArray), .pointer x2] (.tup []) H fun (r1 : Unit) H1 =>
 jab n_ fun a3 =>
 Ld .sl (a3.add 3) H1 fun (x3 : Sl) =>
 IxA 1 x3 1 fun a4 =>
 Ld .ptr a4 H1 fun (x4 : Option Addr) =>
 CallT Pg jml [.pointer w_, .pointer x4] (.tup []) H1 fun (r2 : Unit) H2 =>
 jab n_ fun a5 =>
 Ld .sl (a5.add 3) H2 fun (x5 : Sl) =>
 Br (decide ((x5.len : Int) < 3)) (
 k () H2) (
 jab w_ fun a6 =>
 CallT Pg jfv [.pointer (some a6), .string (⟨#[32, 101, 108, 115, 101]⟩ : ByteArray)] (.tup [(.c (.int .i64)), (.c .raw)]) H2 fun (r3 : Int × Value) H3 =>
 jab n_ fun a7 =>
 Ld .sl (a7.add 3) H3 fun (x6 : Sl) =>
 IxA 1 x6 2 fun a8 =>
 Ld .ptr a8 H3 fun (x7 : Option Addr) =>
 jab x7 fun a9 =>
 Ld (.int .i64) a9 H3 fun (x8 : Int) =>
 Br (x8 == 13) (
 jab w_ fun a10 =>
 CallT Pg jkn [.pointer (some a10), .int .u8 32] (.one (.c .raw)) H3 fun (r4 : Value) H4 =>
 jab n_ fun a11 =>
 Ld .sl (a11.add 3) H4 fun (x9 : Sl) =>
 IxA 1 x9 2 fun a12 =>
 Ld .ptr a12 H4 fun (x10 : Option Addr) =>
 CallT Pg fQcw [.pointer w_, .pointer x10] (.tup []) H4 fun (r5 : Unit) H5 =>
 k () H5) (
 jab n_ fun a13 =>
 Ld .sl (a13.add 3) H3 fun (x11 : Sl) =>
 IxA 1 x11 2 fun a14 =>
 Ld .ptr a14 H3 fun (x12 : Option Addr) =>
 CallT Pg jml [.pointer w_, .pointer x12] (.tup []) H3 fun (r6 : Unit) H6 =>
 k () H6))
def jcI : Hint := .no
theorem cQcj (w_ : Option Addr) (n_ : Option Addr) {H : jaa} {k : Unit → jaa → Prop} (h : vQcj w_ n_ H k) : CallT Pg fQcw [.pointer w_, .pointer n_] (.tup []) H k := cE jad jcI Tryz.func132 h
def vQck (w_ : Option Addr) (s_ : ByteArray) (n_ : Option Addr) (H : jaa) (k : Unit → jaa → Prop) : Prop :=
 jab w_ fun a1 =>
 CallT Pg jfv [.pointer (some a1), .string s_] (.tup [(.c (.int .i64)), (.c .raw)]) H fun (r1 : Int × Value) H1 =>
 CallT Pg jmw [.pointer w_, .pointer n_] (.tup []) H1 fun (r2 : Unit) H2 =>
 k () H2
def jdi : Hint := .no
theorem cQck (w_ : Option Addr) (s_ : ByteArray) (n_ : Option Addr) {H : jaa} {k : Unit → jaa → Prop} (h : vQck w_ s_ n_ H k) : CallT Pg jil [.pointer w_, .string s_, .pointer n_] (.tup []) H k := cE jad jdi Tryz.func133 h
def vQcl (w_ : Option Addr) (n_ : Option Addr) (H : jaa) (k : Unit → jaa → Prop) : Prop :=
 jab n_ fun a1 =>
 Ld (.int .i64) a1 H fun (x1 : Int) =>
 Jn (σ := Unit) (fun kk1 =>
 Jn (σ := Unit) (fun kk2 =>
 Br (x1 == 10) (
 jab n_ fun a2 =>
 Ld .str (a2.add 1) H fun (x2 : ByteArray) =>
 jag (⟨#[108, 101, 116, 32]⟩ : ByteArray) x2 fun y1 =>
 jag y1 (⟨#[32, 61, 32]⟩ : ByteArray) fun y2 =>
 jab n_ fun a3 =>
 Ld .sl (a3.add 3) H fun (x3 : Sl) =>
 IxA 1 x3 0 fun a4 =>
 Ld .ptr a4 H fun (x4 : Option Addr) =>
 CallT Pg jil [.pointer w_, .string y2, .pointer x4] (.tup []) H fun (r1 : Unit) H3 =>
 Stab [(a3.add 3, slV x3), (a2.add 1, .string x2)] H3 <|
 kk2 () H3) (
 Jn (σ := Unit) (fun kk3 =>
 Br (x1 == 11) (
 jab n_ fun a5 =>
 Ld .str (a5.add 1) H fun (x5 : ByteArray) =>
 jag x5 (⟨#[32, 61, 32]⟩ : ByteArray) fun y3 =>
 jab n_ fun a6 =>
 Ld .sl (a6.add 3) H fun (x6 : Sl) =>
 IxA 1 x6 0 fun a7 =>
 Ld .ptr a7 H fun (x7 : Option Addr) =>
 CallT Pg jil [.pointer w_, .string y3, .pointer x7] (.tup []) H fun (r2 : Unit) H5 =>
 Stab [(a6.add 3, slV x6), (a5.add 1, .string x5)] H5 <|
 kk3 () H5) (
 Jn (σ := Unit) (fun kk4 =>
 Br (x1 == 12) (
 jab n_ fun a8 =>
 Ld .str (a8.add 1) H fun (x8 : ByteArray) =>
 jag x8 (⟨#[46]⟩ : ByteArray) fun y4 =>
 jab n_ fun a9 =>
 Ld .sl (a9.add 3) H fun (x9 : Sl) =>
 IxA 1 x9 0 fun a10 =>
 Ld .ptr a10 H fun (x10 : Option Addr) =>
 jab x10 fun a11 =>
 Ld .str (a11.add 1) H fun (x11 : ByteArray) =>
 jag y4 x11 fun y5 =>
 jag y5 (⟨#[32, 61, 32]⟩ : ByteArray) fun y6 =>
 jab n_ fun a12 =>
 Ld .sl (a12.add 3) H fun (x12 : Sl) =>
 IxA 1 x12 1 fun a13 =>
 Ld .ptr a13 H fun (x13 : Option Addr) =>
 CallT Pg jil [.pointer w_, .string y6, .pointer x13] (.tup []) H fun (r3 : Unit) H7 =>
 Stab [(a12.add 3, slV x12), (a11.add 1, .string x11), (a10, .pointer x10), (a9.add 3, slV x9), (a8.add 1, .string x8)] H7 <|
 kk4 () H7) (
 Jn (σ := Unit) (fun kk5 =>
 Br (x1 == 16) (
 jab n_ fun a14 =>
 Ld .sl (a14.add 3) H fun (x14 : Sl) =>
 IxA 1 x14 0 fun a15 =>
 Ld .ptr a15 H fun (x15 : Option Addr) =>
 CallT Pg jil [.pointer w_, .string (⟨#[101, 109, 105, 116, 32]⟩ : ByteArray), .pointer x15] (.tup []) H fun (r4 : Unit) H9 =>
 jab n_ fun a16 =>
 Ld .sl (a16.add 3) H9 fun (x16 : Sl) =>
 IxA 1 x16 1 fun a17 =>
 Ld .ptr a17 H9 fun (x17 : Option Addr) =>
 CallT Pg jil [.pointer w_, .string (⟨#[44, 32]⟩ : ByteArray), .pointer x17] (.tup []) H9 fun (r5 : Unit) H10 =>
 kk5 () H10) (
 Jn (σ := Unit) (fun kk6 =>
 Br (x1 == 17) (
 CallT Pg fQc0 [.pointer w_, .pointer n_] (.tup []) H fun (r6 : Unit) H12 =>
 kk6 () H12) (
 Jn (σ := Unit) (fun kk7 =>
 Br (x1 == 18) (
 jab w_ fun a18 =>
 CallT Pg jfv [.pointer (some a18), .string (⟨#[97, 100, 100, 32]⟩ : ByteArray)] (.tup [(.c (.int .i64)), (.c .raw)]) H fun (r7 : Int × Value) H14 =>
 jab n_ fun a19 =>
 Ld .sl (a19.add 3) H14 fun (x18 : Sl) =>
 IxA 1 x18 0 fun a20 =>
 Ld .ptr a20 H14 fun (x19 : Option Addr) =>
 CallT Pg fQc1 [.pointer w_, .pointer x19] (.tup []) H14 fun (r8 : Unit) H15 =>
 kk7 () H15) (
 Jn (σ := Unit) (fun kk8 =>
 Br (x1 == 19) (
 jab w_ fun a21 =>
 jab n_ fun a22 =>
 Ld .str (a22.add 1) H fun (x20 : ByteArray) =>
 jag (⟨#[114, 101, 109, 111, 118, 101, 32]⟩ : ByteArray) x20 fun y7 =>
 CallT Pg jfv [.pointer (some a21), .string y7] (.tup [(.c (.int .i64)), (.c .raw)]) H fun (r9 : Int × Value) H17 =>
 Stab [(a22.add 1, .string x20)] H17 <|
 kk8 () H17) (
 Jn (σ := Unit) (fun kk9 =>
 Br (x1 == 20) (
 jab w_ fun a23 =>
 CallT Pg jfv [.pointer (some a23), .string (⟨#[100, 105, 101]⟩ : ByteArray)] (.tup [(.c (.int .i64)), (.c .raw)]) H fun (r10 : Int × Value) H19 =>
 kk9 () H19) (
 Jn (σ := Unit) (fun kk10 =>
 Br (x1 == 21) (
 jab w_ fun a24 =>
 CallT Pg jfv [.pointer (some a24), .string (⟨#[115, 116, 111, 112]⟩ : ByteArray)] (.tup [(.c (.int .i64)), (.c .raw)]) H fun (r11 : Int × Value) H21 =>
 kk10 () H21) (
 Jn (σ := Unit) (fun kk11 =>
 Br (x1 == 22) (
 jab n_ fun a25 =>
 Ld .sl (a25.add 3) H fun (x21 : Sl) =>
 IxA 1 x21 0 fun a26 =>
 Ld .ptr a26 H fun (x22 : Option Addr) =>
 CallT Pg jil [.pointer w_, .string (⟨#[114, 101, 116, 117, 114, 110, 32]⟩ : ByteArray), .pointer x22] (.tup []) H fun (r12 : Unit) H23 =>
 kk11 () H23) (
 kk11 () H)) fun j11 H22 =>
 kk10 () H22)) fun j10 H20 =>
 kk9 () H20)) fun j9 H18 =>
 kk8 () H18)) fun j8 H16 =>
 kk7 () H16)) fun j7 H13 =>
 kk6 () H13)) fun j6 H11 =>
 kk5 () H11)) fun j5 H8 =>
 kk4 () H8)) fun j4 H6 =>
 kk3 () H6)) fun j3 H4 =>
 kk2 () H4)) fun j2 H2 =>
 kk1 () H2) fun j1 H1 =>
 k () H1
def jcK : Hint := (hq (.join [] (.one (hq (.join [] (hq (hq (.join [] (hq (hq (.join [] (hq (hq (.join [] (hq (hq (.join [] (hq (hq (.join [] (hq (hq (.join [] (hq (hq (.join [] (hq (hq (.join [] (hq (hq (.join [] .no))))))))))))))))))))))))))))))))
theorem cQcl (w_ : Option Addr) (n_ : Option Addr) {H : jaa} {k : Unit → jaa → Prop} (h : vQcl w_ n_ H k) : CallT Pg fQcy [.pointer w_, .pointer n_] (.tup []) H k := cE jad jcK Tryz.func134 h
def vQcm (w_ : Option Addr) (n_ : Option Addr) (H : jaa) (k : Unit → jaa → Prop) : Prop :=
 jab n_ fun a1 =>
 Ld (.int .i64) a1 H fun (x1 : Int) =>
 Jn (σ := Unit) (fun kk1 =>
 Jn (σ := Unit) (fun kk2 =>
 Br (x1 == 30) (
 jab w_ fun a2 =>
 jab n_ fun a3 =>
 Ld (.int .i64) (a3.add 2) H fun (x2 : Int) =>
 CallT Pg fQc2 [.int .i64 x2, .int .i64 10] (.one (.c .str)) H fun (r1 : ByteArray) H3 =>
 CallT Pg jfv [.pointer (some a2), .string r1] (.tup [(.c (.int .i64)), (.c .raw)]) H3 fun (r2 : Int × Value) H4 =>
 Stab [(a3.add 2, .int .i64 x2)] H4 <|
 kk2 () H4) (
 Jn (σ := Unit) (fun kk3 =>
 Br (x1 == 32) (
 jab w_ fun a4 =>
 jab n_ fun a5 =>
 Ld .str (a5.add 1) H fun (x3 : ByteArray) =>
 jag x3 (⟨#[46]⟩ : ByteArray) fun y1 =>
 jab n_ fun a6 =>
 Ld .sl (a6.add 3) H fun (x4 : Sl) =>
 IxA 1 x4 0 fun a7 =>
 Ld .ptr a7 H fun (x5 : Option Addr) =>
 jab x5 fun a8 =>
 Ld .str (a8.add 1) H fun (x6 : ByteArray) =>
 jag y1 x6 fun y2 =>
 CallT Pg jfv [.pointer (some a4), .string y2] (.tup [(.c (.int .i64)), (.c .raw)]) H fun (r3 : Int × Value) H6 =>
 Stab [(a8.add 1, .string x6), (a7, .pointer x5), (a6.add 3, slV x4), (a5.add 1, .string x3)] H6 <|
 kk3 () H6) (
 Jn (σ := Unit) (fun kk4 =>
 Br (x1 == 33) (
 jab n_ fun a9 =>
 Ld .str (a9.add 1) H fun (x7 : ByteArray) =>
 CallT Pg fQaw [.string x7] (.one (.c (.int .i64))) H fun (r4 : Int) H8 =>
 jab n_ fun a10 =>
 Ld .sl (a10.add 3) H8 fun (x8 : Sl) =>
 IxA 1 x8 0 fun a11 =>
 Ld .ptr a11 H8 fun (x9 : Option Addr) =>
 CallT Pg fQc3 [.pointer w_, .pointer x9, .int .i64 r4, .bool false] (.tup []) H8 fun (r5 : Unit) H9 =>
 jab w_ fun a12 =>
 jab n_ fun a13 =>
 Ld .str (a13.add 1) H9 fun (x10 : ByteArray) =>
 jag (⟨#[32]⟩ : ByteArray) x10 fun y3 =>
 jag y3 (⟨#[32]⟩ : ByteArray) fun y4 =>
 CallT Pg jfv [.pointer (some a12), .string y4] (.tup [(.c (.int .i64)), (.c .raw)]) H9 fun (r6 : Int × Value) H10 =>
 Stab [(a13.add 1, .string x10)] H10 <|
 jab n_ fun a14 =>
 Ld .sl (a14.add 3) H10 fun (x11 : Sl) =>
 IxA 1 x11 1 fun a15 =>
 Ld .ptr a15 H10 fun (x12 : Option Addr) =>
 CallT Pg fQc3 [.pointer w_, .pointer x12, .int .i64 r4, .bool true] (.tup []) H10 fun (r7 : Unit) H11 =>
 kk4 () H11) (
 Jn (σ := Unit) (fun kk5 =>
 Br (x1 == 34) (
 jab w_ fun a16 =>
 jab n_ fun a17 =>
 Ld .str (a17.add 1) H fun (x13 : ByteArray) =>
 CallT Pg jfv [.pointer (some a16), .string x13] (.tup [(.c (.int .i64)), (.c .raw)]) H fun (r8 : Int × Value) H13 =>
 jab n_ fun a18 =>
 Ld .sl (a18.add 3) H13 fun (x14 : Sl) =>
 IxA 1 x14 0 fun a19 =>
 Ld .ptr a19 H13 fun (x15 : Option Addr) =>
 CallT Pg fQc3 [.pointer w_, .pointer x15, .int .i64 7, .bool false] (.tup []) H13 fun (r9 : Unit) H14 =>
 kk5 () H14) (
 Jn (σ := Unit) (fun kk6 =>
 Br (x1 == 35) (
 jab n_ fun a20 =>
 Ld .sl (a20.add 3) H fun (x16 : Sl) =>
 IxA 1 x16 0 fun a21 =>
 Ld .ptr a21 H fun (x17 : Option Addr) =>
 CallT Pg fQc3 [.pointer w_, .pointer x17, .int .i64 0, .bool false] (.tup []) H fun (r10 : Unit) H16 =>
 jab n_ fun a22 =>
 Ld .sl (a22.add 3) H16 fun (x18 : Sl) =>
 IxA 1 x18 1 fun a23 =>
 Ld .ptr a23 H16 fun (x19 : Option Addr) =>
 CallT Pg jil [.pointer w_, .string (⟨#[32, 63, 32]⟩ : ByteArray), .pointer x19] (.tup []) H16 fun (r11 : Unit) H17 =>
 jab n_ fun a24 =>
 Ld .sl (a24.add 3) H17 fun (x20 : Sl) =>
 IxA 1 x20 2 fun a25 =>
 Ld .ptr a25 H17 fun (x21 : Option Addr) =>
 CallT Pg jil [.pointer w_, .string (⟨#[32, 58, 32]⟩ : ByteArray), .pointer x21] (.tup []) H17 fun (r12 : Unit) H18 =>
 kk6 () H18) (
 Jn (σ := Unit) (fun kk7 =>
 Br (x1 == 36) (
 jab w_ fun a26 =>
 jab n_ fun a27 =>
 Ld .str (a27.add 1) H fun (x22 : ByteArray) =>
 jag x22 (⟨#[40]⟩ : ByteArray) fun y5 =>
 CallT Pg jfv [.pointer (some a26), .string y5] (.tup [(.c (.int .i64)), (.c .raw)]) H fun (r13 : Int × Value) H20 =>
 Stab [(a27.add 1, .string x22)] H20 <|
 jab n_ fun a28 =>
 Ld .sl (a28.add 3) H20 fun (x23 : Sl) =>
 LoopT (σ := Int) (fun next1 s1 H21 =>
 Br (decide (s1 < (x23.len : Int))) (
 IxA 1 x23 s1 fun a29 =>
 Ld .ptr a29 H21 fun (x24 : Option Addr) =>
 CallT Pg fQc4 [.pointer w_, .int .i64 s1] (.tup []) H21 fun (r14 : Unit) H22 =>
 CallT Pg jmw [.pointer w_, .pointer x24] (.tup []) H22 fun (r15 : Unit) H23 =>
 Lt (IntKind.wrap .i64 (s1 + 1)) fun t1 =>
 next1 t1 H23) (
 jab w_ fun a30 =>
 CallT Pg jkn [.pointer (some a30), .int .u8 41] (.one (.c .raw)) H21 fun (r16 : Value) H24 =>
 kk7 () H24)) 0 H20) (
 Jn (σ := Unit) (fun kk8 =>
 Br (x1 == 37) (
 jab w_ fun a31 =>
 jab n_ fun a32 =>
 Ld .str (a32.add 1) H fun (x25 : ByteArray) =>
 jag (⟨#[104, 97, 115, 40]⟩ : ByteArray) x25 fun y6 =>
 jag y6 (⟨#[41]⟩ : ByteArray) fun y7 =>
 CallT Pg jfv [.pointer (some a31), .string y7] (.tup [(.c (.int .i64)), (.c .raw)]) H fun (r17 : Int × Value) H26 =>
 Stab [(a32.add 1, .string x25)] H26 <|
 kk8 () H26) (
 jab w_ fun a33 =>
 jab n_ fun a34 =>
 Ld .str (a34.add 1) H fun (x26 : ByteArray) =>
 CallT Pg jfv [.pointer (some a33), .string x26] (.tup [(.c (.int .i64)), (.c .raw)]) H fun (r18 : Int × Value) H27 =>
 kk8 () H27)) fun j8 H25 =>
 kk7 () H25)) fun j7 H19 =>
 kk6 () H19)) fun j6 H15 =>
 kk5 () H15)) fun j5 H12 =>
 kk4 () H12)) fun j4 H7 =>
 kk3 () H7)) fun j3 H5 =>
 kk2 () H5)) fun j2 H2 =>
 kk1 () H2) fun j1 H1 =>
 k () H1
def jdH : Hint := (hq (.join [] (.one (hq (.join [] (hq (hq (.join [] (hq (hq (.join [] (hq (hq (.join [] (hq (hq (.join [] (hq (hq (.join [] (.two (hq (.two (hq (.one (.loop [(146, (.c (.int .i64)))] .no))) .no)) (hq (.join [] .no)))))))))))))))))))))))
theorem cQcm (w_ : Option Addr) (n_ : Option Addr) {H : jaa} {k : Unit → jaa → Prop} (h : vQcm w_ n_ H k) : CallT Pg jmw [.pointer w_, .pointer n_] (.tup []) H k := cE jad jdH Tryz.func151 h
def vQcn (w_ : Option Addr) (n_ : Option Addr) (H : jaa) (k : Unit → jaa → Prop) : Prop :=
 jab w_ fun a1 =>
 CallT Pg jfv [.pointer (some a1), .string (⟨#[115, 112, 97, 119, 110]⟩ : ByteArray)] (.tup [(.c (.int .i64)), (.c .raw)]) H fun (r1 : Int × Value) H1 =>
 jab n_ fun a2 =>
 Ld .sl (a2.add 3) H1 fun (x1 : Sl) =>
 LoopT (σ := Int) (fun next1 s1 H2 =>
 Br (decide (s1 < (x1.len : Int))) (
 IxA 1 x1 s1 fun a3 =>
 Ld .ptr a3 H2 fun (x2 : Option Addr) =>
 jab w_ fun a4 =>
 Nw #[.string (⟨#[32]⟩ : ByteArray), .string (⟨#[44, 32]⟩ : ByteArray)] jcC H2 fun b1 H3 =>
 IxA 1 ⟨some (adr b1), 2, 2⟩ (if 1 < s1 then 1 else s1) fun a5 =>
 Ld .str a5 H3 fun (x3 : ByteArray) =>
 CallT Pg jfv [.pointer (some a4), .string x3] (.tup [(.c (.int .i64)), (.c .raw)]) H3 fun (r2 : Int × Value) H4 =>
 CallT Pg fQc1 [.pointer w_, .pointer x2] (.tup []) H4 fun (r3 : Unit) H5 =>
 Lt (IntKind.wrap .i64 (s1 + 1)) fun t1 =>
 next1 t1 H5) (
 k () H2)) 0 H1
def jc5 : Hint := (hq (hq (.one (.loop [(15, (.c (.int .i64)))] .no))))
theorem cQcn (w_ : Option Addr) (n_ : Option Addr) {H : jaa} {k : Unit → jaa → Prop} (h : vQcn w_ n_ H k) : CallT Pg fQc0 [.pointer w_, .pointer n_] (.tup []) H k := cE jad jc5 Tryz.func152 h
def vQco (w_ : Option Addr) (n_ : Option Addr) (H : jaa) (k : Unit → jaa → Prop) : Prop :=
 jab w_ fun a1 =>
 jab n_ fun a2 =>
 Ld .str (a2.add 1) H fun (x1 : ByteArray) =>
 jag x1 (⟨#[123]⟩ : ByteArray) fun y1 =>
 CallT Pg jfv [.pointer (some a1), .string y1] (.tup [(.c (.int .i64)), (.c .raw)]) H fun (r1 : Int × Value) H1 =>
 Stab [(a2.add 1, .string x1)] H1 <|
 jab n_ fun a3 =>
 Ld .sl (a3.add 3) H1 fun (x2 : Sl) =>
 LoopT (σ := Int) (fun next1 s1 H2 =>
 Br (decide (s1 < (x2.len : Int))) (
 IxA 1 x2 s1 fun a4 =>
 Ld .ptr a4 H2 fun (x3 : Option Addr) =>
 CallT Pg fQc4 [.pointer w_, .int .i64 s1] (.tup []) H2 fun (r2 : Unit) H3 =>
 jab x3 fun a5 =>
 Ld .str (a5.add 1) H3 fun (x4 : ByteArray) =>
 jag x4 (⟨#[58, 32]⟩ : ByteArray) fun y2 =>
 jab x3 fun a6 =>
 Ld .sl (a6.add 3) H3 fun (x5 : Sl) =>
 IxA 1 x5 0 fun a7 =>
 Ld .ptr a7 H3 fun (x6 : Option Addr) =>
 CallT Pg jil [.pointer w_, .string y2, .pointer x6] (.tup []) H3 fun (r3 : Unit) H4 =>
 Stab [(a6.add 3, slV x5), (a5.add 1, .string x4)] H4 <|
 Lt (IntKind.wrap .i64 (s1 + 1)) fun t1 =>
 next1 t1 H4) (
 jab w_ fun a8 =>
 CallT Pg jkn [.pointer (some a8), .int .u8 125] (.one (.c .raw)) H2 fun (r4 : Value) H5 =>
 k () H5)) 0 H1
def jdG : Hint := (hq (.two (hq (.one (.loop [(20, (.c (.int .i64)))] .no))) .no))
theorem cQco (w_ : Option Addr) (n_ : Option Addr) {H : jaa} {k : Unit → jaa → Prop} (h : vQco w_ n_ H k) : CallT Pg fQc1 [.pointer w_, .pointer n_] (.tup []) H k := cE jad jdG Tryz.func153 h
def vQcp (w_ : Option Addr) (n_ : Option Addr) (level_ : Int) (right_ : Bool) (H : jaa) (k : Unit → jaa → Prop) : Prop :=
 Jn (σ := Bool) (fun kk1 =>
 jab n_ fun a1 =>
 Ld (.int .i64) a1 H fun (x1 : Int) =>
 Br (x1 == 35) (
 kk1 true H) (
 jab n_ fun a2 =>
 Ld (.int .i64) a2 H fun (x2 : Int) =>
 Br (x2 == 33) (
 jab n_ fun a3 =>
 Ld .str (a3.add 1) H fun (x3 : ByteArray) =>
 CallT Pg fQaw [.string x3] (.one (.c (.int .i64))) H fun (r1 : Int) H2 =>
 Br (decide (r1 < level_)) (
 kk1 true H2) (
 Br right_ (
 jab n_ fun a4 =>
 Ld .str (a4.add 1) H2 fun (x4 : ByteArray) =>
 CallT Pg fQaw [.string x4] (.one (.c (.int .i64))) H2 fun (r2 : Int) H3 =>
 kk1 (r2 == level_) H3) (
 kk1 false H2))) (
 kk1 false H))) fun j1 H1 =>
 Br j1 (
 CallT Pg jil [.pointer w_, .string (⟨#[40]⟩ : ByteArray), .pointer n_] (.tup []) H1 fun (r3 : Unit) H4 =>
 jab w_ fun a5 =>
 CallT Pg jkn [.pointer (some a5), .int .u8 41] (.one (.c .raw)) H4 fun (r4 : Value) H5 =>
 k () H5) (
 CallT Pg jmw [.pointer w_, .pointer n_] (.tup []) H1 fun (r5 : Unit) H6 =>
 k () H6)
def jcY : Hint := (.two (.two (.join [(40, (.c .bool))] .no) .no) .no)
theorem cQcp (w_ : Option Addr) (n_ : Option Addr) (level_ : Int) (right_ : Bool) {H : jaa} {k : Unit → jaa → Prop} (h : vQcp w_ n_ level_ right_ H k) : CallT Pg fQc3 [.pointer w_, .pointer n_, .int .i64 level_, .bool right_] (.tup []) H k := cE jad jcY Tryz.func178 h
def vQcq (w_ : Option Addr) (i_ : Int) (H : jaa) (k : Unit → jaa → Prop) : Prop :=
 Jn (σ := Unit) (fun kk1 =>
 Br (decide (i_ > 0)) (
 jab w_ fun a1 =>
 CallT Pg jfv [.pointer (some a1), .string (⟨#[44, 32]⟩ : ByteArray)] (.tup [(.c (.int .i64)), (.c .raw)]) H fun (r1 : Int × Value) H2 =>
 kk1 () H2) (
 kk1 () H)) fun j1 H1 =>
 k () H1
def jda : Hint := (hq (.join [] .no))
theorem cQcq (w_ : Option Addr) (i_ : Int) {H : jaa} {k : Unit → jaa → Prop} (h : vQcq w_ i_ H k) : CallT Pg fQc4 [.pointer w_, .int .i64 i_] (.tup []) H k := cE jad jda Tryz.func179 h
def vQcr (s_ : ByteArray) (free0_ : Addr) (H : jaa) (k : Bool → jaa → Prop) : Prop :=
 Ld .sl free0_ H fun (x1 : Sl) =>
 CallT Pg fQau [slV x1, .string s_] (.one (.c .bool)) H fun (r1 : Bool) H1 =>
 k r1 H1
def jfp : Hint := .no
theorem cQcr (s_ : ByteArray) (free0_ : Addr) {H : jaa} {k : Bool → jaa → Prop} (h : vQcr s_ free0_ H k) : CallT Pg fQcv [.string s_, .pointer (some free0_)] (.one (.c .bool)) H k := cE jad jfp Tryz.func127 h
def vQcs  (H : jaa) (k : Bool → jaa → Prop) : Prop :=
 CallT Pg fQb8 [.string (⟨#[115, 121, 115, 116, 101, 109, 32, 77, 32, 114, 101, 97, 100, 115, 32, 86, 32, 119, 114, 105, 116, 101, 115, 32, 80, 123, 80, 46, 120, 61, 80, 46, 120, 43, 86, 46, 120, 59, 125, 102, 117, 110, 99, 32, 102, 40, 97, 41, 123, 114, 101, 116, 117, 114, 110, 32, 97, 45, 40, 49, 45, 50, 41, 42, 45, 51, 59, 125]⟩ : ByteArray)] (.tup [(.c .ptr), (.c .raw)]) H fun (r1 : Option Addr × Value) H1 =>
 CallT Pg fQb8 [.string (⟨#[115, 121, 115, 116, 101, 109, 32, 83, 32, 123, 32, 108, 101, 116, 32, 120, 32, 61, 32, 59, 32, 125]⟩ : ByteArray)] (.tup [(.c .ptr), (.c .raw)]) H1 fun (r2 : Option Addr × Value) H2 =>
 CallT Pg fQb9 [r2.2] (.tup [(.c (.int .i64)), (.c (.int .i64)), (.c .bool)]) H2 fun (r3 : Int × Int × Bool) H3 =>
 Jn (σ := Bool) (fun kk1 =>
 IfNil r1.2 fun e1 =>
 Br (!e1) (
 kk1 true H3) (
 Br r1.1.isNone (
 kk1 true H3) (
 jab r1.1 fun a1 =>
 Ld .sl (a1.add 3) H3 fun (x1 : Sl) =>
 kk1 ((x1.len : Int) != 2) H3))) fun j1 H4 =>
 Br j1 (
 k false H4) (
 CallT Pg fQca [.pointer r1.1] (.one (.c .str)) H4 fun (r4 : ByteArray) H5 =>
 CallT Pg fQcb [.pointer r1.1, .pointer r1.1] (.one (.c .bool)) H5 fun (r5 : Bool) H6 =>
 jab r1.1 fun a2 =>
 Ld .sl (a2.add 3) H6 fun (x2 : Sl) =>
 IxA 1 x2 0 fun a3 =>
 Ld .ptr a3 H6 fun (x3 : Option Addr) =>
 CallT Pg fQcb [.pointer r1.1, .pointer x3] (.one (.c .bool)) H6 fun (r6 : Bool) H7 =>
 Jn (σ := Bool) (fun kk2 =>
 Br (r3.1 == 19) (
 Br (r3.2.1 == 100) (
 Br r3.2.2 (
 Br r5 (
 Br (!r6) (
 kk2 ((r4.toList == (⟨#[115, 121, 115, 116, 101, 109, 32, 77, 32, 114, 101, 97, 100, 115, 32, 86, 32, 119, 114, 105, 116, 101, 115, 32, 80, 32, 123, 10, 9, 80, 46, 120, 32, 61, 32, 80, 46, 120, 32, 43, 32, 86, 46, 120, 59, 10, 125, 10, 102, 117, 110, 99, 32, 102, 40, 97, 41, 32, 123, 10, 9, 114, 101, 116, 117, 114, 110, 32, 97, 32, 45, 32, 40, 49, 32, 45, 32, 50, 41, 32, 42, 32, 45, 51, 59, 10, 125, 10]⟩ : ByteArray).toList)) H7) (
 kk2 false H7)) (
 kk2 false H7)) (
 kk2 false H7)) (
 kk2 false H7)) (
 kk2 false H7)) fun j2 H8 =>
 k j2 H8)
def jiH : Hint := (hq (hq (hq (hq (.two (.two (.join [(38, (.c .bool))] .no) .no) (hq (hq (hq (.two (.join [(0, (.c .bool))] .no) .no)))))))))
theorem cQcs  {H : jaa} {k : Bool → jaa → Prop} (h : vQcs  H k) : CallT Pg fQb7 [] (.one (.c .bool)) H k := cE jad jiH Tryz.func7 h
def vQct (e_ : Value) (H : jaa) (k : Int × Int × Bool → jaa → Prop) : Prop :=
 IfNil e_ fun e1 =>
 Br e1 (
 k (0, 0, true) H) (
 TAs (.c .ptr) jkO none e_ fun (x1 : Option Addr) e2 =>
 Jn (σ := Bool) (fun kk1 =>
 Br (!e2) (
 kk1 true H) (
 kk1 x1.isNone H)) fun j1 H1 =>
 Br j1 (
 k (0, 0, false) H1) (
 jab x1 fun a1 =>
 Ld (.int .i64) a1 H1 fun (x2 : Int) =>
 jab x1 fun a2 =>
 Ld (.int .i64) (a2.add 1) H1 fun (x3 : Int) =>
 jab x1 fun a3 =>
 Ld (.int .i64) (a3.add 1) H1 fun (x4 : Int) =>
 k (x2, x3, x4 != 0) H1))
def ji7 : Hint := (hq (hq (hq (.two (.two (.join [(19, (.c .bool))] .no) .no) .no))))
theorem cQct (e_ : Value) {H : jaa} {k : Int × Int × Bool → jaa → Prop} (h : vQct e_ H k) : CallT Pg fQb9 [e_] (.tup [(.c (.int .i64)), (.c (.int .i64)), (.c .bool)]) H k := cE jad ji7 Tryz.func10 h
end
end Go.Proofs.YtfpmgpblhhcpgaaGreatDoor
