/-
  Parse, walked.
-/
import Derived.Test.YtfpmgpblhhcpgaaGreatDoorTok
import Derived.Test.YtfpmgpblhhcpgaaGreatDoorName
import Derived.Lib.ItoaNum
import Derived.Lib.ItoaLen
import Derived.Lib.ItoaMem
import Derived.Test.YtfpmgpblhhcpgaaGreatDoorVPri
import Derived.Shelf.Strings.Builder1
namespace Go.Proofs.YtfpmgpblhhcpgaaGreatDoor
set_option linter.unusedVariables false
set_option linter.unusedSimpArgs false
set_option maxRecDepth 100000
section
open Hc Hc.Lex Hc.Syn
theorem vecO_of {H : Heap} {T : TypeId} {n : Nat} {s : Sl} {vs : List Value} (h : VecN H T n s vs) : VecO H T n s vs :=
  ⟨h.len, h.own.elim .inl fun ⟨b, sp, h1, h2, h3⟩ => .inr ⟨b, [], sp, h1, by simpa using h2, h3⟩, h.lc⟩
theorem PR_new {H : Heap} {l : Sl} {ts : List Tk} (hts : TsOk ts) (ht : TabH H) (hv : VecN H TQad 3 l (tokVs ts)) (h0 : 0 < H.size) :
    ∃ tb, PR (H.push (.cells #[.slice l.a l.len l.cap, .int .i64 0, .int .i64 0] 59)) H.size tb ⟨ts, 0, 0⟩ := by
  have hE : Ext H (H.push (.cells #[.slice l.a l.len l.cap, .int .i64 0, .int .i64 0] 59)) := Upd.push _ _ _
  obtain ⟨tb, htb⟩ : ∃ tb, ∀ a, l.a = some a → a.block = tb := ⟨(l.a.map (·.block)).getD 0, fun a ha => by rw [ha]; rfl⟩
  exact ⟨tb, ⟨l, get_push_new _ _, (vecO_of hv).ext hE, htb⟩, ht.ext hE, by show H.size ≠ 0; omega, hts, ⟨Int.le_refl _, by show (0 : Int) ≤ 20; decide⟩, ⟨Int.le_refl _, by show (0 : Int) ≤ 200; decide⟩⟩
theorem two_rows (w : World) : Row ((w.alloc (.cells #[.pointer none] 23)).alloc (.cells #[.nilIface] 25)).heap w.heap.size 23 [.pointer none] ∧ Row ((w.alloc (.cells #[.pointer none] 23)).alloc (.cells #[.nilIface] 25)).heap (w.heap.size + 1) 25 [.nilIface] := by
  refine ⟨(Upd.push _ _ _ : Ext _ _).row (b := w.heap.size) (vs := [.pointer none]) (get_push_new w.heap _) fun h => h, ?_⟩
  have := get_push_new (w.heap.push (.cells #[.pointer none] 23)) (.cells #[.nilIface] 25)
  rw [Array.size_push] at this
  exact this
theorem res_run {P : Program} {fn : Func} {n : Nat} {F : AFrame} {a : Act} {w : World} {r : RTy} {k : r.den → Heap → Prop} (hag : Ag n F a) (hr : resL P F w.heap fn.results.toList fun vs => opt (r.unL vs) fun d => k d w.heap) :
    ∃ d, (results fn a.tmps).run P w = .ok (r.emb d) w ∧ k d w.heap := by
  obtain ⟨vs, hvs, hk⟩ := resL.sound hag hr
  obtain ⟨d, hd, hk⟩ := opt_cases hk
  refine ⟨d, ?_, hk⟩
  unfold results
  rw [Array.mapM_eq_mapM_toList]
  simp only [Sem.run_bind, Sem.run_map, Sem.run_pure]
  refine (congrArg (fun x : Result (List Value) => (x.andThen fun a w' => Result.ok a.toArray w').andThen fun a w' => Result.ok (if h : a.size = 1 then a[0] else Value.tuple a) w') hvs).trans ?_
  exact congrArg (fun v => Result.ok v w) (RTy.unL_emb hd)
theorem res8 {a : Act} {w : World} {p q : Addr} {x : Option Addr} {y : Value} (t2 : a.tmps[2]? = some (.pointer (some p))) (t3 : a.tmps[3]? = some (.pointer (some q))) (hd : a.defers = []) (h0 : hcell w.heap p = some (.pointer x)) (h1 : hcell w.heap q = some y) :
    (results Tryz.f8 a.tmps).run Tryz.prog w = .ok (.tuple #[.pointer x, y]) w := by
  have hag : Ag a.tmps.size [(2, .pointer (some p)), (3, .pointer (some q))] a := ⟨rfl, hd, fun t v hv => by
    rw [AFrame.get_cons] at hv
    split at hv
    · rename_i e; subst e; rw [t2]; exact hv
    · rw [AFrame.get_cons] at hv
      split at hv
      · rename_i e; subst e; rw [t3]; exact hv
      · simp [AFrame.get] at hv⟩
  have key : ∀ k : (RTy.tup [.c .ptr, .c .raw]).den → Heap → Prop, (Ld .ptr p w.heap fun d => Ld .raw q w.heap fun v => k (d, v) w.heap) → resL Tryz.prog [(2, .pointer (some p)), (3, .pointer (some q))] w.heap Tryz.f8.results.toList fun vs => opt ((RTy.tup [.c .ptr, .c .raw]).unL vs) fun d => k d w.heap := fun k h => Eq.mp (by kernel_rfl) h
  obtain ⟨d, hr, hd⟩ := res_run (P := Tryz.prog) (fn := Tryz.f8) (w := w) (r := .tup [.c .ptr, .c .raw]) (k := fun d _ => d = (x, y)) hag (key (fun d _ => d = (x, y)) (Ld_ptr h0 (Ld.mk (c := .raw) y h1 rfl)))
  rw [hr, hd]; rfl
theorem reg3 (a2 a3 : Addr) (H1 : Heap) (k : Kont) (h : Ld .raw a3 H1 fun x => St a2 (.pointer none) H1 fun H2 => Stab [(a3, x)] H2 <| StV a3 x H2 fun H3 => k .normal [(13, x), (2, .pointer (some a2)), (3, .pointer (some a3))] H3) : E Tryz.prog [] (Code.region 3
      #[{ dst := some 13, op := Op.load 25 (Operand.tmp 3), type := 25, pos := "parse.go:435", after := #[],
          guard := none },
        { dst := none, op := Op.store 23 (Operand.tmp 2) (Operand.const (Value.pointer none)), type := 0,
          pos := "parse.go:435", after := #[{ on := 0, ground := Ground.textOnly Departure.lateStoresUnsure }],
          guard := none },
        { dst := none, op := Op.store 25 (Operand.tmp 3) (Operand.tmp 13), type := 0, pos := "parse.go:435",
          after :=
            #[{ on := 0, ground := Ground.data }, { on := 1, ground := Ground.chain },
              { on := 0, ground := Ground.phase }, { on := 1, ground := Ground.phase }],
          guard := none }]
      true) .no [(2, .pointer (some a2)), (3, .pointer (some a3))] H1 k := Eq.mp (by kernel_rfl) h
def parseS (s : ByteArray) : R Nd := match lexS s with
  | .error (a, c) => some (.error ((a : Nat), (c : Nat)))
  | .ok ts => parseT ts
def ParOut (lo : Nat) (H : Heap) (s : ByteArray) (d : Option Addr) (v : Value) : Prop := match parseS s with
  | some (.ok (n, _)) => v = .nilIface ∧ ∃ q, d = some (adr q) ∧ lo ≤ q ∧ Ow lo H n q
  | some (.error (p, e)) => d = none ∧ ∃ g, v = .iface TQaa (.pointer (some (adr g))) ∧ lo ≤ g ∧ Row H g TQac [.int .i64 p, .int .i64 e]
  | none => False
set_option maxHeartbeats 2000000 in
theorem parse_calls {H : Heap} (hg : GE H.size H) (ht : TabH H) (s : ByteArray) (w : World) (hw : w.heap = H) :
    Calls Tryz.prog 8 #[.string s] w fun e w' => SameEnv w w' ∧ ∃ d v, e = .returned (.tuple #[.pointer d, v]) ∧ Ext w.heap w'.heap ∧ ParOut w.heap.size w'.heap s d v := by
  have hmf : ∀ (fn : Fn) (first cap : Array Value) (w : World), (Instr.makeFunc fn first cap).run Tryz.prog w = .ok (.func fn first cap) w := fun _ _ _ _ => rfl
  subst hw
  go_enter_defers Tryz.func8, Tryz.ntmps8
  go_wp2_with fail
  have ge1 : GE ((w.alloc (.cells #[.pointer none] 23)).alloc (.cells #[.nilIface] 25)).heap.size ((w.alloc (.cells #[.pointer none] 23)).alloc (.cells #[.nilIface] 25)).heap :=
    hg.up ((Upd.push _ _ _).trans (Upd.push _ _ _) fun _ _ h => h)
  refine (((s_Lex (s := s) ge1 (k := fun r H' => Ext ((w.alloc (.cells #[.pointer none] 23)).alloc (.cells #[.nilIface] 25)).heap H' ∧ LexOut ((w.alloc (.cells #[.pointer none] 23)).alloc (.cells #[.nilIface] 25)).heap.size H' s r.1 r.2) fun r H' hE hO => ⟨hE, hO⟩).2 _ rfl).mono ?_)
  rintro e w1 ⟨he1, ⟨l1, v1⟩, hev, hE1, hO1⟩
  have hev : e = .returned (.tuple #[.slice l1.a l1.len l1.cap, v1]) := hev
  subst hev
  have r0 : Row w1.heap w.heap.size 23 [.pointer none] := by
    refine hE1.row (b := w.heap.size) (vs := [.pointer none]) ?_ fun h => h
    exact (two_rows w).1
  have r1 : Row w1.heap (w.heap.size + 1) 25 [.nilIface] := by
    refine hE1.row (b := w.heap.size + 1) (vs := [.nilIface]) ?_ fun h => h
    exact (two_rows w).2
  have hE01 : Ext w.heap w1.heap := ((Upd.push _ _ _).trans (Upd.push _ _ _) fun _ _ h => h : Ext w.heap _).trans hE1 fun _ _ h => h
  have c0 : w1.cell? ⟨w.heap.size, 0, none⟩ = some (.pointer none) := (r0.cell 0).trans rfl
  have c1 : w1.cell? ⟨w.heap.size + 1, 0, none⟩ = some .nilIface := (r1.cell 0).trans rfl
  have f0 : w1.frozen? ⟨w.heap.size, 0, none⟩ = false := frozen_blk r0
  have f1 : w1.frozen? ⟨w.heap.size + 1, 0, none⟩ = false := frozen_blk r1
  have hv1 : v1 = .nilIface ∨ ∃ g, v1 = .iface 56 (.pointer (some (adr g))) := by
    unfold LexOut at hO1
    split at hO1
    · exact .inl hO1.1
    · obtain ⟨_, f, e, _⟩ := hO1
      exact .inr ⟨f, e⟩
  rcases hv1 with rfl | ⟨g, rfl⟩
  · cases hls : lexS s with
    | error e =>
      obtain ⟨_, f, hf, _⟩ := hO1.err (a := e.1) (c := e.2) hls
      cases hf
    | ok ts =>
    obtain ⟨_, hvec, hlo⟩ := hO1.ok hls
    go_wp2_with fail
    rename_i K1 hK1 K2 hK2
    have hU0 := Upd.set w1.heap ⟨w.heap.size + 1, 0, none⟩ .nilIface
    have hR0 : Row (hset w1.heap ⟨w.heap.size + 1, 0, none⟩ .nilIface) (w.heap.size + 1) 25 [.nilIface] := set_blk r1 _
    have r02 := hU0.row r0 (by show ¬ w.heap.size = w.heap.size + 1; omega)
    have hsz : ((w.alloc (.cells #[.pointer none] 23)).alloc (.cells #[.nilIface] 25)).heap.size = w.heap.size + 2 := by
      show ((w.heap.push _).push _).size = _
      rw [Array.size_push, Array.size_push]
    have hs1 := hE1.size
    rw [hsz] at hlo hs1
    have hok := lexS_ok hls
    obtain ⟨tb, hPR⟩ := PR_new (H := hset w1.heap ⟨w.heap.size + 1, 0, none⟩ .nilIface) hok ((ht.ext hE01).nb hU0 (by show ¬ 0 = w.heap.size + 1; omega)) (hvec.upd hU0 fun c hc => by have := hlo c hc; show ¬ c = w.heap.size + 1; omega) (by rw [size_hset]; omega)
    rw [size_hset] at hPR
    have hE2 : Ext (hset w1.heap ⟨w.heap.size + 1, 0, none⟩ .nilIface) ((hset w1.heap ⟨w.heap.size + 1, 0, none⟩ .nilIface).push (.cells #[.slice l1.a l1.len l1.cap, .int .i64 0, .int .i64 0] 59)) := Upd.push _ _ _
    have hsz2 : ((hset w1.heap ⟨w.heap.size + 1, 0, none⟩ .nilIface).push (.cells #[.slice l1.a l1.len l1.cap, .int .i64 0, .int .i64 0] 59)).size = w1.heap.size + 1 := by rw [Array.size_push, size_hset]
    have hU02 : Upd (fun x => x = w.heap.size ∨ x = w.heap.size + 1) w1.heap ((hset w1.heap ⟨w.heap.size + 1, 0, none⟩ .nilIface).push (.cells #[.slice l1.a l1.len l1.cap, .int .i64 0, .int .i64 0] 59)) := (hU0.mono fun x _ e => .inr e).trans hE2 fun _ _ h => h.elim
    generalize hH2 : (hset w1.heap ⟨w.heap.size + 1, 0, none⟩ .nilIface).push (.cells #[.slice l1.a l1.len l1.cap, .int .i64 0, .int .i64 0] 59) = H2 at *
    have hrow0 := hE2.row r02 fun h => h
    have hrow1 := hE2.row hR0 fun h => h
    refine ((st_program (F := fuelP) (by decide) hPR (fun v H' => ∃ g p e, parseT ts = some (.error (p, e)) ∧ v = .iface TQaa (.pointer (some (adr g))) ∧ H2.size ≤ g ∧ Upd (· = w1.heap.size) H2 H' ∧ Row H' g TQac [.int .i64 p, .int .i64 e]) (fun d H' => ∃ n s' q, parseT ts = some (.ok (n, s')) ∧ d = some (adr q) ∧ H2.size ≤ q ∧ Upd (· = w1.heap.size) H2 H' ∧ Ow H2.size H' n q)
      ⟨parseT_ne hok.len, fun g H' p e h1 h2 h3 h4 => ⟨g, p, e, h1, rfl, h4, h2, h3⟩⟩ (fun d H' n s' h1 h2 h3 ⟨q, h4, h5, h6⟩ => ⟨n, s', q, h1, h4, h5, h2, h6⟩)).2 _ (by rw [← hH2]; rfl)).mono ?_
    rintro e w2 ⟨he2, ⟨d, rfl, n, s', q, hp, rfl, hq, hUp, hOw⟩ | ⟨v, rfl, g, p, e, hp, rfl, hg2, hUp, hrow⟩⟩
    · have q0 := hUp.row hrow0 (by omega)
      have q1 := hUp.row hrow1 (by omega)
      have d0 : w2.cell? ⟨w.heap.size, 0, none⟩ = some (.pointer none) := (q0.cell 0).trans rfl
      have d1 : w2.cell? ⟨w.heap.size + 1, 0, none⟩ = some .nilIface := (q1.cell 0).trans rfl
      have g0 : w2.frozen? ⟨w.heap.size, 0, none⟩ = false := frozen_blk q0
      have g1 : w2.frozen? ⟨w.heap.size + 1, 0, none⟩ = false := frozen_blk q1
      apply hK2
      rw [show (RTy.one (.c .ptr)).emb (some (adr q)) = .pointer (some (adr q)) from rfl]
      go_wp2_with fail
      have hS1 := Upd.set w2.heap ⟨w.heap.size, 0, none⟩ (.pointer (some (adr q)))
      have z0 : Row (hset w2.heap ⟨w.heap.size, 0, none⟩ (.pointer (some (adr q)))) w.heap.size 23 [.pointer (some (adr q))] := set_blk q0 _
      have z1 := hS1.row q1 (by show ¬ w.heap.size + 1 = w.heap.size; omega)
      have hS2 := Upd.set (hset w2.heap ⟨w.heap.size, 0, none⟩ (.pointer (some (adr q)))) ⟨w.heap.size + 1, 0, none⟩ .nilIface
      have y1 : Row (hset (hset w2.heap ⟨w.heap.size, 0, none⟩ (.pointer (some (adr q)))) ⟨w.heap.size + 1, 0, none⟩ .nilIface) (w.heap.size + 1) 25 [.nilIface] := set_blk z1 _
      have y0 := hS2.row z0 (by show ¬ w.heap.size = w.heap.size + 1; omega)
      have hS12 := (hS1.mono (M := fun x => x = w.heap.size ∨ x = w.heap.size + 1) fun x _ e => .inl e).trans hS2 fun x _ e => .inr e
      show Leaves _ _ _ _ _ _ _
      refine leaves_cons (by simp) rfl ((catch_idle _ _ _).mono ?_)
      rintro e u w3 ⟨rfl, rfl, rfl⟩
      show ∃ v, (results Tryz.f8 _).run Tryz.prog _ = .ok v _ ∧ _
      refine ⟨_, res8 (a := ⟨_, []⟩) rfl rfl rfl ((y0.cell 0).trans rfl) ((y1.cell 0).trans rfl), ⟨he2.tape.trans he1.tape, he2.os.trans he1.os, he2.output.trans he1.output⟩, _, _, rfl, ?_, ?_⟩
      · exact (hE01.trans hU02 fun x hx e => by omega).trans ((hUp.mono (M := fun x => w.heap.size ≤ x) fun x _ e => by omega).trans (hS12.mono (M := fun x => w.heap.size ≤ x) fun x _ e => by omega) fun _ _ e => e) fun x hx e => by omega
      · unfold ParOut parseS
        rw [hls]
        dsimp only
        rw [hp]
        exact ⟨rfl, q, rfl, by omega, (hOw.upd hS12 fun x h1 h2 => by omega).mono (by omega)⟩
    · have q0 := hUp.row hrow0 (by omega)
      have q1 := hUp.row hrow1 (by omega)
      have hS1 := Upd.set w2.heap ⟨w.heap.size, 0, none⟩ (.pointer none)
      have z0 : Row (hset w2.heap ⟨w.heap.size, 0, none⟩ (.pointer none)) w.heap.size 23 [.pointer none] := set_blk q0 _
      have z1 := hS1.row q1 (by show ¬ w.heap.size + 1 = w.heap.size; omega)
      have hS2 := Upd.set (hset w2.heap ⟨w.heap.size, 0, none⟩ (.pointer none)) ⟨w.heap.size + 1, 0, none⟩ (.iface 56 (.pointer (some (adr g))))
      have y1 : Row (hset (hset w2.heap ⟨w.heap.size, 0, none⟩ (.pointer none)) ⟨w.heap.size + 1, 0, none⟩ (.iface 56 (.pointer (some (adr g))))) (w.heap.size + 1) 25 [.iface 56 (.pointer (some (adr g)))] := set_blk z1 _
      have y0 := hS2.row z0 (by show ¬ w.heap.size = w.heap.size + 1; omega)
      have hS12 := (hS1.mono (M := fun x => x = w.heap.size ∨ x = w.heap.size + 1) fun x _ e => .inl e).trans hS2 fun x _ e => .inr e
      show Leaves _ _ _ _ _ _ _
      refine leaves_cons (by simp) rfl ((catch_panicking _ _ (.pointer none) .nilIface _ [] _ ((q0.cell 0).trans rfl) (frozen_blk q0) ((q1.cell 0).trans rfl) (frozen_blk q1) (by show w.heap.size ≠ w.heap.size + 1; omega)).mono ?_)
      rintro e' u w3 ⟨rfl, rfl, rfl⟩
      show ∃ v, (results Tryz.f8 _).run Tryz.prog _ = .ok v _ ∧ _
      refine ⟨_, res8 (a := ⟨_, []⟩) rfl rfl rfl ((y0.cell 0).trans rfl) ((y1.cell 0).trans rfl), ⟨he2.tape.trans he1.tape, he2.os.trans he1.os, he2.output.trans he1.output⟩, _, _, rfl, ?_, ?_⟩
      · exact (hE01.trans hU02 fun x hx e => by omega).trans ((hUp.mono (M := fun x => w.heap.size ≤ x) fun x _ e => by omega).trans (hS12.mono (M := fun x => w.heap.size ≤ x) fun x _ e => by omega) fun _ _ e => e) fun x hx e => by omega
      · unfold ParOut parseS
        rw [hls]
        dsimp only
        rw [hp]
        exact ⟨rfl, g, rfl, by omega, hS12.row hrow (by omega)⟩
  · go_wp2_with fail
    rename_i K1 hK1 K2 hK2
    have hR0 : Row (hset w1.heap ⟨w.heap.size + 1, 0, none⟩ (.iface 56 (.pointer (some (adr g))))) (w.heap.size + 1) 25 [.iface 56 (.pointer (some (adr g)))] := set_blk r1 _
    have hU0 := Upd.set w1.heap ⟨w.heap.size + 1, 0, none⟩ (.iface 56 (.pointer (some (adr g))))
    have r02 := hU0.row r0 (by show ¬ w.heap.size = w.heap.size + 1; omega)
    refine E.sound (n := 20) (PL := []) Pg_mixed _ .no [(2, .pointer (some ⟨w.heap.size, 0, none⟩)), (3, .pointer (some ⟨w.heap.size + 1, 0, none⟩))] (fun e _ H' => e = .normal ∧ Upd (fun x => x = w.heap.size ∨ x = w.heap.size + 1) w1.heap H' ∧ Row H' w.heap.size 23 [.pointer none] ∧ Row H' (w.heap.size + 1) 25 [.iface 56 (.pointer (some (adr g)))]) _ _ _ (by kernel_rfl) ?_ (reg3 _ _ _ _ ?_) ?_
    · refine ⟨rfl, rfl, fun t v hv => ?_⟩
      rw [AFrame.get_cons] at hv
      split at hv
      · rename_i e; subst e; exact hv
      · rw [AFrame.get_cons] at hv
        split at hv
        · rename_i e; subst e; exact hv
        · simp [AFrame.get] at hv
    · refine Ld.mk (c := .raw) (.iface 56 (.pointer (some (adr g)))) ((hR0.cell 0).trans rfl) (St_row r02 (by simp) fun H2 hU2 _ hr2 => ?_)
      have r12 := hU2.row hR0 (by show ¬ w.heap.size + 1 = w.heap.size; omega)
      refine Stab_1 ((r12.cell 0).trans rfl) ⟨rfl, St_row r12 (by simp) fun H3 hU3 _ hr3 => ⟨rfl, ?_, hU3.row hr2 (by show ¬ w.heap.size = w.heap.size + 1; omega), hr3⟩⟩
      exact ((hU0.mono fun x _ e => .inr e).trans (hU2.mono fun x _ e => .inl e) fun x _ e => e).trans hU3 fun x _ e => .inr e
    · rintro e F' a' w' hag he hkeep ⟨rfl, hU, hr2, hr3⟩
      apply hK2
      have t2 : a'.tmps[2]? = some (.pointer (some ⟨w.heap.size, 0, none⟩)) := (hkeep 2 (by decide)).trans rfl
      have t3 : a'.tmps[3]? = some (.pointer (some ⟨w.heap.size + 1, 0, none⟩)) := (hkeep 3 (by decide)).trans rfl
      have hd := hag.defers
      refine wp_ret ?_
      show Leaves _ _ _ _ a'.defers _ _
      rw [hd]
      have d0 : w'.cell? ⟨w.heap.size, 0, none⟩ = some (.pointer none) := (hr2.cell 0).trans rfl
      have d1 : w'.cell? ⟨w.heap.size + 1, 0, none⟩ = some (.iface 56 (.pointer (some (adr g)))) := (hr3.cell 0).trans rfl
      refine ⟨_, res8 t2 t3 hd d0 d1, ⟨he.tape.trans he1.tape, he.os.trans he1.os, he.output.trans he1.output⟩, none, _, rfl, hE01.trans hU fun x hx e => by omega, ?_⟩
      obtain ⟨p, e, hls⟩ : ∃ p e, lexS s = .error (p, e) := by
        cases hls : lexS s with
        | error e => exact ⟨_, _, rfl⟩
        | ok ts => have := (hO1.ok hls).1; cases this
      obtain ⟨_, f, hf, hfl, hrow⟩ := hO1.err hls
      cases hf
      unfold ParOut parseS
      rw [hls]
      have := (two_rows w).2.lt
      have hsz : ((w.alloc (.cells #[.pointer none] 23)).alloc (.cells #[.nilIface] 25)).heap.size = w.heap.size + 2 := by
        show ((w.heap.push _).push _).size = _
        rw [Array.size_push, Array.size_push]
      rw [hsz] at hfl
      exact ⟨rfl, g, rfl, by omega, hU.row hrow (by omega)⟩
theorem s_Parse {H : Heap} (hg : GE H.size H) (ht : TabH H) {s : ByteArray} {k : Option Addr × Value → Heap → Prop} (hk : ∀ d v H', Ext H H' → ParOut H.size H' s d v → k (d, v) H') : CallT Pg 8 [.string s] (.tup [.c .ptr, .c .raw]) H k :=
  ⟨⟨_, Tryz.func8, by kernel_rfl, by kernel_rfl⟩, fun w hw => (parse_calls hg ht s w hw).mono fun e w' ⟨h1, d, v, h2, h3, h4⟩ => ⟨h1, (d, v), h2, by subst hw; exact hk d v _ h3 h4⟩⟩
end
end Go.Proofs.YtfpmgpblhhcpgaaGreatDoor
namespace Go.Proofs.YtfpmgpblhhcpgaaGreatDoor.Hc.Syn
set_option linter.unusedVariables false
set_option linter.unusedSimpArgs false
set_option maxRecDepth 100000
section
open Go Hc Hc.Lex
def Nd.op : Nd → Int
  | .nil => 0
  | .mk op _ _ _ _ => op
def Nd.tx : Nd → Txt
  | .nil => []
  | .mk _ tx _ _ _ => tx
def Nd.nm : Nd → Int
  | .nil => 0
  | .mk _ _ nm _ _ => nm
def Nd.ks : Nd → List Nd
  | .nil => []
  | .mk _ _ _ l _ => l
def digs10 (n : Int) : Txt := Lib.decDigits n.toNat
def needP (lv : Int) (right : Bool) (n : Nd) : Bool := n.op == 35 || (n.op == 33 && (decide (levelI n.tx < lv) || (right && levelI n.tx == lv)))
def par (b : Bool) (t : Txt) : Txt := if b then 40 :: (t ++ [41]) else t
def comF : Bool → List Txt → Txt
  | _, [] => []
  | b, t :: ts => (if b then [] else [44, 32]) ++ (t ++ comF false ts)
mutual
def exT : Nd → Txt
  | .nil => []
  | .mk op tx nm l _ =>
    if op = 30 then digs10 nm
    else if op = 32 then tx ++ (46 :: (l.headD .nil).tx)
    else if op = 33 then (match l with
      | x :: y :: _ => par (needP (levelI tx) false x) (exT x) ++ (32 :: (tx ++ 32 :: par (needP (levelI tx) true y) (exT y)))
      | _ => [])
    else if op = 34 then (match l with
      | x :: _ => tx ++ par (needP 7 false x) (exT x)
      | _ => [])
    else if op = 35 then (match l with
      | x :: y :: z :: _ => par (needP 0 false x) (exT x) ++ ([32, 63, 32] ++ (exT y ++ ([32, 58, 32] ++ exT z)))
      | _ => [])
    else if op = 36 then tx ++ (40 :: (comF true (exTs l) ++ [41]))
    else if op = 37 then [104, 97, 115, 40] ++ (tx ++ [41])
    else tx
def exTs : List Nd → List Txt
  | [] => []
  | n :: ns => exT n :: exTs ns
end
def valT (v : Nd) : Txt := v.tx ++ ([58, 32] ++ exT (v.ks.headD .nil))
def partT (n : Nd) : Txt := n.tx ++ (123 :: (comF true (n.ks.map valT) ++ [125]))
def tabsT (t : Nat) : Txt := List.replicate t 9
def simT : Nd → Txt
  | .nil => []
  | .mk op tx _ l _ =>
    if op = 10 then [108, 101, 116, 32] ++ (tx ++ ([32, 61, 32] ++ exT (l.headD .nil)))
    else if op = 11 then tx ++ ([32, 61, 32] ++ exT (l.headD .nil))
    else if op = 12 then tx ++ (46 :: ((l.headD .nil).tx ++ ([32, 61, 32] ++ exT (l.tail.headD .nil))))
    else if op = 16 then [101, 109, 105, 116, 32] ++ (exT (l.headD .nil) ++ ([44, 32] ++ exT (l.tail.headD .nil)))
    else if op = 17 then [115, 112, 97, 119, 110] ++ (if l.isEmpty then [] else 32 :: comF true (l.map partT))
    else if op = 18 then [97, 100, 100, 32] ++ partT (l.headD .nil)
    else if op = 19 then [114, 101, 109, 111, 118, 101, 32] ++ tx
    else if op = 20 then [100, 105, 101]
    else if op = 21 then [115, 116, 111, 112]
    else if op = 22 then [114, 101, 116, 117, 114, 110, 32] ++ exT (l.headD .nil)
    else []
mutual
def stT (t : Nat) : Nd → Txt
  | .nil => []
  | .mk op tx nm l a =>
    if op = 13 then (match l with
      | c :: b :: [] => [105, 102, 32] ++ (exT c ++ blkT t b)
      | c :: b :: e :: _ => [105, 102, 32] ++ (exT c ++ (blkT t b ++ ([32, 101, 108, 115, 101] ++ (if e.op = 13 then 32 :: stT t e else blkT t e))))
      | _ => [])
    else if op = 14 then (match l with
      | c :: b :: _ => [119, 104, 105, 108, 101, 32] ++ (exT c ++ blkT t b)
      | _ => [])
    else if op = 15 then (match l with
      | c :: b :: _ => [114, 101, 112, 101, 97, 116, 32] ++ (exT c ++ blkT t b)
      | _ => [])
    else simT (.mk op tx nm l a) ++ [59]
def blkT (t : Nat) : Nd → Txt
  | .nil => []
  | .mk _ _ _ l _ => [32, 123, 10] ++ (stsT (t + 1) l ++ (tabsT t ++ [125]))
def stsT (t : Nat) : List Nd → Txt
  | [] => []
  | n :: ns => tabsT t ++ (stT t n ++ (10 :: stsT t ns))
end
def namesT (l : List Nd) : Txt := comF true (l.map Nd.tx)
def clauseT : Nd → Txt
  | .nil => []
  | .mk _ tx _ l _ => if l.isEmpty then [] else 32 :: (tx ++ (32 :: namesT l))
def thingT : Nd → Txt
  | .nil => []
  | .mk op tx _ l _ =>
    (if op = 4 then [102, 117, 110, 99, 32] ++ (tx ++ (40 :: (namesT (l.headD .nil).ks ++ [41])))
     else [115, 121, 115, 116, 101, 109, 32] ++ (tx ++ (l.take 4).flatMap clauseT)) ++ (blkT 0 (l.getLastD .nil) ++ [10])
def progT (n : Nd) : Txt := n.ks.flatMap thingT
def formI (op : Int) : Option (Nat × List Int × Bool × Nat) :=
  if op = 1 then some (0, [8], true, 0)
  else if op = 2 then some (1, [0, 0, 0, 0, 1], false, 5)
  else if op = 3 then some (2, [6], true, 0)
  else if op = 4 then some (1, [0, 1], false, 2)
  else if op = 5 then some (0, [2], true, 0)
  else if op = 10 then some (1, [3], false, 1)
  else if op = 11 then some (1, [3], false, 1)
  else if op = 12 then some (1, [6, 3], false, 2)
  else if op = 13 then some (0, [3, 1, 7], false, 2)
  else if op = 14 then some (0, [3, 1], false, 2)
  else if op = 15 then some (0, [3, 1], false, 2)
  else if op = 16 then some (0, [3, 3], false, 2)
  else if op = 17 then some (0, [4], true, 0)
  else if op = 18 then some (0, [4], false, 1)
  else if op = 19 then some (1, [], false, 0)
  else if op = 20 then some (0, [], false, 0)
  else if op = 21 then some (0, [], false, 0)
  else if op = 22 then some (0, [3], false, 1)
  else if op = 23 then some (1, [5], true, 0)
  else if op = 24 then some (1, [3], false, 1)
  else if op = 30 then some (0, [], false, 0)
  else if op = 31 then some (1, [], false, 0)
  else if op = 32 then some (1, [6], false, 1)
  else if op = 33 then some (3, [3, 3], false, 2)
  else if op = 34 then some (4, [3], false, 1)
  else if op = 35 then some (0, [3, 3, 3], false, 3)
  else if op = 36 then some (5, [3], true, 0)
  else if op = 37 then some (1, [], false, 0)
  else if op = 38 then some (6, [], false, 0)
  else none
def textB (k : Nat) (t : Txt) : Bool :=
  match k with
  | 0 => t == []
  | 1 => isNameB t
  | 2 => (clauseW ++ [[102, 117, 110, 99]]).contains t
  | 3 => decide (levelI t > 0)
  | 4 => t == [45] || t == [33]
  | 5 => isNameB t || builtinL.contains t
  | _ => t == [116, 105, 99, 107] || t == [109, 101]
def sortB (op sort : Int) : Bool :=
  if sort = 0 then op == 3
  else if sort = 1 then op == 5
  else if sort = 2 then decide (10 ≤ op) && decide (op ≤ 22)
  else if sort = 3 then decide (30 ≤ op) && decide (op ≤ 38)
  else if sort = 4 then op == 23
  else if sort = 5 then op == 24
  else if sort = 6 then op == 31
  else if sort = 7 then op == 5 || op == 13
  else op == 2 || op == 4
def clsB (op : Int) (l : List Nd) : Bool :=
  if op = 2 then (l.take 4).map Nd.tx == clauseW
  else if op = 4 then (l.take 1).map Nd.tx == [[102, 117, 110, 99]]
  else true
mutual
def fitN (bl left : Int) : Nd → Option Int
  | .nil => none
  | .mk op tx nm l _ =>
    if left - 1 < 0 ∨ (op = 30 ∧ nm < 0) then none else
    match formI op with
    | none => none
    | some (k, sl, more, m) =>
      if (if op = 5 then bl + 1 else bl) > 20 ∨ textB k tx = false ∨ l.length < m ∨ (sl.length < l.length ∧ more = false) then none else
      match fitL (if op = 5 then bl + 1 else bl) (left - 1) sl l with
      | none => none
      | some lf => if clsB op l then some lf else none
def fitL (bl left : Int) (sl : List Int) : List Nd → Option Int
  | [] => some left
  | n :: ns => match fitN bl left n with
    | none => none
    | some lf => if sortB n.op (sl.headD 8) then fitL bl lf (if sl.length ≤ 1 then sl else sl.tail) ns else none
end
def printT (n : Nd) : Txt := if (fitN 0 100000 n).isSome && n.op == 1 then progT n else []
mutual
def sameB : Nd → Nd → Bool
  | .nil, .nil => true
  | .mk op tx nm l _, .mk op' tx' nm' l' _ => (op == op' && tx == tx' && nm == nm') && sameL l l'
  | _, _ => false
def sameL : List Nd → List Nd → Bool
  | [], [] => true
  | n :: ns, m :: ms => sameB n m && sameL ns ms
  | _, _ => false
end
end
section
open Go Hc Hc.Lex
def srtL : List Int → List Nd → Prop
  | _, [] => True
  | sl, n :: ns => sortB n.op (sl.headD 8) = true ∧ srtL (if sl.length ≤ 1 then sl else sl.tail) ns
structure Loc (op : Int) (tx : Txt) (nm : Int) (l : List Nd) : Prop where
  ex : ∃ k sl more m, formI op = some (k, sl, more, m) ∧ textB k tx = true ∧ m ≤ l.length ∧ (l.length ≤ sl.length ∨ more = true) ∧ srtL sl l
  cls : clsB op l = true
  num : op = 30 → 0 ≤ nm
mutual
def okN : Nd → Prop
  | .nil => False
  | .mk op tx nm l _ => Loc op tx nm l ∧ okL l
def okL : List Nd → Prop
  | [] => True
  | n :: ns => okN n ∧ okL ns
end
mutual
def cnt : Nd → Nat
  | .nil => 0
  | .mk _ _ _ l _ => 1 + cntL l
def cntL : List Nd → Nat
  | [] => 0
  | n :: ns => cnt n + cntL ns
end
mutual
def dpN : Nd → Nat
  | .nil => 0
  | .mk op _ _ l _ => (if op = 5 then 1 else 0) + dpL l
def dpL : List Nd → Nat
  | [] => 0
  | n :: ns => max (dpN n) (dpL ns)
end
mutual
theorem fit_ok : ∀ {n : Nd} {bl left lf : Int}, fitN bl left n = some lf → okN n ∧ left = lf + cnt n ∧ 0 ≤ lf ∧ (bl ≤ 20 → bl + dpN n ≤ 20)
  | .nil, _, _, _, h => by simp [fitN] at h
  | .mk op tx nm l a, bl, left, lf, h => by
    unfold fitN at h
    generalize hb5 : (if op = 5 then bl + 1 else bl) = b5 at h
    by_cases h0 : left - 1 < 0 ∨ (op = 30 ∧ nm < 0)
    · rw [if_pos h0] at h; cases h
    rw [if_neg h0] at h
    cases hf : formI op with
    | none => rw [hf] at h; cases h
    | some z =>
    obtain ⟨k, sl, more, m⟩ := z
    rw [hf] at h
    dsimp only at h
    by_cases h1 : b5 > 20 ∨ textB k tx = false ∨ l.length < m ∨ (sl.length < l.length ∧ more = false)
    · rw [if_pos h1] at h; cases h
    rw [if_neg h1] at h
    cases hl : fitL b5 (left - 1) sl l with
    | none => rw [hl] at h; cases h
    | some lf' =>
    rw [hl] at h
    dsimp only at h
    by_cases hc : clsB op l = true
    · rw [if_pos hc] at h
      cases h
      obtain ⟨g1, g2, g3, g4, g5⟩ := fitL_ok hl (by omega)
      refine ⟨⟨⟨⟨k, sl, more, m, hf, ?_, by omega, ?_, g5⟩, hc, fun e => by omega⟩, g1⟩, by simp only [cnt]; omega, g3, fun hb => ?_⟩
      · rw [← Bool.not_eq_false]; intro e; exact h1 (.inr (.inl e))
      · by_cases hm : more = true
        · exact .inr hm
        · left; rw [Bool.not_eq_true] at hm
          exact Nat.le_of_not_lt fun e => h1 (.inr (.inr (.inr ⟨e, hm⟩)))
      · simp only [dpN]
        have := g4 (by omega)
        split at hb5 <;> rename_i e5
        · rw [if_pos e5]; omega
        · rw [if_neg e5]; omega
    · rw [if_neg hc] at h; cases h
theorem fitL_ok : ∀ {ns : List Nd} {bl left lf : Int} {sl : List Int}, fitL bl left sl ns = some lf → 0 ≤ left → okL ns ∧ left = lf + cntL ns ∧ 0 ≤ lf ∧ (bl ≤ 20 → bl + dpL ns ≤ 20) ∧ srtL sl ns
  | [], bl, left, lf, sl, h, h0 => by
    unfold fitL at h; cases h
    exact ⟨trivial, by simp [cntL], h0, fun hb => by simp [dpL]; exact hb, trivial⟩
  | n :: ns, bl, left, lf, sl, h, h0 => by
    unfold fitL at h
    split at h
    · cases h
    · rename_i lf' hn
      split at h
      · rename_i hs
        obtain ⟨g1, g2, g3, g4⟩ := fit_ok hn
        obtain ⟨k1, k2, k3, k4, k5⟩ := fitL_ok h g3
        refine ⟨⟨g1, k1⟩, by simp only [cntL]; omega, k3, fun hb => ?_, hs, k5⟩
        have := g4 hb; have := k4 hb
        simp only [dpL]; omega
      · cases h
end
theorem okN.op {n : Nd} (h : okN n) : ∃ op tx nm l a, n = .mk op tx nm l a := by
  cases n with
  | nil => exact h.elim
  | mk op tx nm l a => exact ⟨op, tx, nm, l, a, rfl⟩
theorem okN.loc {op nm a : Int} {tx : Txt} {l : List Nd} (h : okN (.mk op tx nm l a)) : Loc op tx nm l ∧ okL l := h
theorem cnt_pos {n : Nd} (h : okN n) : 1 ≤ cnt n := by
  obtain ⟨op, tx, nm, l, a, rfl⟩ := h.op
  simp only [cnt]; omega
abbrev isE (n : Nd) : Prop := 30 ≤ n.op ∧ n.op ≤ 38
theorem sort_E {op : Int} (h : sortB op 3 = true) : 30 ≤ op ∧ op ≤ 38 := by
  unfold sortB at h
  simpa using h
theorem sort_S {op : Int} (h : sortB op 2 = true) : 10 ≤ op ∧ op ≤ 22 := by
  unfold sortB at h
  simpa using h
theorem sort_B {op : Int} (h : sortB op 1 = true) : op = 5 := by
  unfold sortB at h
  simpa using h
theorem sort_N {op : Int} (h : sortB op 6 = true) : op = 31 := by
  unfold sortB at h
  simpa using h
theorem sort_P {op : Int} (h : sortB op 4 = true) : op = 23 := by
  unfold sortB at h
  simpa using h
theorem sort_V {op : Int} (h : sortB op 5 = true) : op = 24 := by
  unfold sortB at h
  simpa using h
theorem sort_C {op : Int} (h : sortB op 0 = true) : op = 3 := by
  unfold sortB at h
  simpa using h
theorem sort_I {op : Int} (h : sortB op 7 = true) : op = 5 ∨ op = 13 := by
  unfold sortB at h
  simpa using h
theorem sort_T {op : Int} (h : sortB op 8 = true) : op = 2 ∨ op = 4 := by
  unfold sortB at h
  simpa using h
section
variable {op nm a : Int} {tx : Txt} {l : List Nd}
theorem Loc.of (h : Loc op tx nm l) {k : Nat} {sl : List Int} {more : Bool} {m : Nat} (hf : formI op = some (k, sl, more, m)) : textB k tx = true ∧ m ≤ l.length ∧ (l.length ≤ sl.length ∨ more = true) ∧ srtL sl l := by
  obtain ⟨k', sl', more', m', h1, h2, h3, h4, h5⟩ := h.ex
  rw [hf] at h1; cases h1
  exact ⟨h2, h3, h4, h5⟩
theorem srt_all {s : Int} : ∀ {l : List Nd}, srtL [s] l → ∀ n ∈ l, sortB n.op s = true
  | [], _, n, hn => by cases hn
  | m :: ms, h, n, hn => by
    rcases List.mem_cons.1 hn with rfl | hn
    · exact h.1
    · exact srt_all (l := ms) (by simpa using h.2) n hn
theorem okL_all : ∀ {l : List Nd}, okL l → ∀ n ∈ l, okN n
  | [], _, n, hn => by cases hn
  | m :: ms, h, n, hn => by
    rcases List.mem_cons.1 hn with rfl | hn
    · exact h.1
    · exact okL_all h.2 n hn
theorem len1 {l : List Nd} (h1 : 1 ≤ l.length) (h2 : l.length ≤ 1) : ∃ x, l = [x] := by
  match l, h1, h2 with
  | [x], _, _ => exact ⟨x, rfl⟩
theorem len2 {l : List Nd} (h1 : 2 ≤ l.length) (h2 : l.length ≤ 2) : ∃ x y, l = [x, y] := by
  match l, h1, h2 with
  | [x, y], _, _ => exact ⟨x, y, rfl⟩
theorem len3 {l : List Nd} (h1 : 3 ≤ l.length) (h2 : l.length ≤ 3) : ∃ x y z, l = [x, y, z] := by
  match l, h1, h2 with
  | [x, y, z], _, _ => exact ⟨x, y, z, rfl⟩
theorem ok30 (h : okN (.mk 30 tx nm l a)) : tx = [] ∧ 0 ≤ nm ∧ l = [] := by
  obtain ⟨h1, h2, h3, h4⟩ := h.1.of (k := 0) (sl := []) (more := false) (m := 0) rfl
  exact ⟨by simpa [textB] using h1, h.1.num rfl, by simpa using h3⟩
theorem ok31 (h : okN (.mk 31 tx nm l a)) : isNameB tx = true ∧ l = [] := by
  obtain ⟨h1, h2, h3, h4⟩ := h.1.of (k := 1) (sl := []) (more := false) (m := 0) rfl
  exact ⟨h1, by simpa using h3⟩
theorem ok32 (h : okN (.mk 32 tx nm l a)) : isNameB tx = true ∧ ∃ x, l = [x] ∧ okN x ∧ x.op = 31 := by
  obtain ⟨h1, h2, h3, h4⟩ := h.1.of (k := 1) (sl := [6]) (more := false) (m := 1) rfl
  obtain ⟨x, rfl⟩ := len1 h2 (by simpa using h3)
  exact ⟨h1, x, rfl, h.2.1, sort_N h4.1⟩
theorem ok33 (h : okN (.mk 33 tx nm l a)) : 0 < levelI tx ∧ ∃ x y, l = [x, y] ∧ okN x ∧ okN y ∧ isE x ∧ isE y := by
  obtain ⟨h1, h2, h3, h4⟩ := h.1.of (k := 3) (sl := [3, 3]) (more := false) (m := 2) rfl
  obtain ⟨x, y, rfl⟩ := len2 h2 (by simpa using h3)
  exact ⟨by simpa [textB] using h1, x, y, rfl, h.2.1, h.2.2.1, sort_E h4.1, sort_E h4.2.1⟩
theorem ok34 (h : okN (.mk 34 tx nm l a)) : (tx = [45] ∨ tx = [33]) ∧ ∃ x, l = [x] ∧ okN x ∧ isE x := by
  obtain ⟨h1, h2, h3, h4⟩ := h.1.of (k := 4) (sl := [3]) (more := false) (m := 1) rfl
  obtain ⟨x, rfl⟩ := len1 h2 (by simpa using h3)
  exact ⟨by simpa [textB] using h1, x, rfl, h.2.1, sort_E h4.1⟩
theorem ok35 (h : okN (.mk 35 tx nm l a)) : tx = [] ∧ ∃ x y z, l = [x, y, z] ∧ okN x ∧ okN y ∧ okN z ∧ isE x ∧ isE y ∧ isE z := by
  obtain ⟨h1, h2, h3, h4⟩ := h.1.of (k := 0) (sl := [3, 3, 3]) (more := false) (m := 3) rfl
  obtain ⟨x, y, z, rfl⟩ := len3 h2 (by simpa using h3)
  exact ⟨by simpa [textB] using h1, x, y, z, rfl, h.2.1, h.2.2.1, h.2.2.2.1, sort_E h4.1, sort_E h4.2.1, sort_E h4.2.2.1⟩
theorem ok36 (h : okN (.mk 36 tx nm l a)) : (isNameB tx = true ∨ builtinL.contains tx = true) ∧ ∀ n ∈ l, okN n ∧ isE n := by
  obtain ⟨h1, h2, h3, h4⟩ := h.1.of (k := 5) (sl := [3]) (more := true) (m := 0) rfl
  exact ⟨by simpa only [textB, Bool.or_eq_true] using h1, fun n hn => ⟨okL_all h.2 n hn, sort_E (srt_all h4 n hn)⟩⟩
theorem ok37 (h : okN (.mk 37 tx nm l a)) : isNameB tx = true ∧ l = [] := by
  obtain ⟨h1, h2, h3, h4⟩ := h.1.of (k := 1) (sl := []) (more := false) (m := 0) rfl
  exact ⟨h1, by simpa using h3⟩
theorem ok38 (h : okN (.mk 38 tx nm l a)) : (tx = [116, 105, 99, 107] ∨ tx = [109, 101]) ∧ l = [] := by
  obtain ⟨h1, h2, h3, h4⟩ := h.1.of (k := 6) (sl := []) (more := false) (m := 0) rfl
  exact ⟨by simpa [textB] using h1, by simpa using h3⟩
theorem ok24 (h : okN (.mk 24 tx nm l a)) : isNameB tx = true ∧ ∃ x, l = [x] ∧ okN x ∧ isE x := by
  obtain ⟨h1, h2, h3, h4⟩ := h.1.of (k := 1) (sl := [3]) (more := false) (m := 1) rfl
  obtain ⟨x, rfl⟩ := len1 h2 (by simpa using h3)
  exact ⟨h1, x, rfl, h.2.1, sort_E h4.1⟩
theorem ok23 (h : okN (.mk 23 tx nm l a)) : isNameB tx = true ∧ ∀ n ∈ l, okN n ∧ n.op = 24 := by
  obtain ⟨h1, h2, h3, h4⟩ := h.1.of (k := 1) (sl := [5]) (more := true) (m := 0) rfl
  exact ⟨h1, fun n hn => ⟨okL_all h.2 n hn, sort_V (srt_all h4 n hn)⟩⟩
theorem ok10 (h : okN (.mk 10 tx nm l a)) : isNameB tx = true ∧ ∃ x, l = [x] ∧ okN x ∧ isE x := by
  obtain ⟨h1, h2, h3, h4⟩ := h.1.of (k := 1) (sl := [3]) (more := false) (m := 1) rfl
  obtain ⟨x, rfl⟩ := len1 h2 (by simpa using h3)
  exact ⟨h1, x, rfl, h.2.1, sort_E h4.1⟩
theorem ok11 (h : okN (.mk 11 tx nm l a)) : isNameB tx = true ∧ ∃ x, l = [x] ∧ okN x ∧ isE x := by
  obtain ⟨h1, h2, h3, h4⟩ := h.1.of (k := 1) (sl := [3]) (more := false) (m := 1) rfl
  obtain ⟨x, rfl⟩ := len1 h2 (by simpa using h3)
  exact ⟨h1, x, rfl, h.2.1, sort_E h4.1⟩
theorem ok12 (h : okN (.mk 12 tx nm l a)) : isNameB tx = true ∧ ∃ x y, l = [x, y] ∧ okN x ∧ okN y ∧ x.op = 31 ∧ isE y := by
  obtain ⟨h1, h2, h3, h4⟩ := h.1.of (k := 1) (sl := [6, 3]) (more := false) (m := 2) rfl
  obtain ⟨x, y, rfl⟩ := len2 h2 (by simpa using h3)
  exact ⟨h1, x, y, rfl, h.2.1, h.2.2.1, sort_N h4.1, sort_E h4.2.1⟩
theorem ok13 (h : okN (.mk 13 tx nm l a)) : tx = [] ∧ ∃ c b, okN c ∧ isE c ∧ okN b ∧ b.op = 5 ∧ (l = [c, b] ∨ ∃ e, l = [c, b, e] ∧ okN e ∧ (e.op = 5 ∨ e.op = 13)) := by
  obtain ⟨h1, h2, h3, h4⟩ := h.1.of (k := 0) (sl := [3, 1, 7]) (more := false) (m := 2) rfl
  refine ⟨by simpa [textB] using h1, ?_⟩
  have h3 : l.length ≤ 3 := by simpa using h3
  by_cases e : l.length ≤ 2
  · obtain ⟨x, y, rfl⟩ := len2 h2 e
    exact ⟨x, y, h.2.1, sort_E h4.1, h.2.2.1, sort_B h4.2.1, .inl rfl⟩
  · obtain ⟨x, y, z, rfl⟩ := len3 (by omega) h3
    exact ⟨x, y, h.2.1, sort_E h4.1, h.2.2.1, sort_B h4.2.1, .inr ⟨z, rfl, h.2.2.2.1, sort_I h4.2.2.1⟩⟩
theorem ok14 (h : okN (.mk 14 tx nm l a)) : tx = [] ∧ ∃ c b, l = [c, b] ∧ okN c ∧ isE c ∧ okN b ∧ b.op = 5 := by
  obtain ⟨h1, h2, h3, h4⟩ := h.1.of (k := 0) (sl := [3, 1]) (more := false) (m := 2) rfl
  obtain ⟨x, y, rfl⟩ := len2 h2 (by simpa using h3)
  exact ⟨by simpa [textB] using h1, x, y, rfl, h.2.1, sort_E h4.1, h.2.2.1, sort_B h4.2.1⟩
theorem ok15 (h : okN (.mk 15 tx nm l a)) : tx = [] ∧ ∃ c b, l = [c, b] ∧ okN c ∧ isE c ∧ okN b ∧ b.op = 5 := by
  obtain ⟨h1, h2, h3, h4⟩ := h.1.of (k := 0) (sl := [3, 1]) (more := false) (m := 2) rfl
  obtain ⟨x, y, rfl⟩ := len2 h2 (by simpa using h3)
  exact ⟨by simpa [textB] using h1, x, y, rfl, h.2.1, sort_E h4.1, h.2.2.1, sort_B h4.2.1⟩
theorem ok16 (h : okN (.mk 16 tx nm l a)) : tx = [] ∧ ∃ x y, l = [x, y] ∧ okN x ∧ okN y ∧ isE x ∧ isE y := by
  obtain ⟨h1, h2, h3, h4⟩ := h.1.of (k := 0) (sl := [3, 3]) (more := false) (m := 2) rfl
  obtain ⟨x, y, rfl⟩ := len2 h2 (by simpa using h3)
  exact ⟨by simpa [textB] using h1, x, y, rfl, h.2.1, h.2.2.1, sort_E h4.1, sort_E h4.2.1⟩
theorem ok17 (h : okN (.mk 17 tx nm l a)) : tx = [] ∧ ∀ n ∈ l, okN n ∧ n.op = 23 := by
  obtain ⟨h1, h2, h3, h4⟩ := h.1.of (k := 0) (sl := [4]) (more := true) (m := 0) rfl
  exact ⟨by simpa [textB] using h1, fun n hn => ⟨okL_all h.2 n hn, sort_P (srt_all h4 n hn)⟩⟩
theorem ok18 (h : okN (.mk 18 tx nm l a)) : tx = [] ∧ ∃ x, l = [x] ∧ okN x ∧ x.op = 23 := by
  obtain ⟨h1, h2, h3, h4⟩ := h.1.of (k := 0) (sl := [4]) (more := false) (m := 1) rfl
  obtain ⟨x, rfl⟩ := len1 h2 (by simpa using h3)
  exact ⟨by simpa [textB] using h1, x, rfl, h.2.1, sort_P h4.1⟩
theorem ok19 (h : okN (.mk 19 tx nm l a)) : isNameB tx = true ∧ l = [] := by
  obtain ⟨h1, h2, h3, h4⟩ := h.1.of (k := 1) (sl := []) (more := false) (m := 0) rfl
  exact ⟨h1, by simpa using h3⟩
theorem ok20 (h : okN (.mk 20 tx nm l a)) : tx = [] ∧ l = [] := by
  obtain ⟨h1, h2, h3, h4⟩ := h.1.of (k := 0) (sl := []) (more := false) (m := 0) rfl
  exact ⟨by simpa [textB] using h1, by simpa using h3⟩
theorem ok21 (h : okN (.mk 21 tx nm l a)) : tx = [] ∧ l = [] := by
  obtain ⟨h1, h2, h3, h4⟩ := h.1.of (k := 0) (sl := []) (more := false) (m := 0) rfl
  exact ⟨by simpa [textB] using h1, by simpa using h3⟩
theorem ok22 (h : okN (.mk 22 tx nm l a)) : tx = [] ∧ ∃ x, l = [x] ∧ okN x ∧ isE x := by
  obtain ⟨h1, h2, h3, h4⟩ := h.1.of (k := 0) (sl := [3]) (more := false) (m := 1) rfl
  obtain ⟨x, rfl⟩ := len1 h2 (by simpa using h3)
  exact ⟨by simpa [textB] using h1, x, rfl, h.2.1, sort_E h4.1⟩
theorem ok5 (h : okN (.mk 5 tx nm l a)) : tx = [] ∧ ∀ n ∈ l, okN n ∧ 10 ≤ n.op ∧ n.op ≤ 22 := by
  obtain ⟨h1, h2, h3, h4⟩ := h.1.of (k := 0) (sl := [2]) (more := true) (m := 0) rfl
  exact ⟨by simpa [textB] using h1, fun n hn => ⟨okL_all h.2 n hn, sort_S (srt_all h4 n hn)⟩⟩
theorem ok3 (h : okN (.mk 3 tx nm l a)) : (clauseW ++ [[102, 117, 110, 99]]).contains tx = true ∧ ∀ n ∈ l, okN n ∧ n.op = 31 := by
  obtain ⟨h1, h2, h3, h4⟩ := h.1.of (k := 2) (sl := [6]) (more := true) (m := 0) rfl
  exact ⟨h1, fun n hn => ⟨okL_all h.2 n hn, sort_N (srt_all h4 n hn)⟩⟩
theorem ok2 (h : okN (.mk 2 tx nm l a)) : isNameB tx = true ∧ ∃ c1 c2 c3 c4 b, l = [c1, c2, c3, c4, b] ∧ (∀ c ∈ [c1, c2, c3, c4], okN c ∧ c.op = 3) ∧ [c1, c2, c3, c4].map Nd.tx = clauseW ∧ okN b ∧ b.op = 5 := by
  obtain ⟨h1, h2, h3, h4⟩ := h.1.of (k := 1) (sl := [0, 0, 0, 0, 1]) (more := false) (m := 5) rfl
  have h3 : l.length ≤ 5 := by simpa using h3
  match l, h2, h3, h with
  | [c1, c2, c3, c4, b], _, _, h =>
    refine ⟨h1, c1, c2, c3, c4, b, rfl, fun c hc => ?_, by have := h.1.cls; simpa [clsB] using this, h.2.2.2.2.2.1, sort_B h4.2.2.2.2.1⟩
    simp only [List.mem_cons, List.not_mem_nil, or_false] at hc
    rcases hc with rfl | rfl | rfl | rfl
    · exact ⟨h.2.1, sort_C h4.1⟩
    · exact ⟨h.2.2.1, sort_C h4.2.1⟩
    · exact ⟨h.2.2.2.1, sort_C h4.2.2.1⟩
    · exact ⟨h.2.2.2.2.1, sort_C h4.2.2.2.1⟩
theorem ok4 (h : okN (.mk 4 tx nm l a)) : isNameB tx = true ∧ ∃ c b, l = [c, b] ∧ okN c ∧ c.op = 3 ∧ c.tx = [102, 117, 110, 99] ∧ okN b ∧ b.op = 5 := by
  obtain ⟨h1, h2, h3, h4⟩ := h.1.of (k := 1) (sl := [0, 1]) (more := false) (m := 2) rfl
  obtain ⟨x, y, rfl⟩ := len2 h2 (by simpa using h3)
  exact ⟨h1, x, y, rfl, h.2.1, sort_C h4.1, by have := h.1.cls; simpa [clsB] using this, h.2.2.1, sort_B h4.2.1⟩
theorem ok1 (h : okN (.mk 1 tx nm l a)) : tx = [] ∧ ∀ n ∈ l, okN n ∧ (n.op = 2 ∨ n.op = 4) := by
  obtain ⟨h1, h2, h3, h4⟩ := h.1.of (k := 0) (sl := [8]) (more := true) (m := 0) rfl
  exact ⟨by simpa [textB] using h1, fun n hn => ⟨okL_all h.2 n hn, sort_T (srt_all h4 n hn)⟩⟩
end
end
section
open Go Hc Hc.Lex
mutual
def i64N : Nd → Prop
  | .nil => True
  | .mk _ _ nm l _ => (-9223372036854775808 ≤ nm ∧ nm ≤ 9223372036854775807) ∧ i64L l
def i64L : List Nd → Prop
  | [] => True
  | n :: ns => i64N n ∧ i64L ns
end
theorem i64L_all : ∀ {l : List Nd}, i64L l → ∀ n ∈ l, i64N n
  | [], _, n, hn => by cases hn
  | m :: ms, h, n, hn => by
    rcases List.mem_cons.1 hn with rfl | hn
    · exact h.1
    · exact i64L_all h.2 n hn
theorem digs10_len {n : Int} (h0 : 0 ≤ n) (h : n ≤ 9223372036854775807) : (digs10 n).length ≤ 21 := by
  have := Lib.itoa_length_le n (by omega) h
  unfold Lib.itoa at this
  rw [if_neg (by omega)] at this
  exact this
theorem name_len {t : Txt} (h : isNameB t = true) : t.length ≤ 16 := by
  unfold isNameB at h
  simp only [Bool.and_eq_true, decide_eq_true_eq] at h
  exact h.1.1
theorem level_len {t : Txt} (h : 0 < levelI t) : t.length ≤ 16 := by
  unfold levelI at h
  repeat' split at h
  all_goals first | (rename_i e; rcases e with e | e | e | e <;> subst e <;> decide) | (rename_i e; rcases e with e | e | e <;> subst e <;> decide) | (rename_i e; rcases e with e | e <;> subst e <;> decide) | (rename_i e; subst e; decide) | omega
theorem text_len {k : Nat} {t : Txt} (h : textB k t = true) : t.length ≤ 16 := by
  unfold textB at h
  split at h
  · simp only [beq_iff_eq] at h; subst h; decide
  · exact name_len h
  · have h := List.contains_iff_mem.1 h
    simp only [clauseW, List.cons_append, List.nil_append, List.mem_cons, List.not_mem_nil, or_false] at h
    rcases h with rfl | rfl | rfl | rfl | rfl <;> decide
  · exact level_len (by simpa using h)
  · simp only [Bool.or_eq_true, beq_iff_eq] at h
    rcases h with rfl | rfl <;> decide
  · simp only [Bool.or_eq_true] at h
    rcases h with h | h
    · exact name_len h
    · have h := List.contains_iff_mem.1 h
      simp only [builtinL, List.mem_cons, List.not_mem_nil, or_false] at h
      rcases h with rfl | rfl | rfl | rfl | rfl <;> decide
  · simp only [Bool.or_eq_true, beq_iff_eq] at h
    rcases h with rfl | rfl <;> decide
theorem Loc.tlen {op nm : Int} {tx : Txt} {l : List Nd} (h : Loc op tx nm l) : tx.length ≤ 16 := by
  obtain ⟨k, sl, more, m, _, h2, _⟩ := h.ex
  exact text_len h2
theorem okN.tlen {n : Nd} (h : okN n) : n.tx.length ≤ 16 := by
  obtain ⟨op, tx, nm, l, a, rfl⟩ := h.op
  exact h.1.tlen
theorem par_len (b : Bool) (t : Txt) : (par b t).length ≤ t.length + 2 := by
  unfold par; split <;> simp
theorem headD_tlen {l : List Nd} (h : okL l) : (l.headD .nil).tx.length ≤ 16 := by
  cases l with
  | nil => simp [Nd.tx]
  | cons x xs => exact h.1.tlen
mutual
theorem exT_len : ∀ {n : Nd}, okN n → i64N n → (exT n).length + 2 ≤ 64 * cnt n
  | .nil, h, _ => h.elim
  | .mk op tx nm l a, h, hi => by
    have ht := h.1.tlen
    have hc : cnt (.mk op tx nm l a) = 1 + cntL l := by simp [cnt]
    have hl := exTs_len h.2 hi.2
    rw [hc]
    unfold exT
    split
    · rename_i e; have := digs10_len (h.1.num e) hi.1.2; omega
    split
    · have := headD_tlen h.2
      simp only [List.length_append, List.length_cons]; omega
    split
    · match l, h, hi, hl with
      | [], _, _, _ => simp; omega
      | [_], _, _, _ => simp; omega
      | x :: y :: r, h, hi, _ =>
        dsimp only
        have h1 := exT_len h.2.1 hi.2.1
        have h2 := exT_len h.2.2.1 hi.2.2.1
        have p1 := par_len (needP (levelI tx) false x) (exT x)
        have p2 := par_len (needP (levelI tx) true y) (exT y)
        simp only [List.length_append, List.length_cons, cntL]; omega
    split
    · match l, h, hi, hl with
      | [], _, _, _ => simp; omega
      | x :: r, h, hi, _ =>
        dsimp only
        have h1 := exT_len h.2.1 hi.2.1
        have p1 := par_len (needP 7 false x) (exT x)
        simp only [List.length_append, cntL]; omega
    split
    · match l, h, hi, hl with
      | [], _, _, _ => simp; omega
      | [_], _, _, _ => simp; omega
      | [_, _], _, _, _ => simp; omega
      | x :: y :: z :: r, h, hi, _ =>
        dsimp only
        have h1 := exT_len h.2.1 hi.2.1
        have h2 := exT_len h.2.2.1 hi.2.2.1
        have h3 := exT_len h.2.2.2.1 hi.2.2.2.1
        have p1 := par_len (needP 0 false x) (exT x)
        simp only [List.length_append, List.length_cons, List.length_nil, cntL]; omega
    split
    · have := hl true
      simp only [List.length_append, List.length_cons, List.length_nil]; omega
    split
    · simp only [List.length_append, List.length_cons, List.length_nil]; omega
    · omega
theorem exTs_len : ∀ {l : List Nd}, okL l → i64L l → ∀ b, (comF b (exTs l)).length ≤ 64 * cntL l
  | [], _, _, b => by simp [exTs, comF, cntL]
  | n :: ns, h, hi, b => by
    have h1 := exT_len h.1 hi.1
    have h2 := exTs_len h.2 hi.2 false
    simp only [exTs, comF, List.length_append, cntL]
    split <;> simp only [List.length_nil, List.length_cons] <;> omega
end
theorem com_len {f : Nd → Txt} {g : Nd → Nat} : ∀ {l : List Nd}, (∀ n ∈ l, (f n).length + 2 ≤ 64 * g n) → ∀ b, (comF b (l.map f)).length ≤ 64 * (l.map g).sum
  | [], _, b => by simp [comF]
  | n :: ns, h, b => by
    have h1 := h n (by simp)
    have h2 := com_len (l := ns) (fun m hm => h m (by simp [hm])) false
    simp only [List.map_cons, comF, List.length_append, List.sum_cons]
    split <;> simp only [List.length_nil, List.length_cons] <;> omega
theorem sum_cnt : ∀ (l : List Nd), (l.map cnt).sum = cntL l
  | [] => rfl
  | n :: ns => by simp [cntL, sum_cnt ns]
theorem headD_exT {l : List Nd} (h : okL l) (hi : i64L l) : (exT (l.headD .nil)).length ≤ 64 * cntL l := by
  cases l with
  | nil => simp [exT]
  | cons x xs => have := exT_len h.1 hi.1; simp only [List.headD_cons, cntL]; omega
theorem valT_len {n : Nd} (h : okN n) (hi : i64N n) : (valT n).length + 2 ≤ 64 * cnt n := by
  obtain ⟨op, tx, nm, l, a, rfl⟩ := h.op
  have ht := h.1.tlen
  have := headD_exT h.2 hi.2
  simp only [valT, Nd.tx, Nd.ks, List.length_append, List.length_cons, List.length_nil, cnt]; omega
theorem partT_len {n : Nd} (h : okN n) (hi : i64N n) : (partT n).length + 2 ≤ 64 * cnt n := by
  obtain ⟨op, tx, nm, l, a, rfl⟩ := h.op
  have ht := h.1.tlen
  have := com_len (f := valT) (g := cnt) (l := l) (fun n hn => valT_len (okL_all h.2 n hn) (i64L_all hi.2 n hn)) true
  rw [sum_cnt] at this
  simp only [partT, Nd.tx, Nd.ks, List.length_append, List.length_cons, List.length_nil, cnt]; omega
theorem simT_len {n : Nd} (h : okN n) (hi : i64N n) : (simT n).length + 2 ≤ 64 * cnt n := by
  obtain ⟨op, tx, nm, l, a, rfl⟩ := h.op
  have ht := h.1.tlen
  have hx := headD_exT h.2 hi.2
  have hxt := headD_tlen h.2
  have hy : (exT (l.headD .nil)).length + (exT (l.tail.headD .nil)).length ≤ 64 * cntL l := by
    cases l with
    | nil => simp [exT]
    | cons x xs =>
      have := exT_len h.2.1 hi.2.1
      have := headD_exT h.2.2 hi.2.2
      simp only [List.headD_cons, List.tail_cons, cntL]; omega
  have hp := com_len (f := partT) (g := cnt) (l := l) (fun n hn => partT_len (okL_all h.2 n hn) (i64L_all hi.2 n hn)) true
  rw [sum_cnt] at hp
  have hpx : (partT (l.headD .nil)).length ≤ 64 * cntL l + 2 := by
    cases l with
    | nil => simp [partT, Nd.tx, Nd.ks, comF]
    | cons x xs => have := partT_len h.2.1 hi.2.1; simp only [List.headD_cons, cntL]; omega
  unfold simT
  simp only [cnt]
  repeat' split
  all_goals simp only [List.length_append, List.length_cons, List.length_nil]
  all_goals first | omega | (split <;> simp only [List.length_nil, List.length_cons] <;> omega)
mutual
theorem stT_len : ∀ {n : Nd} {t : Nat}, okN n → i64N n → t + dpN n ≤ 40 → (stT t n).length + 42 ≤ 256 * cnt n
  | .nil, _, h, _, _ => h.elim
  | .mk op tx nm l a, t, h, hi, hd => by
    unfold stT
    have hc : cnt (.mk op tx nm l a) = 1 + cntL l := by simp [cnt]
    have hd' : t + dpL l ≤ 40 := by simp only [dpN] at hd; split at hd <;> omega
    rw [hc]
    by_cases h13 : op = 13
    · subst h13
      rw [if_pos rfl]
      match l, h, hi, hd' with
      | [], _, _, _ => simp; omega
      | [_], _, _, _ => simp; omega
      | [c, b], h, hi, hd' =>
        have hb : b.op = 5 := by
          obtain ⟨_, c', b', _, _, _, h5, e | ⟨e', e, _⟩⟩ := ok13 h
          · cases e; exact h5
          · cases e
        dsimp only
        simp only [dpL] at hd'
        have h1 := exT_len h.2.1 hi.2.1
        have h2 := blkT_len (n := b) (t := t) h.2.2.1 hi.2.2.1 hb (by omega)
        simp only [List.length_append, List.length_cons, List.length_nil, cntL]; omega
      | c :: b :: e :: r, h, hi, hd' =>
        obtain ⟨hb, he⟩ : b.op = 5 ∧ (e.op = 5 ∨ e.op = 13) := by
          obtain ⟨_, c', b', _, _, _, h5, e0 | ⟨e', e0, _, h6⟩⟩ := ok13 h
          · cases e0
          · cases e0; exact ⟨h5, h6⟩
        dsimp only
        simp only [dpL] at hd'
        have h1 := exT_len h.2.1 hi.2.1
        have h2 := blkT_len (n := b) (t := t) h.2.2.1 hi.2.2.1 hb (by omega)
        have h4 := stT_len (n := e) (t := t) h.2.2.2.1 hi.2.2.2.1 (by omega)
        simp only [List.length_append, List.length_cons, List.length_nil, cntL]
        by_cases e13 : e.op = 13
        · rw [if_pos e13]; simp only [List.length_cons]; omega
        · rw [if_neg e13]
          have h3 := blkT_len (n := e) (t := t) h.2.2.2.1 hi.2.2.2.1 (he.resolve_right e13) (by omega)
          omega
    rw [if_neg h13]
    by_cases h14 : op = 14
    · subst h14
      rw [if_pos rfl]
      match l, h, hi, hd' with
      | [], _, _, _ => simp; omega
      | [_], _, _, _ => simp; omega
      | c :: b :: r, h, hi, hd' =>
        have hb : b.op = 5 := by
          obtain ⟨_, c', b', e, _, _, _, h5⟩ := ok14 h
          cases e; exact h5
        dsimp only
        simp only [dpL] at hd'
        have h1 := exT_len h.2.1 hi.2.1
        have h2 := blkT_len (n := b) (t := t) h.2.2.1 hi.2.2.1 hb (by omega)
        simp only [List.length_append, List.length_cons, List.length_nil, cntL]; omega
    rw [if_neg h14]
    by_cases h15 : op = 15
    · subst h15
      rw [if_pos rfl]
      match l, h, hi, hd' with
      | [], _, _, _ => simp; omega
      | [_], _, _, _ => simp; omega
      | c :: b :: r, h, hi, hd' =>
        have hb : b.op = 5 := by
          obtain ⟨_, c', b', e, _, _, _, h5⟩ := ok15 h
          cases e; exact h5
        dsimp only
        simp only [dpL] at hd'
        have h1 := exT_len h.2.1 hi.2.1
        have h2 := blkT_len (n := b) (t := t) h.2.2.1 hi.2.2.1 hb (by omega)
        simp only [List.length_append, List.length_cons, List.length_nil, cntL]; omega
    rw [if_neg h15]
    have := simT_len h hi
    rw [hc] at this
    simp only [List.length_append, List.length_cons, List.length_nil]; omega
theorem blkT_len : ∀ {n : Nd} {t : Nat}, okN n → i64N n → n.op = 5 → t + dpN n ≤ 40 → (blkT t n).length + 42 ≤ 256 * cnt n
  | .nil, _, h, _, _, _ => h.elim
  | .mk op tx nm l a, t, h, hi, h5, hd => by
    have hd' : t + 1 + dpL l ≤ 40 := by have h5 : op = 5 := h5; simp only [dpN] at hd; rw [if_pos h5] at hd; omega
    have := stsT_len (ns := l) (t := t + 1) h.2 hi.2 hd'
    unfold blkT
    simp only [List.length_append, List.length_cons, List.length_nil, cnt, tabsT, List.length_replicate]; omega
theorem stsT_len : ∀ {ns : List Nd} {t : Nat}, okL ns → i64L ns → t + dpL ns ≤ 40 → (stsT t ns).length ≤ 256 * cntL ns
  | [], _, _, _, _ => by simp [stsT]
  | n :: ns, t, h, hi, hd => by
    simp only [dpL] at hd
    have h1 := stT_len (n := n) (t := t) h.1 hi.1 (by omega)
    have h2 := stsT_len (ns := ns) (t := t) h.2 hi.2 (by omega)
    simp only [stsT, List.length_append, List.length_cons, tabsT, List.length_replicate, cntL]; omega
end
theorem clauseT_len {n : Nd} (h : okN n) : (clauseT n).length ≤ 256 * cnt n := by
  obtain ⟨op, tx, nm, l, a, rfl⟩ := h.op
  have ht := h.1.tlen
  have hp := com_len (f := Nd.tx) (g := cnt) (l := l) (fun n hn => by have := (okL_all h.2 n hn).tlen; have := cnt_pos (okL_all h.2 n hn); omega) true
  rw [sum_cnt] at hp
  unfold clauseT namesT
  simp only [cnt]
  cases l.isEmpty
  · rw [if_neg (by decide)]; simp only [List.length_append, List.length_cons]; omega
  · rw [if_pos rfl]; simp
theorem flat_len' {f : Nd → Txt} : ∀ {l : List Nd}, (∀ n ∈ l, (f n).length ≤ 256 * cnt n) → (l.flatMap f).length ≤ 256 * cntL l
  | [], _ => by simp
  | n :: ns, h => by
    have h1 := h n (by simp)
    have h2 := flat_len' (l := ns) fun m hm => h m (by simp [hm])
    simp only [List.flatMap_cons, List.length_append, cntL]; omega
theorem cntL_take (l : List Nd) (n : Nat) : cntL (l.take n) + cntL (l.drop n) = cntL l := by
  induction l generalizing n with
  | nil => simp [cntL]
  | cons x xs ih =>
    cases n with
    | zero => simp [cntL]
    | succ n => have := ih n; simp only [List.take_succ_cons, List.drop_succ_cons, cntL]; omega
theorem thingT_len {n : Nd} (h : okN n) (hi : i64N n) (ho : n.op = 2 ∨ n.op = 4) (hd : dpN n ≤ 20) : (thingT n).length ≤ 256 * cnt n := by
  obtain ⟨op, tx, nm, l, a, rfl⟩ := h.op
  have ht := h.1.tlen
  rcases ho with e | e
  · have e : op = 2 := e
    subst e
    obtain ⟨_, c1, c2, c3, c4, b, rfl, hc, _, hb, h5⟩ := ok2 h
    have h1 := flat_len' (f := clauseT) (l := [c1, c2, c3, c4]) fun n hn => clauseT_len (hc n hn).1
    have h2 := blkT_len (n := b) (t := 0) hb hi.2.2.2.2.2.1 h5 (by simp only [dpN, dpL] at hd; omega)
    rw [thingT, if_neg (by decide)]
    simp only [List.length_append, List.length_cons, List.length_nil, List.take_succ_cons, List.take_zero, cnt, cntL, List.getLastD_cons, List.getLastD_nil] at h1 h2 ⊢
    omega
  · have e : op = 4 := e
    subst e
    obtain ⟨_, c, b, rfl, hc, _, _, hb, h5⟩ := ok4 h
    obtain ⟨op', tx', nm', l', a', rfl⟩ := hc.op
    have hp := com_len (f := Nd.tx) (g := cnt) (l := l') (fun n hn => by have := (okL_all hc.2 n hn).tlen; have := cnt_pos (okL_all hc.2 n hn); omega) true
    rw [sum_cnt] at hp
    have h2 := blkT_len (n := b) (t := 0) hb hi.2.2.1 h5 (by simp only [dpN, dpL] at hd; omega)
    rw [thingT, if_pos rfl]
    simp only [namesT, Nd.ks, List.length_append, List.length_cons, List.length_nil, cnt, cntL, List.getLastD_cons, List.getLastD_nil, List.headD_cons] at h2 ⊢
    omega
end
end Go.Proofs.YtfpmgpblhhcpgaaGreatDoor.Hc.Syn
namespace Go.Proofs.YtfpmgpblhhcpgaaGreatDoor
set_option linter.unusedVariables false
set_option linter.unusedSimpArgs false
set_option maxRecDepth 100000
section
open Hc Hc.Lex Hc.Syn Go.Shelf Go.RowKit
abbrev rhoB : Ren := Tryz.lays165_ren
theorem lay240 : Lays.n240 Tryz.prog rhoB := { Tryz.lays165 with }
theorem lies84 : ∀ j : Nat, j = 3 / Tryz.prog.cellsOf 84 → liesAt Tryz.prog Tryz.prog.depth 84 j 0 82 1 = true := by
  intro j hj; subst hj; kernel_rfl
set_option maxHeartbeats 1000000 in
theorem cc_fresh (b : Nat) (w : World) (h0 : w.cell? ⟨b, 0, none⟩ = some (.pointer none)) (hsh : w.shape? b = some (84, 3)) (hfz : w.frozen? ⟨b, 0, none⟩ = false) :
    Calls Tryz.prog 95 #[.pointer (some ⟨b, 0, none⟩)] w fun e w' => e = .returned (.tuple #[]) ∧ w' = w.setCell ⟨b, 0, none⟩ (.pointer (some ⟨b, 0, none⟩)) := by
  obtain ⟨j, hj, hjs⟩ := Option.map_eq_some_iff.1 Tryz.Builder_Extra_165.toX72.sizeBuilder
  have L := lay240
  have mixed := L.mixed
  have t72 := L.t72; have a72 := L.a72; have z72 := L.z72; have v72 := L.v72; have u72 := run_underlying L.t72
  have t70 := L.t70; have a70 := L.a70; have z70 := L.z70; have v70 := L.v70; have u70 := run_underlying L.t70
  have t9 := L.t9; have a9 := L.a9; have z9 := L.z9; have v9 := L.v9; have u9 := run_underlying L.t9
  have t4 := L.t4; have a4 := L.a4; have z4 := L.z4; have v4 := L.v4; have u4 := run_underlying L.t4
  have t164 := L.t164; have a164 := L.a164; have z164 := L.z164; have v164 := L.v164; have u164 := run_underlying L.t164
  show Calls Tryz.prog (rhoB.f 240) _ w _
  go_enter L.f240, Body.n240_ntmps rhoB
  go_wp2
  rw [Lib.run_to_unsafe w ⟨b, 0, none⟩ L.t70 L.t164 hj (by rw [hjs]; decide) hsh (by show 0 < 3; decide)]
  simp only [Result.andThen]
  rw [Oper.upon_value]
  go_wp2
  rw [run_callFunc_extern L.f276 (by kernel_rfl) (by kernel_rfl) (by kernel_rfl) (e := Extern.AbiNoEscape.same) (by kernel_rfl)]
  rw [Lib.run_noEscape]
  simp only [Result.andThen]
  rw [Oper.upon_value]
  go_wp2
  rw [Lib.run_from_unsafe w ⟨b, 0, none⟩ L.t164 L.t70 hj hsh (lies84 _ rfl)]
  simp only [Result.andThen]
  rw [Oper.upon_value]
  go_wp2
  go_end0
  exact ⟨rfl, rfl⟩
theorem cc_used (b : Nat) (w : World) (h0 : w.cell? ⟨b, 0, none⟩ = some (.pointer (some ⟨b, 0, none⟩))) :
    Calls Tryz.prog 95 #[.pointer (some ⟨b, 0, none⟩)] w fun e w' => e = .returned (.tuple #[]) ∧ w' = w :=
  Any.Builder_copyCheck_used lay240 Tryz.Builder_Extra_165.toX72 b w h0
def PowH (H : Heap) : Prop := ∃ t fr, H[5]? = some (.cells (Lib.pow10Tab.map fun z => Value.int .u64 z).toArray t fr)
theorem PowH.nb {H H' : Heap} {M : Nat → Prop} (h : PowH H) (hU : Upd M H H') (hM : ¬ M 5) : PowH H' := by
  obtain ⟨t, fr, h⟩ := h
  exact ⟨t, fr, hU.keep h hM⟩
structure W0 (lo : Nat) (H : Heap) (b : Nat) (pre : Txt) (tabs : Nat) : Prop where
  row : ∃ p L, Row H b TQam [p, slV L, .int .i64 (tabs : Nat)] ∧ (p = .pointer none ∨ p = .pointer (some (adr b))) ∧ Vec H TQag L (u8s pre) ∧ (∀ c, L.a = some (adr c) → lo ≤ c ∧ c ≠ b) ∧ (pre = [] → L = ⟨none, 0, 0⟩)
  lo : lo ≤ b
variable {H : Heap} {lo b tabs : Nat} {pre : Txt}
theorem W0.lt (h : W0 lo H b pre tabs) : b < H.size := by obtain ⟨_, _, q, _⟩ := h.row; exact q.lt
theorem W0.ext {H' : Heap} (h : W0 lo H b pre tabs) (hE : Ext H H') : W0 lo H' b pre tabs := by
  obtain ⟨p, L, h1, h2, h3, h4⟩ := h.row
  exact ⟨⟨p, L, hE.row h1 fun h => h, h2, h3.upd hE fun _ _ h => h, h4⟩, h.lo⟩
theorem cb_copyCheck : Cb Pg fQct := ⟨_, Tryz.func95, by kernel_rfl, by kernel_rfl⟩
theorem cb_String : Cb Pg fQce := ⟨_, Tryz.func34, by kernel_rfl, by kernel_rfl⟩
theorem s_copyCheck (h : W0 lo H b pre tabs) {k : Unit → Heap → Prop} (hk : ∀ H' L, Upd (· = b) H H' → Row H' b TQam [.pointer (some (adr b)), slV L, .int .i64 (tabs : Nat)] → Vec H' TQag L (u8s pre) → (∀ c, L.a = some (adr c) → lo ≤ c ∧ c ≠ b) → (pre = [] → L = ⟨none, 0, 0⟩) → k () H') :
    CallT Pg fQct [.pointer (some (adr b))] (.tup []) H k := by
  obtain ⟨p, L, h1, h2, h3, h4, h5⟩ := h.row
  rcases h2 with rfl | rfl
  · refine lib_call cb_copyCheck (fun w hw => cc_fresh b w ?_ ?_ ?_) fun w e w' hw ⟨g1, g2⟩ => ?_
    · rw [cell?_eq, hw]; exact (h1.cell 0).trans rfl
    · rw [shape?_eq, hw]; unfold hshape; rw [show H[b]? = _ from h1]; rfl
    · rw [frozen?_eq, hw]; exact frozen_blk h1
    · subst g2
      refine ⟨.setCell _ _ _, (), g1, ?_⟩
      rw [setCell_heap, hw]
      have hU := Upd.set H ⟨b, 0, none⟩ (.pointer (some ⟨b, 0, none⟩))
      exact hk _ L hU (set_blk h1 _) (h3.upd hU fun c hc e => (h4 c hc).2 e) h4 h5
  · refine lib_call cb_copyCheck (fun w hw => cc_used b w ?_) fun w e w' hw ⟨g1, g2⟩ => ?_
    · rw [cell?_eq, hw]; exact (h1.cell 0).trans rfl
    · subst g2
      exact ⟨.refl _, (), g1, by rw [hw]; exact hk H L (.refl _ _) h1 h3 h4 h5⟩
theorem lay169 : Lays.n169 Tryz.prog Tryz.lays169_ren := Tryz.lays169
set_option maxHeartbeats 2000000 in
theorem str_nil (b : Nat) (w : World) (c0 : w.drew.cell? ⟨b, 1, none⟩ = some (.slice none 0 0)) :
    Calls Tryz.prog 34 #[.pointer (some ⟨b, 0, none⟩)] w fun e w' => e = .returned (.string ⟨#[]⟩) ∧ w' = w.drew := by
  have L := lay169
  have X := Tryz.Builder_Extra_169
  have hUS := Any.unsafeString_none L X
  have c1 := c0
  have hSD : (Builtin.unsafeSliceData_ #[(Tryz.lays169_ren.t 37)] (Tryz.lays169_ren.t 127) #[.slice none 0 0]).run Tryz.prog w.drew = .ok (.pointer none) w.drew := rfl
  have mixed := L.mixed
  have t72 := L.t72; have a72 := L.a72; have z72 := L.z72; have v72 := L.v72; have u72 := run_underlying L.t72
  have t70 := L.t70; have a70 := L.a70; have z70 := L.z70; have v70 := L.v70; have u70 := run_underlying L.t70
  have t37 := L.t37; have a37 := L.a37; have z37 := L.z37; have v37 := L.v37; have u37 := run_underlying L.t37
  have t127 := L.t127; have a127 := L.a127; have z127 := L.z127; have v127 := L.v127; have u127 := run_underlying L.t127
  have t3 := L.t3; have a3 := L.a3; have z3 := L.z3; have v3 := L.v3; have u3 := run_underlying L.t3
  have t9 := L.t9; have a9 := L.a9; have z9 := L.z9; have v9 := L.v9; have u9 := run_underlying L.t9
  have t5 := X.t5; have a5 := X.a5; have z5 := X.z5; have v5 := X.v5; have u5 := run_underlying X.t5
  show Calls Tryz.prog (Tryz.lays169_ren.f 169) _ w _
  go_enter L.f169, Body.n169_ntmps Tryz.lays169_ren
  go_wp2
  go_region_o
  all_goals (go_wp2; go_ret; exact ⟨rfl, rfl⟩)
set_option maxHeartbeats 2000000 in
theorem str_full (b g n cap : Nat) (l : List UInt8) (hn : n = l.length) (h0 : l ≠ []) (hcap : n ≤ cap) (hmax : n ≤ 1152921504606846976) (w : World) (c0 : w.drew.cell? ⟨b, 1, none⟩ = some (.slice (some ⟨g, 0, none⟩) n cap)) (m : Nat) (hsh : w.drew.shape? g = some (5, m)) (hm : n ≤ m) (hc : ∀ (j : Nat) x, l[j]? = some x → w.drew.cell? ⟨g, j, none⟩ = some (.int .u8 x.toNat)) :
    Calls Tryz.prog 34 #[.pointer (some ⟨b, 0, none⟩)] w fun e w' => e = .returned (.string ⟨l.toArray⟩) ∧ w' = w.drew.freeze ⟨g, 0, none⟩ l.length := by
  have L := lay169
  have X := Tryz.Builder_Extra_169
  subst hn
  have c1 := c0
  have hcap0 : cap ≠ 0 := by
    have : l.length ≠ 0 := by simpa using h0
    omega
  have hSD : (Builtin.unsafeSliceData_ #[(Tryz.lays169_ren.t 37)] (Tryz.lays169_ren.t 127) #[.slice (some ⟨g, 0, none⟩) l.length cap]).run Tryz.prog w.drew = .ok (.pointer (some ⟨g, 0, none⟩)) w.drew :=
    Lib.run_unsafeSliceData_row _ _ _ _ _ _ hcap0
  have hUS : (Builtin.unsafeString_ #[(Tryz.lays169_ren.t 127), (Tryz.lays169_ren.t 3)] (Tryz.lays169_ren.t 9) #[.pointer (some ⟨g, 0, none⟩), .int .i64 l.length]).run Tryz.prog w.drew = .ok (.string ⟨l.toArray⟩) (w.drew.freeze ⟨g, 0, none⟩ l.length) := by
    refine Lib.run_unsafeString_row w.drew (Tryz.lays169_ren.t 127) (Tryz.lays169_ren.t 3) (Tryz.lays169_ren.t 9) (Tryz.lays169_ren.t 5) L.t127 X.cellsByte g m hsh l h0 hm (by omega) ?_
    intro j x hx
    rw [mk_add, Nat.zero_add]
    exact hc j x hx
  have mixed := L.mixed
  have t72 := L.t72; have a72 := L.a72; have z72 := L.z72; have v72 := L.v72; have u72 := run_underlying L.t72
  have t70 := L.t70; have a70 := L.a70; have z70 := L.z70; have v70 := L.v70; have u70 := run_underlying L.t70
  have t37 := L.t37; have a37 := L.a37; have z37 := L.z37; have v37 := L.v37; have u37 := run_underlying L.t37
  have t127 := L.t127; have a127 := L.a127; have z127 := L.z127; have v127 := L.v127; have u127 := run_underlying L.t127
  have t3 := L.t3; have a3 := L.a3; have z3 := L.z3; have v3 := L.v3; have u3 := run_underlying L.t3
  have t9 := L.t9; have a9 := L.a9; have z9 := L.z9; have v9 := L.v9; have u9 := run_underlying L.t9
  have t5 := X.t5; have a5 := X.a5; have z5 := X.z5; have v5 := X.v5; have u5 := run_underlying X.t5
  show Calls Tryz.prog (Tryz.lays169_ren.f 169) _ w _
  go_enter L.f169, Body.n169_ntmps Tryz.lays169_ren
  go_wp2
  go_region_o
  all_goals (go_wp2; go_ret; exact ⟨rfl, rfl⟩)
theorem AppStr_vec {T : TypeId} {bytes : Nat} {z : Value} {s : Sl} {t : Txt} {H : Heap} {k : Sl → Heap → Prop} {vs : List Value} (hv : Vec H T s vs) (hb : bytes ≠ 0) (hcap : (vs.length + t.length + (vs.length + t.length) / 4 + 1000) * bytes ≤ 2 ^ 48)
    (hk : ∀ s' H', Vec H' T s' (vs ++ u8s t) → Upd (fun b => s.a = some (adr b)) H H' → (s'.a = s.a ∨ s'.a = some (adr H.size)) → (t = [] → vs = [] → s' = ⟨none, 0, s.cap⟩ ∨ s.a ≠ none) → k s' H') :
    AppStr T bytes #[z] s ⟨⟨t⟩⟩ H k := by
  have hlen := hv.len
  have hsz : (⟨⟨t⟩⟩ : ByteArray).size = t.length := rfl
  have hbv : bytesV ⟨⟨t⟩⟩ = ⟨u8s t⟩ := by unfold bytesV; apply Array.ext'; simp [u8s]
  unfold AppStr
  rw [hsz, hbv]
  refine ⟨fun hfit => ?_, fun hgrow => ?_⟩
  · rcases hv.own with ⟨h1, h2, h3⟩ | ⟨b, sp, h1, h2, h3⟩
    · rw [h1]
      have ht : t = [] := List.eq_nil_of_length_eq_zero (by omega)
      subst ht h3
      exact hk _ H ⟨by simpa using hlen, .inl ⟨rfl, by simpa using h2, rfl⟩, hfit⟩ (.refl _ _) (.inl h1.symm) fun _ _ => .inl (by simp at hlen; simp [hlen])
    · rw [h1]
      dsimp only
      rw [adr_add]
      refine StL_row h2 (by simp [u8s]; omega) (u8s_one t) fun H' hU hs hr => ?_
      refine hk _ H' ⟨by simp [u8s]; omega, .inr ⟨b, sp.drop t.length, rfl, ?_, by simp [u8s]; omega⟩, hfit⟩ (hU.mono fun b' _ e => ?_) (.inl h1.symm) fun _ _ => .inr (by rw [h1]; simp)
      · rw [hlen, Nat.add_zero, List.take_left, List.drop_append, List.drop_eq_nil_of_le (by simp [u8s]), List.nil_append] at hr
        rw [show vs.length + (u8s t).length - vs.length = t.length by simp [u8s]] at hr
        exact hr
      · obtain ⟨rfl, _⟩ := e; exact h1
  · refine ⟨hb, ?_, vs, hv.rd, fun _ => by omega, fun c hc => ?_⟩
    · have := nextcap_le (s.len + t.length) s.cap hgrow
      refine Nat.le_trans (Nat.mul_le_mul_right bytes this) ?_
      rw [hlen]; exact hcap
    · have e : (⟨vs⟩ ++ ⟨u8s t⟩ ++ zcells #[z] ((c - (s.len + t.length)) * (#[z] : Array Value).size) : Array Value) = ⟨vs ++ u8s t ++ List.replicate (c - (s.len + t.length)) z⟩ := by
        rw [zcells_one]; apply Array.ext'; simp
      rw [e]
      refine hk _ _ ⟨by simp [u8s]; omega, .inr ⟨H.size, List.replicate (c - (s.len + t.length)) z, rfl, get_push_new _ _, by simp [u8s]; omega⟩, hc⟩ (Upd.push _ _ _) (.inr rfl) fun ht hv0 => ?_
      subst ht hv0
      have := hv.lc
      simp at hlen hgrow
      omega
theorem u8s_app (a c : Txt) : u8s (a ++ c) = u8s a ++ u8s c := by simp [u8s]
theorem s_WriteString0 (h : W0 lo H b pre tabs) (t : Txt) (hne : pre ++ t ≠ []) (hlo : lo ≤ H.size) (hlen : pre.length + t.length ≤ 2 ^ 40) {k : Int × Value → Heap → Prop} (hk : ∀ d H', Upd (lo ≤ ·) H H' → W0 lo H' b (pre ++ t) tabs → k d H') :
    CallT Pg fQcl [.pointer (some (adr b)), .string ⟨⟨t⟩⟩] (.tup [(.c (.int .i64)), (.c .raw)]) H k := by
  refine cQb2 _ _ ?_
  unfold vQb2
  have hlb := h.lo
  refine s_copyCheck h fun H1 L hU1 r1 v1 o1 n1 => ?_
  simp only [NilCk_some, adr_add]
  have hs1 := hU1.size
  refine Ld_sl ((r1.cell 1).trans rfl) (AppStr_vec v1 (by decide) (by simp [u8s]; omega) fun L2 H2 v2 hU2 ha2 _ => ?_)
  have hbL : L.a ≠ some (adr b) := fun e => (o1 b e).2 rfl
  have r2 := hU2.row r1 hbL
  refine St_row r2 (by simp) fun H3 hU3 _ hr3 => ?_
  have hbl : ∀ c, L2.a = some (adr c) → lo ≤ c ∧ c ≠ b := fun c hc => by
    rcases ha2 with e | e
    · exact o1 c (e.symm.trans hc)
    · rw [hc] at e
      have : c = H1.size := by simpa [adr] using e
      have := r1.lt
      omega
  refine hk _ H3 (((hU1.mono fun x _ e => by omega).trans (hU2.mono fun x _ e => (o1 x e).1) fun _ _ e => e).trans hU3 fun x _ e => by omega) ⟨⟨_, L2, hr3, .inr rfl, ?_, hbl, fun e => absurd e hne⟩, h.lo⟩
  rw [u8s_app]
  exact v2.upd hU3 fun c hc e => (hbl c hc).2 e
theorem s_WriteByte0 (h : W0 lo H b pre tabs) (c : UInt8) {n : Int} (hn : n = (c.toNat : Int)) (hlo : lo ≤ H.size) (hlen : pre.length + 1 ≤ 2 ^ 40) {k : Value → Heap → Prop} (hk : ∀ d H', Upd (lo ≤ ·) H H' → W0 lo H' b (pre ++ [c]) tabs → k d H') :
    CallT Pg fQcn [.pointer (some (adr b)), .int .u8 n] (.one (.c .raw)) H k := by
  subst hn
  refine cQb4 _ _ ?_
  unfold vQb4
  have hlb := h.lo
  refine s_copyCheck h fun H1 L hU1 r1 v1 o1 n1 => ?_
  simp only [NilCk_some, adr_add]
  have hs1 := hU1.size
  refine Ld_sl ((r1.cell 1).trans rfl) (Nw_row (vs := u8s [c]) fun b2 H2 hb2 hE2 _ hr2 => ?_)
  have v2 := v1.upd hE2 fun _ _ h => h
  have r2 := hE2.row r1 fun h => h
  have hs2 := hE2.size
  refine App_vec (ws := u8s [c]) v2 hr2.rd_all rfl (u8s_one _) (by decide) (by simp [u8s]; omega) fun L3 H3 v3 hU3 ha3 _ => ?_
  have hbL : ¬ (L.a = some (adr b) ∧ L.len + 1 ≤ L.cap ∧ u8s [c] ≠ []) := fun e => (o1 b e.1).2 rfl
  have r3 := hU3.row r2 hbL
  refine St_row r3 (by simp) fun H4 hU4 _ hr4 => ?_
  have hbl : ∀ c, L3.a = some (adr c) → lo ≤ c ∧ c ≠ b := fun c hc => by
    rcases ha3 with e | e
    · exact o1 c (e.symm.trans hc)
    · rw [hc] at e
      have : c = H2.size := by simpa [adr] using e
      have := r1.lt
      omega
  refine hk _ H4 ((((hU1.mono fun x _ e => by omega).trans hE2 fun _ _ e => e.elim).trans (hU3.mono fun x _ e => (o1 x e.1).1) fun _ _ e => e).trans hU4 fun x _ e => by omega) ⟨⟨_, L3, hr4, .inr rfl, ?_, hbl, fun e => by simp at e⟩, h.lo⟩
  rw [u8s_app]
  exact v3.upd hU4 fun c hc e => (hbl c hc).2 e
theorem s_String0 (h : W0 lo H b pre tabs) (hlen : pre.length ≤ 2 ^ 40) {k : ByteArray → Heap → Prop} (hk : ∀ H', Upd (lo ≤ ·) H H' → k ⟨⟨pre⟩⟩ H') :
    CallT Pg fQce [.pointer (some (adr b))] (.one (.c .str)) H k := by
  obtain ⟨p, L, h1, h2, h3, h4, h5⟩ := h.row
  have hl3 := h3.len
  by_cases e0 : pre = []
  · have eL := h5 e0
    subst e0 eL
    refine lib_call cb_String (fun w hw => str_nil b w ?_) fun w e w' hw ⟨g1, g2⟩ => ?_
    · show hcell w.heap _ = _; rw [hw]; exact (h1.cell 1).trans rfl
    · subst g2
      exact ⟨⟨rfl, rfl, rfl⟩, ⟨⟨[]⟩⟩, g1, hk _ (by show Upd _ H w.heap; rw [hw]; exact .refl _ _)⟩
  · rcases h3.own with ⟨_, _, hn⟩ | ⟨g, sp, hg1, hg2, hg3⟩
    · exact absurd (List.map_eq_nil_iff.1 hn) e0
    have hg := h4 g hg1
    obtain ⟨La, Ll, Lc⟩ := L
    dsimp only at hg1 hg3 hl3 h1
    subst hg1
    have hcap := h3.lc
    dsimp only at hcap
    have hl : Ll = pre.length := by rw [hl3]; simp [u8s]
    refine lib_call cb_String (fun w hw => str_full b g Ll Lc pre hl e0 hcap (by omega) w ?_ (u8s pre ++ sp).length ?_ (by rw [List.length_append, List.length_map]; omega) ?_) fun w e w' hw ⟨g1, g2⟩ => ?_
    · show hcell w.heap _ = _; rw [hw]; exact (h1.cell 1).trans rfl
    · show hshape w.heap _ = _; rw [hw]; unfold hshape; rw [show H[g]? = _ from hg2]; rfl
    · intro j x hx
      show hcell w.heap _ = _
      rw [hw, hg2.cell]
      have hj : j < pre.length := (List.getElem?_eq_some_iff.1 hx).1
      rw [List.getElem?_append_left (by simpa [u8s] using hj)]
      simp [u8s, hx]
    · subst g2
      refine ⟨(⟨rfl, rfl, rfl⟩ : SameEnv w w.drew).trans (.freeze _ _ _), ⟨⟨pre⟩⟩, g1, hk _ ?_⟩
      unfold World.freeze
      split
      · show Upd _ H w.heap; rw [hw]; exact .refl _ _
      · refine ⟨by show H.size ≤ (w.heap.modify _ _).size; rw [hw]; simp, fun x hx hnx => ?_⟩
        show (w.heap.modify _ _)[x]? = _
        rw [hw, Array.getElem?_modify, if_neg]
        intro e; exact hnx (by have : g = x := e; omega)
structure WR (lo : Nat) (H : Heap) (b : Nat) (pre : Txt) (tabs : Nat) : Prop where
  w : W0 lo H b pre tabs
  l8 : 8 ≤ lo
  los : lo ≤ H.size
  pow : PowH H
theorem WR.upd {H' : Heap} (h : WR lo H b pre tabs) (hU : Upd (lo ≤ ·) H H') {pre' : Txt} {tabs' : Nat} (hw : W0 lo H' b pre' tabs') : WR lo H' b pre' tabs' :=
  ⟨hw, h.l8, Nat.le_trans h.los hU.size, h.pow.nb hU (by have := h.l8; show ¬ lo ≤ 5; omega)⟩
theorem s_WS (h : WR lo H b pre tabs) (t : Txt) (hne : pre ++ t ≠ []) (hlen : pre.length + t.length ≤ 2 ^ 40) {k : Int × Value → Heap → Prop} (hk : ∀ d H', Upd (lo ≤ ·) H H' → WR lo H' b (pre ++ t) tabs → k d H') :
    CallT Pg fQcl [.pointer (some (adr b)), .string ⟨⟨t⟩⟩] (.tup [(.c (.int .i64)), (.c .raw)]) H k :=
  s_WriteString0 h.w t hne h.los hlen fun d H' hU hw => hk d H' hU (h.upd hU hw)
theorem s_WB (h : WR lo H b pre tabs) (c : UInt8) {n : Int} (hn : n = (c.toNat : Int)) (hlen : pre.length + 1 ≤ 2 ^ 40) {k : Value → Heap → Prop} (hk : ∀ d H', Upd (lo ≤ ·) H H' → WR lo H' b (pre ++ [c]) tabs → k d H') :
    CallT Pg fQcn [.pointer (some (adr b)), .int .u8 n] (.one (.c .raw)) H k :=
  s_WriteByte0 h.w c hn h.los hlen fun d H' hU hw => hk d H' hU (h.upd hU hw)
theorem cb_FormatInt : Cb Pg fQc2 := ⟨_, Tryz.func177, by kernel_rfl, by kernel_rfl⟩
theorem cb_Join : Cb Pg fQcs := ⟨_, Tryz.func94, by kernel_rfl, by kernel_rfl⟩
theorem g5 : Tryz.prog.globalNamed "internal/strconv.uint64pow10" = some 5 := by kernel_rfl
theorem s_FormatInt (hp : PowH H) {n : Int} (h0 : 0 ≤ n) (h1 : n ≤ 9223372036854775807) {k : ByteArray → Heap → Prop} (hk : ∀ H', Ext H H' → k ⟨⟨digs10 n⟩⟩ H') :
    CallT Pg fQc2 [.int .i64 n, .int .i64 10] (.one (.c .str)) H k := by
  refine lib_call cb_FormatInt (fun w hw => Tryz.strconv_FormatInt_10 n (by omega) h1 w ?_) fun w e w' hw ⟨g1, kk, os, g2⟩ => ?_
  · obtain ⟨t, fr, h⟩ := hp
    unfold Lib.TabIs World.var?
    rw [g5]
    show (match w.heap[5]? with | some (.cells cs _ _) => some cs | _ => none) = _
    rw [hw, h]
  · subst g2
    have e1 : Lib.itoa n = digs10 n := by unfold Lib.itoa digs10; rw [if_neg (by omega)]
    rw [e1] at g1
    refine ⟨⟨rfl, rfl, rfl⟩, ⟨⟨digs10 n⟩⟩, g1, hk _ ?_⟩
    show Ext H ((w.drewN kk).heap ++ os)
    rw [World.heap_drewN, hw]
    exact ⟨by simp, fun x hx _ => by rw [Array.getElem?_append_left hx]⟩
theorem join_com : ∀ (b : Bool) (xs : List Txt), comF b xs = (if b || xs.isEmpty then [] else [44, 32]) ++ Lib.join xs [44, 32]
  | b, [] => by simp [comF, Lib.join]
  | b, [x] => by cases b <;> simp [comF, Lib.join]
  | b, x :: y :: r => by
    have := join_com false (y :: r)
    rw [comF, this]
    cases b <;> simp [Lib.join, List.intercalate, List.intersperse]
theorem s_Join {L : Sl} {xs : List Txt} (hv : Vec H TQae L (xs.map strV)) (hn : xs.length ≤ 2 ^ 40) (hlen : (comF true xs).length ≤ 2 ^ 40) {k : ByteArray → Heap → Prop} (hk : ∀ H', Ext H H' → k ⟨⟨comF true xs⟩⟩ H') :
    CallT Pg fQcs [.slice L.a L.len L.cap, .string ⟨⟨[44, 32]⟩⟩] (.one (.c .str)) H k := by
  have hl := hv.len
  have hj : comF true xs = Lib.join xs [44, 32] := by rw [join_com]; simp
  rcases hv.own with ⟨h1, h2, h3⟩ | ⟨bk, sp, h1, h2, h3⟩
  · have e : xs = [] := List.map_eq_nil_iff.1 h3
    subst e
    have hl0 : L.len = 0 := by simpa using hl
    rw [hl0]
    exact lib_call cb_Join (fun w hw => Tryz.strings_Join_none L.a L.cap _ w) fun w e w' hw ⟨g1, g2⟩ => by subst g2; exact ⟨.refl _, ⟨⟨[]⟩⟩, g1, by rw [hw]; exact hk _ (.refl _ _)⟩
  · have hl' : L.len = xs.length := by simpa using hl
    rw [h1, hl']
    have em : (xs.map fun t => (⟨⟨t⟩⟩ : ByteArray)).map (fun x => x.data.toList) = xs := by
      rw [List.map_map]
      exact (List.map_congr_left fun _ _ => rfl).trans (List.map_id xs)
    have hcap := hv.lc
    refine lib_call cb_Join (fun w hw => ?_) ?_ (post := fun w e w' => e = .returned (.string ⟨(Lib.join xs [44, 32]).toArray⟩) ∧ Below w.heap.size w w')
    · have := Tryz.strings_Join bk 0 L.cap (xs.map fun t => (⟨⟨t⟩⟩ : ByteArray)) ⟨⟨[44, 32]⟩⟩ w ?_ ?_ (by simp; omega) (by simp; omega) ?_
      · rw [em, List.length_map] at this; exact this
      · intro j x hx
        rw [List.getElem?_map] at hx
        obtain ⟨t, ht, rfl⟩ := Option.map_eq_some_iff.1 hx
        show hcell w.heap _ = _
        rw [hw, Nat.zero_add, h2.cell]
        have hj : j < xs.length := (List.getElem?_eq_some_iff.1 ht).1
        rw [List.getElem?_append_left (by simpa using hj)]
        simp [ht]
      · rw [hw]; exact h2.lt
      · rw [em]; show (Lib.join xs [44, 32]).length ≤ _; rw [← hj]; omega
    · rintro w e w' hw ⟨g1, g2⟩
      refine ⟨⟨g2.tape, g2.os, g2.output⟩, ⟨⟨comF true xs⟩⟩, by rw [hj]; exact g1, hk _ ?_⟩
      rw [← hw]
      exact ⟨g2.size, fun x hx _ => g2.block x hx⟩
end
end Go.Proofs.YtfpmgpblhhcpgaaGreatDoor
