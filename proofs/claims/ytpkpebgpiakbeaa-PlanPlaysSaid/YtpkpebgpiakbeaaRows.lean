/-
  No cell of these rows narrows 'for every input' (looked for: loops, veiled, ifaces, maps, wideKeys, modest, calm, conditions, laid).
  DERIVED. THE GIVEN ROWS OF THIS SEAT. 9 by the template 'for every input the law returns true; each argument reads behind the call as it read before'; 0 by the template 'total and deterministic' (their statements: YtpkpebgpiakbeaaTotals.lean).
  GIVEN WITH THE SEED: the statements are not yours to turn. If you find one false, say at which input.
  Laid BY PROGRAM, IN A SANDBOX (cutbox-rows.mjs): the forced cells as the released guide's own fill.sh prints them over the translation 50c44d1d840ffacb… (all of the seat's roots in one cut). By AI agents, Wed Nov 11 2026. No macro, syntax, notation, axiom, sorry.
-/
import Derived.Test.YtpkpebgpiakbeaaChecked
import GoSem.Claim
import GoSem.ClaimJoined
import GoSem.ClaimMapViews
import Derived.JoinedTies
import Derived.KernelRfl
namespace Go.Proofs.Ytpkpebgpiakbeaa
/- THE CELL 'sum', in the pinned program and in every row, IS THE sha256 OF THE DUMP (.gsa) THAT YtpkpebgpiakbeaaProg.lean LOADS. Nothing in Lean hashes anything: it is a label: what it is worth is what the hold of that sum in a sandbox is worth. -/
noncomputable def Try.pinned : Pinned := { name := "ytpkpebgpiakbeaa", sum := "50c44d1d840ffacb582cfd424c3cc3822575b624e7b6d28cb52a979d339de36a", checked := Try.checked }
namespace Rows
def none {H : Type} : Left H := { results := [], args := [] }

/-- 'hindcastlaw08.DiceMixes': WHATEVER THE INPUT: true; the input reads as it did. -/
def diceMixesSpec : ChangeSpec := { name := "diceMixes", fn := fun _ => fun
  | [d] => { results := [.lit (.bool true)], args := [d] }
  | _ => none }
def diceMixesRow : OpenClaim := { program := "ytpkpebgpiakbeaa", sum := "50c44d1d840ffacb582cfd424c3cc3822575b624e7b6d28cb52a979d339de36a", func := "hindcast/hindcastlaw08.DiceMixes", spec := "diceMixes", apart := false }
def DiceMixesSaid : Prop := diceMixesRow.holds Try.pinned (OpenSpec.ofChange diceMixesSpec)

/-- ITS FALSE NEIGHBOUR: 'it returns false'. Refute it at one input. -/
def diceMixesWrong : ChangeSpec := { name := "diceMixes", fn := fun _ => fun
  | [d] => { results := [.lit (.bool false)], args := [d] }
  | _ => none }
def DiceMixesWrongFalsely : Prop := diceMixesRow.holds Try.pinned (OpenSpec.ofChange diceMixesWrong)

/-- 'hindcastlaw08.DiceRolls': WHATEVER THE INPUT: true; the input reads as it did. -/
def diceRollsSpec : ChangeSpec := { name := "diceRolls", fn := fun _ => fun
  | [d1, d2, d3] => { results := [.lit (.bool true)], args := [d1, d2, d3] }
  | _ => none }
def diceRollsRow : OpenClaim := { program := "ytpkpebgpiakbeaa", sum := "50c44d1d840ffacb582cfd424c3cc3822575b624e7b6d28cb52a979d339de36a", func := "hindcast/hindcastlaw08.DiceRolls", spec := "diceRolls", apart := false }
def DiceRollsSaid : Prop := diceRollsRow.holds Try.pinned (OpenSpec.ofChange diceRollsSpec)

/-- ITS FALSE NEIGHBOUR: 'it returns false'. Refute it at one input. -/
def diceRollsWrong : ChangeSpec := { name := "diceRolls", fn := fun _ => fun
  | [d1, d2, d3] => { results := [.lit (.bool false)], args := [d1, d2, d3] }
  | _ => none }
def DiceRollsWrongFalsely : Prop := diceRollsRow.holds Try.pinned (OpenSpec.ofChange diceRollsWrong)

/-- 'hindcastlaw08.DiceBounds': WHATEVER THE INPUT: true; the input reads as it did. -/
def diceBoundsSpec : ChangeSpec := { name := "diceBounds", fn := fun _ => fun
  | [d1, d2, d3, d4, d5] => { results := [.lit (.bool true)], args := [d1, d2, d3, d4, d5] }
  | _ => none }
def diceBoundsRow : OpenClaim := { program := "ytpkpebgpiakbeaa", sum := "50c44d1d840ffacb582cfd424c3cc3822575b624e7b6d28cb52a979d339de36a", func := "hindcast/hindcastlaw08.DiceBounds", spec := "diceBounds", apart := false }
def DiceBoundsSaid : Prop := diceBoundsRow.holds Try.pinned (OpenSpec.ofChange diceBoundsSpec)

/-- ITS FALSE NEIGHBOUR: 'it returns false'. Refute it at one input. -/
def diceBoundsWrong : ChangeSpec := { name := "diceBounds", fn := fun _ => fun
  | [d1, d2, d3, d4, d5] => { results := [.lit (.bool false)], args := [d1, d2, d3, d4, d5] }
  | _ => none }
def DiceBoundsWrongFalsely : Prop := diceBoundsRow.holds Try.pinned (OpenSpec.ofChange diceBoundsWrong)

/-- 'hindcastlaw03.StoreLasts': WHATEVER THE INPUT: true; the input reads as it did. -/
def storeLastsSpec : ChangeSpec := { name := "storeLasts", fn := fun _ => fun
  | [d1, d2] => { results := [.lit (.bool true)], args := [d1, d2] }
  | _ => none }
def storeLastsRow : OpenClaim := { program := "ytpkpebgpiakbeaa", sum := "50c44d1d840ffacb582cfd424c3cc3822575b624e7b6d28cb52a979d339de36a", func := "hindcast/hindcastlaw03.StoreLasts", spec := "storeLasts", apart := false }
def StoreLastsSaid : Prop := storeLastsRow.holds Try.pinned (OpenSpec.ofChange storeLastsSpec)

/-- ITS FALSE NEIGHBOUR: 'it returns false'. Refute it at one input. -/
def storeLastsWrong : ChangeSpec := { name := "storeLasts", fn := fun _ => fun
  | [d1, d2] => { results := [.lit (.bool false)], args := [d1, d2] }
  | _ => none }
def StoreLastsWrongFalsely : Prop := storeLastsRow.holds Try.pinned (OpenSpec.ofChange storeLastsWrong)

/-- 'hindcastlaw03.StoreFuses': WHATEVER THE INPUT: true; the input reads as it did. -/
def storeFusesSpec : ChangeSpec := { name := "storeFuses", fn := fun _ => fun
  | [d1, d2] => { results := [.lit (.bool true)], args := [d1, d2] }
  | _ => none }
def storeFusesRow : OpenClaim := { program := "ytpkpebgpiakbeaa", sum := "50c44d1d840ffacb582cfd424c3cc3822575b624e7b6d28cb52a979d339de36a", func := "hindcast/hindcastlaw03.StoreFuses", spec := "storeFuses", apart := false }
def StoreFusesSaid : Prop := storeFusesRow.holds Try.pinned (OpenSpec.ofChange storeFusesSpec)

/-- ITS FALSE NEIGHBOUR: 'it returns false'. Refute it at one input. -/
def storeFusesWrong : ChangeSpec := { name := "storeFuses", fn := fun _ => fun
  | [d1, d2] => { results := [.lit (.bool false)], args := [d1, d2] }
  | _ => none }
def StoreFusesWrongFalsely : Prop := storeFusesRow.holds Try.pinned (OpenSpec.ofChange storeFusesWrong)

/-- 'hindcastlaw03.StorePlays': WHATEVER THE INPUT: true; the input reads as it did. -/
def storePlaysSpec : ChangeSpec := { name := "storePlays", fn := fun _ => fun
  | [d1, d2, d3] => { results := [.lit (.bool true)], args := [d1, d2, d3] }
  | _ => none }
def storePlaysRow : OpenClaim := { program := "ytpkpebgpiakbeaa", sum := "50c44d1d840ffacb582cfd424c3cc3822575b624e7b6d28cb52a979d339de36a", func := "hindcast/hindcastlaw03.StorePlays", spec := "storePlays", apart := false }
def StorePlaysSaid : Prop := storePlaysRow.holds Try.pinned (OpenSpec.ofChange storePlaysSpec)

/-- ITS FALSE NEIGHBOUR: 'it returns false'. Refute it at one input. -/
def storePlaysWrong : ChangeSpec := { name := "storePlays", fn := fun _ => fun
  | [d1, d2, d3] => { results := [.lit (.bool false)], args := [d1, d2, d3] }
  | _ => none }
def StorePlaysWrongFalsely : Prop := storePlaysRow.holds Try.pinned (OpenSpec.ofChange storePlaysWrong)

/-- 'hindcastlaw18.PlanPlays': WHATEVER THE INPUT: true; the input reads as it did. -/
def planPlaysSpec : ChangeSpec := { name := "planPlays", fn := fun _ => fun
  | [d1, d2, d3, d4, d5, d6] => { results := [.lit (.bool true)], args := [d1, d2, d3, d4, d5, d6] }
  | _ => none }
def planPlaysRow : OpenClaim := { program := "ytpkpebgpiakbeaa", sum := "50c44d1d840ffacb582cfd424c3cc3822575b624e7b6d28cb52a979d339de36a", func := "hindcast/hindcastlaw18.PlanPlays", spec := "planPlays", unfollowed := true, recurses := true, apart := false }
def PlanPlaysSaid : Prop := planPlaysRow.holds Try.pinned (OpenSpec.ofChange planPlaysSpec)

/-- ITS FALSE NEIGHBOUR: 'it returns false'. Refute it at one input. -/
def planPlaysWrong : ChangeSpec := { name := "planPlays", fn := fun _ => fun
  | [d1, d2, d3, d4, d5, d6] => { results := [.lit (.bool false)], args := [d1, d2, d3, d4, d5, d6] }
  | _ => none }
def PlanPlaysWrongFalsely : Prop := planPlaysRow.holds Try.pinned (OpenSpec.ofChange planPlaysWrong)

/-- 'hindcastlaw18.PlanLegal': WHATEVER THE INPUT: true; the input reads as it did. -/
def planLegalSpec : ChangeSpec := { name := "planLegal", fn := fun _ => fun
  | [d1, d2] => { results := [.lit (.bool true)], args := [d1, d2] }
  | _ => none }
def planLegalRow : OpenClaim := { program := "ytpkpebgpiakbeaa", sum := "50c44d1d840ffacb582cfd424c3cc3822575b624e7b6d28cb52a979d339de36a", func := "hindcast/hindcastlaw18.PlanLegal", spec := "planLegal", unfollowed := true, recurses := true, apart := false }
def PlanLegalSaid : Prop := planLegalRow.holds Try.pinned (OpenSpec.ofChange planLegalSpec)

/-- ITS FALSE NEIGHBOUR: 'it returns false'. Refute it at one input. -/
def planLegalWrong : ChangeSpec := { name := "planLegal", fn := fun _ => fun
  | [d1, d2] => { results := [.lit (.bool false)], args := [d1, d2] }
  | _ => none }
def PlanLegalWrongFalsely : Prop := planLegalRow.holds Try.pinned (OpenSpec.ofChange planLegalWrong)

/-- 'hindcastlaw18.PlanSwaps': WHATEVER THE INPUT: true; the input reads as it did. -/
def planSwapsSpec : ChangeSpec := { name := "planSwaps", fn := fun _ => fun
  | [d1, d2, d3] => { results := [.lit (.bool true)], args := [d1, d2, d3] }
  | _ => none }
def planSwapsRow : OpenClaim := { program := "ytpkpebgpiakbeaa", sum := "50c44d1d840ffacb582cfd424c3cc3822575b624e7b6d28cb52a979d339de36a", func := "hindcast/hindcastlaw18.PlanSwaps", spec := "planSwaps", unfollowed := true, recurses := true, apart := false }
def PlanSwapsSaid : Prop := planSwapsRow.holds Try.pinned (OpenSpec.ofChange planSwapsSpec)

/-- ITS FALSE NEIGHBOUR: 'it returns false'. Refute it at one input. -/
def planSwapsWrong : ChangeSpec := { name := "planSwaps", fn := fun _ => fun
  | [d1, d2, d3] => { results := [.lit (.bool false)], args := [d1, d2, d3] }
  | _ => none }
def PlanSwapsWrongFalsely : Prop := planSwapsRow.holds Try.pinned (OpenSpec.ofChange planSwapsWrong)

/- THE SECOND FORM. 'bulk': how many values and letters a reading holds, each counted each time it is reached (what is shared counts as often as it is met; a slice's spare places count too). A statement '..UptoSaid' is the law's where the arguments, and the package variables that the reading takes, are together of bulk at most 1048576: NARROWER than '..Said'. Prove '..Said' where nothing that the law and all that it calls make is longer than what came in: it says more and counts as full. Else prove '..UptoSaid'. A law counts once. -/
mutual
def uptoBulk {H : Type} : DataW H → Nat
  | .lit (.string bytes) => bytes.length + 1
  | .lit _ => 1
  | .nil => 1
  | .ptr d => uptoBulk d + 1
  | .slice elems spare => uptoBulkAll elems + uptoBulkAll spare + 1
  | .agg parts => uptoBulkAll parts + 1
  | .iface _ d => uptoBulk d + 1
  | .map entries => uptoBulkEntries entries + 1
  | .held _ => 1
def uptoBulkAll {H : Type} : List (DataW H) → Nat
  | [] => 0
  | d :: r => uptoBulk d + uptoBulkAll r
def uptoBulkEntries {H : Type} : List (Lit × DataW H) → Nat
  | [] => 0
  | x :: r => uptoBulkEntry x + uptoBulkEntries r
def uptoBulkEntry {H : Type} : Lit × DataW H → Nat
  | (.string bytes, d) => bytes.length + uptoBulk d + 1
  | (_, d) => uptoBulk d + 1
 end
def uptoSmall : (H : Type) → List (DataW H) → Bool := fun _ ds => decide (uptoBulkAll ds ≤ 1048576)
def OpenSpec.upto (s : _root_.Go.ChangeSpec) : _root_.Go.OpenSpec := { _root_.Go.OpenSpec.ofChange s with cond := some uptoSmall }

/-- 'hindcastlaw08.DiceMixes', WHERE WHAT IT READS IS OF BULK AT MOST 1048576: true; the input reads as it did. -/
def diceMixesUptoRow : OpenClaim := { program := "ytpkpebgpiakbeaa", sum := "50c44d1d840ffacb582cfd424c3cc3822575b624e7b6d28cb52a979d339de36a", func := "hindcast/hindcastlaw08.DiceMixes", spec := "diceMixes", apart := false, narrowed := true }
def DiceMixesUptoSaid : Prop := diceMixesUptoRow.holds Try.pinned (OpenSpec.upto diceMixesSpec)

/-- 'hindcastlaw08.DiceRolls', WHERE WHAT IT READS IS OF BULK AT MOST 1048576: true; the input reads as it did. -/
def diceRollsUptoRow : OpenClaim := { program := "ytpkpebgpiakbeaa", sum := "50c44d1d840ffacb582cfd424c3cc3822575b624e7b6d28cb52a979d339de36a", func := "hindcast/hindcastlaw08.DiceRolls", spec := "diceRolls", apart := false, narrowed := true }
def DiceRollsUptoSaid : Prop := diceRollsUptoRow.holds Try.pinned (OpenSpec.upto diceRollsSpec)

/-- 'hindcastlaw08.DiceBounds', WHERE WHAT IT READS IS OF BULK AT MOST 1048576: true; the input reads as it did. -/
def diceBoundsUptoRow : OpenClaim := { program := "ytpkpebgpiakbeaa", sum := "50c44d1d840ffacb582cfd424c3cc3822575b624e7b6d28cb52a979d339de36a", func := "hindcast/hindcastlaw08.DiceBounds", spec := "diceBounds", apart := false, narrowed := true }
def DiceBoundsUptoSaid : Prop := diceBoundsUptoRow.holds Try.pinned (OpenSpec.upto diceBoundsSpec)

/-- 'hindcastlaw03.StoreLasts', WHERE WHAT IT READS IS OF BULK AT MOST 1048576: true; the input reads as it did. -/
def storeLastsUptoRow : OpenClaim := { program := "ytpkpebgpiakbeaa", sum := "50c44d1d840ffacb582cfd424c3cc3822575b624e7b6d28cb52a979d339de36a", func := "hindcast/hindcastlaw03.StoreLasts", spec := "storeLasts", apart := false, narrowed := true }
def StoreLastsUptoSaid : Prop := storeLastsUptoRow.holds Try.pinned (OpenSpec.upto storeLastsSpec)

/-- 'hindcastlaw03.StoreFuses', WHERE WHAT IT READS IS OF BULK AT MOST 1048576: true; the input reads as it did. -/
def storeFusesUptoRow : OpenClaim := { program := "ytpkpebgpiakbeaa", sum := "50c44d1d840ffacb582cfd424c3cc3822575b624e7b6d28cb52a979d339de36a", func := "hindcast/hindcastlaw03.StoreFuses", spec := "storeFuses", apart := false, narrowed := true }
def StoreFusesUptoSaid : Prop := storeFusesUptoRow.holds Try.pinned (OpenSpec.upto storeFusesSpec)

/-- 'hindcastlaw03.StorePlays', WHERE WHAT IT READS IS OF BULK AT MOST 1048576: true; the input reads as it did. -/
def storePlaysUptoRow : OpenClaim := { program := "ytpkpebgpiakbeaa", sum := "50c44d1d840ffacb582cfd424c3cc3822575b624e7b6d28cb52a979d339de36a", func := "hindcast/hindcastlaw03.StorePlays", spec := "storePlays", apart := false, narrowed := true }
def StorePlaysUptoSaid : Prop := storePlaysUptoRow.holds Try.pinned (OpenSpec.upto storePlaysSpec)

/-- 'hindcastlaw18.PlanPlays', WHERE WHAT IT READS IS OF BULK AT MOST 1048576: true; the input reads as it did. -/
def planPlaysUptoRow : OpenClaim := { program := "ytpkpebgpiakbeaa", sum := "50c44d1d840ffacb582cfd424c3cc3822575b624e7b6d28cb52a979d339de36a", func := "hindcast/hindcastlaw18.PlanPlays", spec := "planPlays", unfollowed := true, recurses := true, apart := false, narrowed := true }
def PlanPlaysUptoSaid : Prop := planPlaysUptoRow.holds Try.pinned (OpenSpec.upto planPlaysSpec)

/-- 'hindcastlaw18.PlanLegal', WHERE WHAT IT READS IS OF BULK AT MOST 1048576: true; the input reads as it did. -/
def planLegalUptoRow : OpenClaim := { program := "ytpkpebgpiakbeaa", sum := "50c44d1d840ffacb582cfd424c3cc3822575b624e7b6d28cb52a979d339de36a", func := "hindcast/hindcastlaw18.PlanLegal", spec := "planLegal", unfollowed := true, recurses := true, apart := false, narrowed := true }
def PlanLegalUptoSaid : Prop := planLegalUptoRow.holds Try.pinned (OpenSpec.upto planLegalSpec)

/-- 'hindcastlaw18.PlanSwaps', WHERE WHAT IT READS IS OF BULK AT MOST 1048576: true; the input reads as it did. -/
def planSwapsUptoRow : OpenClaim := { program := "ytpkpebgpiakbeaa", sum := "50c44d1d840ffacb582cfd424c3cc3822575b624e7b6d28cb52a979d339de36a", func := "hindcast/hindcastlaw18.PlanSwaps", spec := "planSwaps", unfollowed := true, recurses := true, apart := false, narrowed := true }
def PlanSwapsUptoSaid : Prop := planSwapsUptoRow.holds Try.pinned (OpenSpec.upto planSwapsSpec)

end Rows
end Go.Proofs.Ytpkpebgpiakbeaa
