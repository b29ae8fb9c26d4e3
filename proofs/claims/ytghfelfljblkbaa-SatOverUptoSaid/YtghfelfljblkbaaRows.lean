/-
  No cell of these rows narrows 'for every input' (looked for: loops, veiled, ifaces, maps, wideKeys, modest, calm, conditions, laid).
  DERIVED. THE GIVEN ROWS OF THIS SEAT. 19 by the template 'for every input the law returns true; each argument reads behind the call as it read before'; 0 by the template 'total and deterministic' (their statements: YtghfelfljblkbaaTotals.lean).
  GIVEN WITH THE SEED: the statements are not yours to turn. If you find one false, say at which input.
  Laid BY PROGRAM, IN A SANDBOX (cutbox-rows.mjs): the forced cells as the released guide's own fill.sh prints them over the translation ed8ae94c6ab8e752… (all of the seat's roots in one cut). By AI agents, Wed Nov 11 2026. No macro, syntax, notation, axiom, sorry.
-/
import Derived.Test.YtghfelfljblkbaaChecked
import GoSem.Claim
import GoSem.ClaimJoined
import GoSem.ClaimMapViews
import Derived.JoinedTies
import Derived.KernelRfl
namespace Go.Proofs.Ytghfelfljblkbaa
/- THE CELL 'sum', in the pinned program and in every row, IS THE sha256 OF THE DUMP (.gsa) THAT YtghfelfljblkbaaProg.lean LOADS. Nothing in Lean hashes anything: it is a label: what it is worth is what the hold of that sum in a sandbox is worth. -/
noncomputable def Try.pinned : Pinned := { name := "ytghfelfljblkbaa", sum := "ed8ae94c6ab8e7520c08d8ba08ab563b7bcf1f4f954b0f7cbbdfa981ab01a91e", checked := Try.checked }
namespace Rows
def none {H : Type} : Left H := { results := [], args := [] }

/-- 'chandlerlaw13.CnfTidies': WHATEVER THE INPUT: true; the input reads as it did. -/
def cnfTidiesSpec : ChangeSpec := { name := "cnfTidies", fn := fun _ => fun
  | [d] => { results := [.lit (.bool true)], args := [d] }
  | _ => none }
def cnfTidiesRow : OpenClaim := { program := "ytghfelfljblkbaa", sum := "ed8ae94c6ab8e7520c08d8ba08ab563b7bcf1f4f954b0f7cbbdfa981ab01a91e", func := "chandler/chandlerlaw13.CnfTidies", spec := "cnfTidies", unfollowed := true, recurses := true, apart := false }
def CnfTidiesSaid : Prop := cnfTidiesRow.holds Try.pinned (OpenSpec.ofChange cnfTidiesSpec)

/-- ITS FALSE NEIGHBOUR: 'it returns false'. Refute it at one input. -/
def cnfTidiesWrong : ChangeSpec := { name := "cnfTidies", fn := fun _ => fun
  | [d] => { results := [.lit (.bool false)], args := [d] }
  | _ => none }
def CnfTidiesWrongFalsely : Prop := cnfTidiesRow.holds Try.pinned (OpenSpec.ofChange cnfTidiesWrong)

/-- 'chandlerlaw13.CnfMore': WHATEVER THE INPUT: true; the input reads as it did. -/
def cnfMoreSpec : ChangeSpec := { name := "cnfMore", fn := fun _ => fun
  | [d1, d2, d3, d4] => { results := [.lit (.bool true)], args := [d1, d2, d3, d4] }
  | _ => none }
def cnfMoreRow : OpenClaim := { program := "ytghfelfljblkbaa", sum := "ed8ae94c6ab8e7520c08d8ba08ab563b7bcf1f4f954b0f7cbbdfa981ab01a91e", func := "chandler/chandlerlaw13.CnfMore", spec := "cnfMore", unfollowed := true, recurses := true, apart := false }
def CnfMoreSaid : Prop := cnfMoreRow.holds Try.pinned (OpenSpec.ofChange cnfMoreSpec)

/-- ITS FALSE NEIGHBOUR: 'it returns false'. Refute it at one input. -/
def cnfMoreWrong : ChangeSpec := { name := "cnfMore", fn := fun _ => fun
  | [d1, d2, d3, d4] => { results := [.lit (.bool false)], args := [d1, d2, d3, d4] }
  | _ => none }
def CnfMoreWrongFalsely : Prop := cnfMoreRow.holds Try.pinned (OpenSpec.ofChange cnfMoreWrong)

/-- 'chandlerlaw13.CnfHolds': WHATEVER THE INPUT: true; the input reads as it did. -/
def cnfHoldsSpec : ChangeSpec := { name := "cnfHolds", fn := fun _ => fun
  | [d1, d2, d3, d4] => { results := [.lit (.bool true)], args := [d1, d2, d3, d4] }
  | _ => none }
def cnfHoldsRow : OpenClaim := { program := "ytghfelfljblkbaa", sum := "ed8ae94c6ab8e7520c08d8ba08ab563b7bcf1f4f954b0f7cbbdfa981ab01a91e", func := "chandler/chandlerlaw13.CnfHolds", spec := "cnfHolds", unfollowed := true, recurses := true, apart := false }
def CnfHoldsSaid : Prop := cnfHoldsRow.holds Try.pinned (OpenSpec.ofChange cnfHoldsSpec)

/-- ITS FALSE NEIGHBOUR: 'it returns false'. Refute it at one input. -/
def cnfHoldsWrong : ChangeSpec := { name := "cnfHolds", fn := fun _ => fun
  | [d1, d2, d3, d4] => { results := [.lit (.bool false)], args := [d1, d2, d3, d4] }
  | _ => none }
def CnfHoldsWrongFalsely : Prop := cnfHoldsRow.holds Try.pinned (OpenSpec.ofChange cnfHoldsWrong)

/-- 'chandlerlaw13.CnfMany': WHATEVER THE INPUT: true; the input reads as it did. -/
def cnfManySpec : ChangeSpec := { name := "cnfMany", fn := fun _ => fun
  | [d] => { results := [.lit (.bool true)], args := [d] }
  | _ => none }
def cnfManyRow : OpenClaim := { program := "ytghfelfljblkbaa", sum := "ed8ae94c6ab8e7520c08d8ba08ab563b7bcf1f4f954b0f7cbbdfa981ab01a91e", func := "chandler/chandlerlaw13.CnfMany", spec := "cnfMany", unfollowed := true, recurses := true, apart := false }
def CnfManySaid : Prop := cnfManyRow.holds Try.pinned (OpenSpec.ofChange cnfManySpec)

/-- ITS FALSE NEIGHBOUR: 'it returns false'. Refute it at one input. -/
def cnfManyWrong : ChangeSpec := { name := "cnfMany", fn := fun _ => fun
  | [d] => { results := [.lit (.bool false)], args := [d] }
  | _ => none }
def CnfManyWrongFalsely : Prop := cnfManyRow.holds Try.pinned (OpenSpec.ofChange cnfManyWrong)

/-- 'chandlerlaw13.CnfOne': WHATEVER THE INPUT: true; the input reads as it did. -/
def cnfOneSpec : ChangeSpec := { name := "cnfOne", fn := fun _ => fun
  | [d1, d2, d3] => { results := [.lit (.bool true)], args := [d1, d2, d3] }
  | _ => none }
def cnfOneRow : OpenClaim := { program := "ytghfelfljblkbaa", sum := "ed8ae94c6ab8e7520c08d8ba08ab563b7bcf1f4f954b0f7cbbdfa981ab01a91e", func := "chandler/chandlerlaw13.CnfOne", spec := "cnfOne", unfollowed := true, recurses := true, apart := false }
def CnfOneSaid : Prop := cnfOneRow.holds Try.pinned (OpenSpec.ofChange cnfOneSpec)

/-- ITS FALSE NEIGHBOUR: 'it returns false'. Refute it at one input. -/
def cnfOneWrong : ChangeSpec := { name := "cnfOne", fn := fun _ => fun
  | [d1, d2, d3] => { results := [.lit (.bool false)], args := [d1, d2, d3] }
  | _ => none }
def CnfOneWrongFalsely : Prop := cnfOneRow.holds Try.pinned (OpenSpec.ofChange cnfOneWrong)

/-- 'chandlerlaw13.CnfAdds': WHATEVER THE INPUT: true; the input reads as it did. -/
def cnfAddsSpec : ChangeSpec := { name := "cnfAdds", fn := fun _ => fun
  | [d1, d2, d3] => { results := [.lit (.bool true)], args := [d1, d2, d3] }
  | _ => none }
def cnfAddsRow : OpenClaim := { program := "ytghfelfljblkbaa", sum := "ed8ae94c6ab8e7520c08d8ba08ab563b7bcf1f4f954b0f7cbbdfa981ab01a91e", func := "chandler/chandlerlaw13.CnfAdds", spec := "cnfAdds", unfollowed := true, recurses := true, apart := false }
def CnfAddsSaid : Prop := cnfAddsRow.holds Try.pinned (OpenSpec.ofChange cnfAddsSpec)

/-- ITS FALSE NEIGHBOUR: 'it returns false'. Refute it at one input. -/
def cnfAddsWrong : ChangeSpec := { name := "cnfAdds", fn := fun _ => fun
  | [d1, d2, d3] => { results := [.lit (.bool false)], args := [d1, d2, d3] }
  | _ => none }
def CnfAddsWrongFalsely : Prop := cnfAddsRow.holds Try.pinned (OpenSpec.ofChange cnfAddsWrong)

/-- 'chandlerlaw13.CnfNil': WHATEVER THE INPUT: true; the input reads as it did. -/
def cnfNilSpec : ChangeSpec := { name := "cnfNil", fn := fun _ => fun
  | [d1, d2] => { results := [.lit (.bool true)], args := [d1, d2] }
  | _ => none }
def cnfNilRow : OpenClaim := { program := "ytghfelfljblkbaa", sum := "ed8ae94c6ab8e7520c08d8ba08ab563b7bcf1f4f954b0f7cbbdfa981ab01a91e", func := "chandler/chandlerlaw13.CnfNil", spec := "cnfNil", unfollowed := true, recurses := true, apart := false }
def CnfNilSaid : Prop := cnfNilRow.holds Try.pinned (OpenSpec.ofChange cnfNilSpec)

/-- ITS FALSE NEIGHBOUR: 'it returns false'. Refute it at one input. -/
def cnfNilWrong : ChangeSpec := { name := "cnfNil", fn := fun _ => fun
  | [d1, d2] => { results := [.lit (.bool false)], args := [d1, d2] }
  | _ => none }
def CnfNilWrongFalsely : Prop := cnfNilRow.holds Try.pinned (OpenSpec.ofChange cnfNilWrong)

/-- 'chandlerlaw14.PropSound': WHATEVER THE INPUT: true; the input reads as it did. -/
def propSoundSpec : ChangeSpec := { name := "propSound", fn := fun _ => fun
  | [d1, d2, d3] => { results := [.lit (.bool true)], args := [d1, d2, d3] }
  | _ => none }
def propSoundRow : OpenClaim := { program := "ytghfelfljblkbaa", sum := "ed8ae94c6ab8e7520c08d8ba08ab563b7bcf1f4f954b0f7cbbdfa981ab01a91e", func := "chandler/chandlerlaw14.PropSound", spec := "propSound", unfollowed := true, recurses := true, apart := false }
def PropSoundSaid : Prop := propSoundRow.holds Try.pinned (OpenSpec.ofChange propSoundSpec)

/-- ITS FALSE NEIGHBOUR: 'it returns false'. Refute it at one input. -/
def propSoundWrong : ChangeSpec := { name := "propSound", fn := fun _ => fun
  | [d1, d2, d3] => { results := [.lit (.bool false)], args := [d1, d2, d3] }
  | _ => none }
def PropSoundWrongFalsely : Prop := propSoundRow.holds Try.pinned (OpenSpec.ofChange propSoundWrong)

/-- 'chandlerlaw14.PropPlays': WHATEVER THE INPUT: true; the input reads as it did. -/
def propPlaysSpec : ChangeSpec := { name := "propPlays", fn := fun _ => fun
  | [d1, d2, d3] => { results := [.lit (.bool true)], args := [d1, d2, d3] }
  | _ => none }
def propPlaysRow : OpenClaim := { program := "ytghfelfljblkbaa", sum := "ed8ae94c6ab8e7520c08d8ba08ab563b7bcf1f4f954b0f7cbbdfa981ab01a91e", func := "chandler/chandlerlaw14.PropPlays", spec := "propPlays", unfollowed := true, recurses := true, apart := false }
def PropPlaysSaid : Prop := propPlaysRow.holds Try.pinned (OpenSpec.ofChange propPlaysSpec)

/-- ITS FALSE NEIGHBOUR: 'it returns false'. Refute it at one input. -/
def propPlaysWrong : ChangeSpec := { name := "propPlays", fn := fun _ => fun
  | [d1, d2, d3] => { results := [.lit (.bool false)], args := [d1, d2, d3] }
  | _ => none }
def PropPlaysWrongFalsely : Prop := propPlaysRow.holds Try.pinned (OpenSpec.ofChange propPlaysWrong)

/-- 'chandlerlaw14.PropNil': WHATEVER THE INPUT: true; the input reads as it did. -/
def propNilSpec : ChangeSpec := { name := "propNil", fn := fun _ => fun
  | [d] => { results := [.lit (.bool true)], args := [d] }
  | _ => none }
def propNilRow : OpenClaim := { program := "ytghfelfljblkbaa", sum := "ed8ae94c6ab8e7520c08d8ba08ab563b7bcf1f4f954b0f7cbbdfa981ab01a91e", func := "chandler/chandlerlaw14.PropNil", spec := "propNil", unfollowed := true, recurses := true, apart := false }
def PropNilSaid : Prop := propNilRow.holds Try.pinned (OpenSpec.ofChange propNilSpec)

/-- ITS FALSE NEIGHBOUR: 'it returns false'. Refute it at one input. -/
def propNilWrong : ChangeSpec := { name := "propNil", fn := fun _ => fun
  | [d] => { results := [.lit (.bool false)], args := [d] }
  | _ => none }
def PropNilWrongFalsely : Prop := propNilRow.holds Try.pinned (OpenSpec.ofChange propNilWrong)

/-- 'chandlerlaw14.PropBack': WHATEVER THE INPUT: true; the input reads as it did. -/
def propBackSpec : ChangeSpec := { name := "propBack", fn := fun _ => fun
  | [d1, d2, d3] => { results := [.lit (.bool true)], args := [d1, d2, d3] }
  | _ => none }
def propBackRow : OpenClaim := { program := "ytghfelfljblkbaa", sum := "ed8ae94c6ab8e7520c08d8ba08ab563b7bcf1f4f954b0f7cbbdfa981ab01a91e", func := "chandler/chandlerlaw14.PropBack", spec := "propBack", unfollowed := true, recurses := true, apart := false }
def PropBackSaid : Prop := propBackRow.holds Try.pinned (OpenSpec.ofChange propBackSpec)

/-- ITS FALSE NEIGHBOUR: 'it returns false'. Refute it at one input. -/
def propBackWrong : ChangeSpec := { name := "propBack", fn := fun _ => fun
  | [d1, d2, d3] => { results := [.lit (.bool false)], args := [d1, d2, d3] }
  | _ => none }
def PropBackWrongFalsely : Prop := propBackRow.holds Try.pinned (OpenSpec.ofChange propBackWrong)

/-- 'chandlerlaw15.SatSolves': WHATEVER THE INPUT: true; the input reads as it did. -/
def satSolvesSpec : ChangeSpec := { name := "satSolves", fn := fun _ => fun
  | [d1, d2, d3] => { results := [.lit (.bool true)], args := [d1, d2, d3] }
  | _ => none }
def satSolvesRow : OpenClaim := { program := "ytghfelfljblkbaa", sum := "ed8ae94c6ab8e7520c08d8ba08ab563b7bcf1f4f954b0f7cbbdfa981ab01a91e", func := "chandler/chandlerlaw15.SatSolves", spec := "satSolves", unfollowed := true, recurses := true, apart := false }
def SatSolvesSaid : Prop := satSolvesRow.holds Try.pinned (OpenSpec.ofChange satSolvesSpec)

/-- ITS FALSE NEIGHBOUR: 'it returns false'. Refute it at one input. -/
def satSolvesWrong : ChangeSpec := { name := "satSolves", fn := fun _ => fun
  | [d1, d2, d3] => { results := [.lit (.bool false)], args := [d1, d2, d3] }
  | _ => none }
def SatSolvesWrongFalsely : Prop := satSolvesRow.holds Try.pinned (OpenSpec.ofChange satSolvesWrong)

/-- 'chandlerlaw15.SatBudget': WHATEVER THE INPUT: true; the input reads as it did. -/
def satBudgetSpec : ChangeSpec := { name := "satBudget", fn := fun _ => fun
  | [d1, d2, d3, d4, d5] => { results := [.lit (.bool true)], args := [d1, d2, d3, d4, d5] }
  | _ => none }
def satBudgetRow : OpenClaim := { program := "ytghfelfljblkbaa", sum := "ed8ae94c6ab8e7520c08d8ba08ab563b7bcf1f4f954b0f7cbbdfa981ab01a91e", func := "chandler/chandlerlaw15.SatBudget", spec := "satBudget", unfollowed := true, recurses := true, apart := false }
def SatBudgetSaid : Prop := satBudgetRow.holds Try.pinned (OpenSpec.ofChange satBudgetSpec)

/-- ITS FALSE NEIGHBOUR: 'it returns false'. Refute it at one input. -/
def satBudgetWrong : ChangeSpec := { name := "satBudget", fn := fun _ => fun
  | [d1, d2, d3, d4, d5] => { results := [.lit (.bool false)], args := [d1, d2, d3, d4, d5] }
  | _ => none }
def SatBudgetWrongFalsely : Prop := satBudgetRow.holds Try.pinned (OpenSpec.ofChange satBudgetWrong)

/-- 'chandlerlaw15.SatFirst': WHATEVER THE INPUT: true; the input reads as it did. -/
def satFirstSpec : ChangeSpec := { name := "satFirst", fn := fun _ => fun
  | [d1, d2] => { results := [.lit (.bool true)], args := [d1, d2] }
  | _ => none }
def satFirstRow : OpenClaim := { program := "ytghfelfljblkbaa", sum := "ed8ae94c6ab8e7520c08d8ba08ab563b7bcf1f4f954b0f7cbbdfa981ab01a91e", func := "chandler/chandlerlaw15.SatFirst", spec := "satFirst", unfollowed := true, recurses := true, apart := false }
def SatFirstSaid : Prop := satFirstRow.holds Try.pinned (OpenSpec.ofChange satFirstSpec)

/-- ITS FALSE NEIGHBOUR: 'it returns false'. Refute it at one input. -/
def satFirstWrong : ChangeSpec := { name := "satFirst", fn := fun _ => fun
  | [d1, d2] => { results := [.lit (.bool false)], args := [d1, d2] }
  | _ => none }
def SatFirstWrongFalsely : Prop := satFirstRow.holds Try.pinned (OpenSpec.ofChange satFirstWrong)

/-- 'chandlerlaw15.SatUnits': WHATEVER THE INPUT: true; the input reads as it did. -/
def satUnitsSpec : ChangeSpec := { name := "satUnits", fn := fun _ => fun
  | [d1, d2, d3] => { results := [.lit (.bool true)], args := [d1, d2, d3] }
  | _ => none }
def satUnitsRow : OpenClaim := { program := "ytghfelfljblkbaa", sum := "ed8ae94c6ab8e7520c08d8ba08ab563b7bcf1f4f954b0f7cbbdfa981ab01a91e", func := "chandler/chandlerlaw15.SatUnits", spec := "satUnits", unfollowed := true, recurses := true, apart := false }
def SatUnitsSaid : Prop := satUnitsRow.holds Try.pinned (OpenSpec.ofChange satUnitsSpec)

/-- ITS FALSE NEIGHBOUR: 'it returns false'. Refute it at one input. -/
def satUnitsWrong : ChangeSpec := { name := "satUnits", fn := fun _ => fun
  | [d1, d2, d3] => { results := [.lit (.bool false)], args := [d1, d2, d3] }
  | _ => none }
def SatUnitsWrongFalsely : Prop := satUnitsRow.holds Try.pinned (OpenSpec.ofChange satUnitsWrong)

/-- 'chandlerlaw15.SatCores': WHATEVER THE INPUT: true; the input reads as it did. -/
def satCoresSpec : ChangeSpec := { name := "satCores", fn := fun _ => fun
  | [d1, d2, d3] => { results := [.lit (.bool true)], args := [d1, d2, d3] }
  | _ => none }
def satCoresRow : OpenClaim := { program := "ytghfelfljblkbaa", sum := "ed8ae94c6ab8e7520c08d8ba08ab563b7bcf1f4f954b0f7cbbdfa981ab01a91e", func := "chandler/chandlerlaw15.SatCores", spec := "satCores", unfollowed := true, recurses := true, apart := false }
def SatCoresSaid : Prop := satCoresRow.holds Try.pinned (OpenSpec.ofChange satCoresSpec)

/-- ITS FALSE NEIGHBOUR: 'it returns false'. Refute it at one input. -/
def satCoresWrong : ChangeSpec := { name := "satCores", fn := fun _ => fun
  | [d1, d2, d3] => { results := [.lit (.bool false)], args := [d1, d2, d3] }
  | _ => none }
def SatCoresWrongFalsely : Prop := satCoresRow.holds Try.pinned (OpenSpec.ofChange satCoresWrong)

/-- 'chandlerlaw15.SatCounts': WHATEVER THE INPUT: true; the input reads as it did. -/
def satCountsSpec : ChangeSpec := { name := "satCounts", fn := fun _ => fun
  | [d1, d2, d3] => { results := [.lit (.bool true)], args := [d1, d2, d3] }
  | _ => none }
def satCountsRow : OpenClaim := { program := "ytghfelfljblkbaa", sum := "ed8ae94c6ab8e7520c08d8ba08ab563b7bcf1f4f954b0f7cbbdfa981ab01a91e", func := "chandler/chandlerlaw15.SatCounts", spec := "satCounts", unfollowed := true, recurses := true, apart := false }
def SatCountsSaid : Prop := satCountsRow.holds Try.pinned (OpenSpec.ofChange satCountsSpec)

/-- ITS FALSE NEIGHBOUR: 'it returns false'. Refute it at one input. -/
def satCountsWrong : ChangeSpec := { name := "satCounts", fn := fun _ => fun
  | [d1, d2, d3] => { results := [.lit (.bool false)], args := [d1, d2, d3] }
  | _ => none }
def SatCountsWrongFalsely : Prop := satCountsRow.holds Try.pinned (OpenSpec.ofChange satCountsWrong)

/-- 'chandlerlaw15.SatOver': WHATEVER THE INPUT: true; the input reads as it did. -/
def satOverSpec : ChangeSpec := { name := "satOver", fn := fun _ => fun
  | [d1, d2] => { results := [.lit (.bool true)], args := [d1, d2] }
  | _ => none }
def satOverRow : OpenClaim := { program := "ytghfelfljblkbaa", sum := "ed8ae94c6ab8e7520c08d8ba08ab563b7bcf1f4f954b0f7cbbdfa981ab01a91e", func := "chandler/chandlerlaw15.SatOver", spec := "satOver", unfollowed := true, recurses := true, apart := false }
def SatOverSaid : Prop := satOverRow.holds Try.pinned (OpenSpec.ofChange satOverSpec)

/-- ITS FALSE NEIGHBOUR: 'it returns false'. Refute it at one input. -/
def satOverWrong : ChangeSpec := { name := "satOver", fn := fun _ => fun
  | [d1, d2] => { results := [.lit (.bool false)], args := [d1, d2] }
  | _ => none }
def SatOverWrongFalsely : Prop := satOverRow.holds Try.pinned (OpenSpec.ofChange satOverWrong)

/-- 'chandlerlaw15.SatHolds': WHATEVER THE INPUT: true; the input reads as it did. -/
def satHoldsSpec : ChangeSpec := { name := "satHolds", fn := fun _ => fun
  | [d1, d2, d3, d4] => { results := [.lit (.bool true)], args := [d1, d2, d3, d4] }
  | _ => none }
def satHoldsRow : OpenClaim := { program := "ytghfelfljblkbaa", sum := "ed8ae94c6ab8e7520c08d8ba08ab563b7bcf1f4f954b0f7cbbdfa981ab01a91e", func := "chandler/chandlerlaw15.SatHolds", spec := "satHolds", unfollowed := true, recurses := true, apart := false }
def SatHoldsSaid : Prop := satHoldsRow.holds Try.pinned (OpenSpec.ofChange satHoldsSpec)

/-- ITS FALSE NEIGHBOUR: 'it returns false'. Refute it at one input. -/
def satHoldsWrong : ChangeSpec := { name := "satHolds", fn := fun _ => fun
  | [d1, d2, d3, d4] => { results := [.lit (.bool false)], args := [d1, d2, d3, d4] }
  | _ => none }
def SatHoldsWrongFalsely : Prop := satHoldsRow.holds Try.pinned (OpenSpec.ofChange satHoldsWrong)

/- THE SECOND FORM. 'bulk': how many values and letters a reading holds, each counted each time it is reached (what is shared counts as often as it is met; a slice's spare places count too). A statement '..UptoSaid' is the law's where the arguments, and the package variables that the reading takes, are together of bulk at most 1048576: NARROWER than '..Said'. Prove '..Said' where nothing that the law and all that it calls make is longer than what came in: it says more and counts as full. Else prove '..UptoSaid'. A law counts once. -/
mutual
def uptoBulk {H : Type} : DataW H → Nat
  | .lit (.string bytes) => bytes.length + 1
  | .lit _ => 1
  | .nil => 1
  | .ptr d => uptoBulk d + 1
  | .slice elems spare => uptoBulkAll elems + uptoBulkAll spare + 1
  | .agg parts => uptoBulkAll parts + 1
  | .iface _ d => uptoBulk d + 1
  | .map entries => uptoBulkEntries entries + 1
  | .held _ => 1
def uptoBulkAll {H : Type} : List (DataW H) → Nat
  | [] => 0
  | d :: r => uptoBulk d + uptoBulkAll r
def uptoBulkEntries {H : Type} : List (Lit × DataW H) → Nat
  | [] => 0
  | x :: r => uptoBulkEntry x + uptoBulkEntries r
def uptoBulkEntry {H : Type} : Lit × DataW H → Nat
  | (.string bytes, d) => bytes.length + uptoBulk d + 1
  | (_, d) => uptoBulk d + 1
 end
def uptoSmall : (H : Type) → List (DataW H) → Bool := fun _ ds => decide (uptoBulkAll ds ≤ 1048576)
def OpenSpec.upto (s : _root_.Go.ChangeSpec) : _root_.Go.OpenSpec := { _root_.Go.OpenSpec.ofChange s with cond := some uptoSmall }

/-- 'chandlerlaw13.CnfTidies', WHERE WHAT IT READS IS OF BULK AT MOST 1048576: true; the input reads as it did. -/
def cnfTidiesUptoRow : OpenClaim := { program := "ytghfelfljblkbaa", sum := "ed8ae94c6ab8e7520c08d8ba08ab563b7bcf1f4f954b0f7cbbdfa981ab01a91e", func := "chandler/chandlerlaw13.CnfTidies", spec := "cnfTidies", unfollowed := true, recurses := true, apart := false, narrowed := true }
def CnfTidiesUptoSaid : Prop := cnfTidiesUptoRow.holds Try.pinned (OpenSpec.upto cnfTidiesSpec)

/-- 'chandlerlaw13.CnfMore', WHERE WHAT IT READS IS OF BULK AT MOST 1048576: true; the input reads as it did. -/
def cnfMoreUptoRow : OpenClaim := { program := "ytghfelfljblkbaa", sum := "ed8ae94c6ab8e7520c08d8ba08ab563b7bcf1f4f954b0f7cbbdfa981ab01a91e", func := "chandler/chandlerlaw13.CnfMore", spec := "cnfMore", unfollowed := true, recurses := true, apart := false, narrowed := true }
def CnfMoreUptoSaid : Prop := cnfMoreUptoRow.holds Try.pinned (OpenSpec.upto cnfMoreSpec)

/-- 'chandlerlaw13.CnfHolds', WHERE WHAT IT READS IS OF BULK AT MOST 1048576: true; the input reads as it did. -/
def cnfHoldsUptoRow : OpenClaim := { program := "ytghfelfljblkbaa", sum := "ed8ae94c6ab8e7520c08d8ba08ab563b7bcf1f4f954b0f7cbbdfa981ab01a91e", func := "chandler/chandlerlaw13.CnfHolds", spec := "cnfHolds", unfollowed := true, recurses := true, apart := false, narrowed := true }
def CnfHoldsUptoSaid : Prop := cnfHoldsUptoRow.holds Try.pinned (OpenSpec.upto cnfHoldsSpec)

/-- 'chandlerlaw13.CnfMany', WHERE WHAT IT READS IS OF BULK AT MOST 1048576: true; the input reads as it did. -/
def cnfManyUptoRow : OpenClaim := { program := "ytghfelfljblkbaa", sum := "ed8ae94c6ab8e7520c08d8ba08ab563b7bcf1f4f954b0f7cbbdfa981ab01a91e", func := "chandler/chandlerlaw13.CnfMany", spec := "cnfMany", unfollowed := true, recurses := true, apart := false, narrowed := true }
def CnfManyUptoSaid : Prop := cnfManyUptoRow.holds Try.pinned (OpenSpec.upto cnfManySpec)

/-- 'chandlerlaw13.CnfOne', WHERE WHAT IT READS IS OF BULK AT MOST 1048576: true; the input reads as it did. -/
def cnfOneUptoRow : OpenClaim := { program := "ytghfelfljblkbaa", sum := "ed8ae94c6ab8e7520c08d8ba08ab563b7bcf1f4f954b0f7cbbdfa981ab01a91e", func := "chandler/chandlerlaw13.CnfOne", spec := "cnfOne", unfollowed := true, recurses := true, apart := false, narrowed := true }
def CnfOneUptoSaid : Prop := cnfOneUptoRow.holds Try.pinned (OpenSpec.upto cnfOneSpec)

/-- 'chandlerlaw13.CnfAdds', WHERE WHAT IT READS IS OF BULK AT MOST 1048576: true; the input reads as it did. -/
def cnfAddsUptoRow : OpenClaim := { program := "ytghfelfljblkbaa", sum := "ed8ae94c6ab8e7520c08d8ba08ab563b7bcf1f4f954b0f7cbbdfa981ab01a91e", func := "chandler/chandlerlaw13.CnfAdds", spec := "cnfAdds", unfollowed := true, recurses := true, apart := false, narrowed := true }
def CnfAddsUptoSaid : Prop := cnfAddsUptoRow.holds Try.pinned (OpenSpec.upto cnfAddsSpec)

/-- 'chandlerlaw13.CnfNil', WHERE WHAT IT READS IS OF BULK AT MOST 1048576: true; the input reads as it did. -/
def cnfNilUptoRow : OpenClaim := { program := "ytghfelfljblkbaa", sum := "ed8ae94c6ab8e7520c08d8ba08ab563b7bcf1f4f954b0f7cbbdfa981ab01a91e", func := "chandler/chandlerlaw13.CnfNil", spec := "cnfNil", unfollowed := true, recurses := true, apart := false, narrowed := true }
def CnfNilUptoSaid : Prop := cnfNilUptoRow.holds Try.pinned (OpenSpec.upto cnfNilSpec)

/-- 'chandlerlaw14.PropSound', WHERE WHAT IT READS IS OF BULK AT MOST 1048576: true; the input reads as it did. -/
def propSoundUptoRow : OpenClaim := { program := "ytghfelfljblkbaa", sum := "ed8ae94c6ab8e7520c08d8ba08ab563b7bcf1f4f954b0f7cbbdfa981ab01a91e", func := "chandler/chandlerlaw14.PropSound", spec := "propSound", unfollowed := true, recurses := true, apart := false, narrowed := true }
def PropSoundUptoSaid : Prop := propSoundUptoRow.holds Try.pinned (OpenSpec.upto propSoundSpec)

/-- 'chandlerlaw14.PropPlays', WHERE WHAT IT READS IS OF BULK AT MOST 1048576: true; the input reads as it did. -/
def propPlaysUptoRow : OpenClaim := { program := "ytghfelfljblkbaa", sum := "ed8ae94c6ab8e7520c08d8ba08ab563b7bcf1f4f954b0f7cbbdfa981ab01a91e", func := "chandler/chandlerlaw14.PropPlays", spec := "propPlays", unfollowed := true, recurses := true, apart := false, narrowed := true }
def PropPlaysUptoSaid : Prop := propPlaysUptoRow.holds Try.pinned (OpenSpec.upto propPlaysSpec)

/-- 'chandlerlaw14.PropNil', WHERE WHAT IT READS IS OF BULK AT MOST 1048576: true; the input reads as it did. -/
def propNilUptoRow : OpenClaim := { program := "ytghfelfljblkbaa", sum := "ed8ae94c6ab8e7520c08d8ba08ab563b7bcf1f4f954b0f7cbbdfa981ab01a91e", func := "chandler/chandlerlaw14.PropNil", spec := "propNil", unfollowed := true, recurses := true, apart := false, narrowed := true }
def PropNilUptoSaid : Prop := propNilUptoRow.holds Try.pinned (OpenSpec.upto propNilSpec)

/-- 'chandlerlaw14.PropBack', WHERE WHAT IT READS IS OF BULK AT MOST 1048576: true; the input reads as it did. -/
def propBackUptoRow : OpenClaim := { program := "ytghfelfljblkbaa", sum := "ed8ae94c6ab8e7520c08d8ba08ab563b7bcf1f4f954b0f7cbbdfa981ab01a91e", func := "chandler/chandlerlaw14.PropBack", spec := "propBack", unfollowed := true, recurses := true, apart := false, narrowed := true }
def PropBackUptoSaid : Prop := propBackUptoRow.holds Try.pinned (OpenSpec.upto propBackSpec)

/-- 'chandlerlaw15.SatSolves', WHERE WHAT IT READS IS OF BULK AT MOST 1048576: true; the input reads as it did. -/
def satSolvesUptoRow : OpenClaim := { program := "ytghfelfljblkbaa", sum := "ed8ae94c6ab8e7520c08d8ba08ab563b7bcf1f4f954b0f7cbbdfa981ab01a91e", func := "chandler/chandlerlaw15.SatSolves", spec := "satSolves", unfollowed := true, recurses := true, apart := false, narrowed := true }
def SatSolvesUptoSaid : Prop := satSolvesUptoRow.holds Try.pinned (OpenSpec.upto satSolvesSpec)

/-- 'chandlerlaw15.SatBudget', WHERE WHAT IT READS IS OF BULK AT MOST 1048576: true; the input reads as it did. -/
def satBudgetUptoRow : OpenClaim := { program := "ytghfelfljblkbaa", sum := "ed8ae94c6ab8e7520c08d8ba08ab563b7bcf1f4f954b0f7cbbdfa981ab01a91e", func := "chandler/chandlerlaw15.SatBudget", spec := "satBudget", unfollowed := true, recurses := true, apart := false, narrowed := true }
def SatBudgetUptoSaid : Prop := satBudgetUptoRow.holds Try.pinned (OpenSpec.upto satBudgetSpec)

/-- 'chandlerlaw15.SatFirst', WHERE WHAT IT READS IS OF BULK AT MOST 1048576: true; the input reads as it did. -/
def satFirstUptoRow : OpenClaim := { program := "ytghfelfljblkbaa", sum := "ed8ae94c6ab8e7520c08d8ba08ab563b7bcf1f4f954b0f7cbbdfa981ab01a91e", func := "chandler/chandlerlaw15.SatFirst", spec := "satFirst", unfollowed := true, recurses := true, apart := false, narrowed := true }
def SatFirstUptoSaid : Prop := satFirstUptoRow.holds Try.pinned (OpenSpec.upto satFirstSpec)

/-- 'chandlerlaw15.SatUnits', WHERE WHAT IT READS IS OF BULK AT MOST 1048576: true; the input reads as it did. -/
def satUnitsUptoRow : OpenClaim := { program := "ytghfelfljblkbaa", sum := "ed8ae94c6ab8e7520c08d8ba08ab563b7bcf1f4f954b0f7cbbdfa981ab01a91e", func := "chandler/chandlerlaw15.SatUnits", spec := "satUnits", unfollowed := true, recurses := true, apart := false, narrowed := true }
def SatUnitsUptoSaid : Prop := satUnitsUptoRow.holds Try.pinned (OpenSpec.upto satUnitsSpec)

/-- 'chandlerlaw15.SatCores', WHERE WHAT IT READS IS OF BULK AT MOST 1048576: true; the input reads as it did. -/
def satCoresUptoRow : OpenClaim := { program := "ytghfelfljblkbaa", sum := "ed8ae94c6ab8e7520c08d8ba08ab563b7bcf1f4f954b0f7cbbdfa981ab01a91e", func := "chandler/chandlerlaw15.SatCores", spec := "satCores", unfollowed := true, recurses := true, apart := false, narrowed := true }
def SatCoresUptoSaid : Prop := satCoresUptoRow.holds Try.pinned (OpenSpec.upto satCoresSpec)

/-- 'chandlerlaw15.SatCounts', WHERE WHAT IT READS IS OF BULK AT MOST 1048576: true; the input reads as it did. -/
def satCountsUptoRow : OpenClaim := { program := "ytghfelfljblkbaa", sum := "ed8ae94c6ab8e7520c08d8ba08ab563b7bcf1f4f954b0f7cbbdfa981ab01a91e", func := "chandler/chandlerlaw15.SatCounts", spec := "satCounts", unfollowed := true, recurses := true, apart := false, narrowed := true }
def SatCountsUptoSaid : Prop := satCountsUptoRow.holds Try.pinned (OpenSpec.upto satCountsSpec)

/-- 'chandlerlaw15.SatOver', WHERE WHAT IT READS IS OF BULK AT MOST 1048576: true; the input reads as it did. -/
def satOverUptoRow : OpenClaim := { program := "ytghfelfljblkbaa", sum := "ed8ae94c6ab8e7520c08d8ba08ab563b7bcf1f4f954b0f7cbbdfa981ab01a91e", func := "chandler/chandlerlaw15.SatOver", spec := "satOver", unfollowed := true, recurses := true, apart := false, narrowed := true }
def SatOverUptoSaid : Prop := satOverUptoRow.holds Try.pinned (OpenSpec.upto satOverSpec)

/-- 'chandlerlaw15.SatHolds', WHERE WHAT IT READS IS OF BULK AT MOST 1048576: true; the input reads as it did. -/
def satHoldsUptoRow : OpenClaim := { program := "ytghfelfljblkbaa", sum := "ed8ae94c6ab8e7520c08d8ba08ab563b7bcf1f4f954b0f7cbbdfa981ab01a91e", func := "chandler/chandlerlaw15.SatHolds", spec := "satHolds", unfollowed := true, recurses := true, apart := false, narrowed := true }
def SatHoldsUptoSaid : Prop := satHoldsUptoRow.holds Try.pinned (OpenSpec.upto satHoldsSpec)

end Rows
end Go.Proofs.Ytghfelfljblkbaa
