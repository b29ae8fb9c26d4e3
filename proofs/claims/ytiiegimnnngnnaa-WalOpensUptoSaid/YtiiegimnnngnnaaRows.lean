/-
  No cell of these rows narrows 'for every input' (looked for: loops, veiled, ifaces, maps, wideKeys, modest, calm, conditions, laid).
  DERIVED. THE GIVEN ROWS OF THIS SEAT. 20 by the template 'for every input the law returns true; each argument reads behind the call as it read before'; 0 by the template 'total and deterministic' (their statements: YtiiegimnnngnnaaTotals.lean).
  GIVEN WITH THE SEED: the statements are not yours to turn. If you find one false, say at which input.
  Laid BY PROGRAM, IN A SANDBOX (cutbox-rows.mjs): the forced cells as the released guide's own fill.sh prints them over the translation 629aa18950da001a… (all of the seat's roots in one cut). By AI agents, Wed Nov 11 2026. No macro, syntax, notation, axiom, sorry.
-/
import Derived.Test.YtiiegimnnngnnaaChecked
import GoSem.Claim
import GoSem.ClaimJoined
import GoSem.ClaimMapViews
import Derived.JoinedTies
import Derived.KernelRfl
namespace Go.Proofs.Ytiiegimnnngnnaa
/- THE CELL 'sum', in the pinned program and in every row, IS THE sha256 OF THE DUMP (.gsa) THAT YtiiegimnnngnnaaProg.lean LOADS. Nothing in Lean hashes anything: it is a label: what it is worth is what the hold of that sum in a sandbox is worth. -/
noncomputable def Try.pinned : Pinned := { name := "ytiiegimnnngnnaa", sum := "629aa18950da001afed1f82587cf7fbcb9a019fdc327981515dfa5042fa4c173", checked := Try.checked }
namespace Rows
def none {H : Type} : Left H := { results := [], args := [] }

/-- 'chandlerlaw1.CrcSums': WHATEVER THE INPUT: true; the input reads as it did. -/
def crcSumsSpec : ChangeSpec := { name := "crcSums", fn := fun _ => fun
  | [d1, d2] => { results := [.lit (.bool true)], args := [d1, d2] }
  | _ => none }
def crcSumsRow : OpenClaim := { program := "ytiiegimnnngnnaa", sum := "629aa18950da001afed1f82587cf7fbcb9a019fdc327981515dfa5042fa4c173", func := "chandler/chandlerlaw1.CrcSums", spec := "crcSums", apart := false }
def CrcSumsSaid : Prop := crcSumsRow.holds Try.pinned (OpenSpec.ofChange crcSumsSpec)

/-- ITS FALSE NEIGHBOUR: 'it returns false'. Refute it at one input. -/
def crcSumsWrong : ChangeSpec := { name := "crcSums", fn := fun _ => fun
  | [d1, d2] => { results := [.lit (.bool false)], args := [d1, d2] }
  | _ => none }
def CrcSumsWrongFalsely : Prop := crcSumsRow.holds Try.pinned (OpenSpec.ofChange crcSumsWrong)

/-- 'chandlerlaw1.CrcGoesOn': WHATEVER THE INPUT: true; the input reads as it did. -/
def crcGoesOnSpec : ChangeSpec := { name := "crcGoesOn", fn := fun _ => fun
  | [d1, d2, d3] => { results := [.lit (.bool true)], args := [d1, d2, d3] }
  | _ => none }
def crcGoesOnRow : OpenClaim := { program := "ytiiegimnnngnnaa", sum := "629aa18950da001afed1f82587cf7fbcb9a019fdc327981515dfa5042fa4c173", func := "chandler/chandlerlaw1.CrcGoesOn", spec := "crcGoesOn", apart := false }
def CrcGoesOnSaid : Prop := crcGoesOnRow.holds Try.pinned (OpenSpec.ofChange crcGoesOnSpec)

/-- ITS FALSE NEIGHBOUR: 'it returns false'. Refute it at one input. -/
def crcGoesOnWrong : ChangeSpec := { name := "crcGoesOn", fn := fun _ => fun
  | [d1, d2, d3] => { results := [.lit (.bool false)], args := [d1, d2, d3] }
  | _ => none }
def CrcGoesOnWrongFalsely : Prop := crcGoesOnRow.holds Try.pinned (OpenSpec.ofChange crcGoesOnWrong)

/-- 'chandlerlaw1.CrcTells': WHATEVER THE INPUT: true; the input reads as it did. -/
def crcTellsSpec : ChangeSpec := { name := "crcTells", fn := fun _ => fun
  | [d1, d2, d3] => { results := [.lit (.bool true)], args := [d1, d2, d3] }
  | _ => none }
def crcTellsRow : OpenClaim := { program := "ytiiegimnnngnnaa", sum := "629aa18950da001afed1f82587cf7fbcb9a019fdc327981515dfa5042fa4c173", func := "chandler/chandlerlaw1.CrcTells", spec := "crcTells", apart := false }
def CrcTellsSaid : Prop := crcTellsRow.holds Try.pinned (OpenSpec.ofChange crcTellsSpec)

/-- ITS FALSE NEIGHBOUR: 'it returns false'. Refute it at one input. -/
def crcTellsWrong : ChangeSpec := { name := "crcTells", fn := fun _ => fun
  | [d1, d2, d3] => { results := [.lit (.bool false)], args := [d1, d2, d3] }
  | _ => none }
def CrcTellsWrongFalsely : Prop := crcTellsRow.holds Try.pinned (OpenSpec.ofChange crcTellsWrong)

/-- 'chandlerlaw1.CrcAdds': WHATEVER THE INPUT: true; the input reads as it did. -/
def crcAddsSpec : ChangeSpec := { name := "crcAdds", fn := fun _ => fun
  | [d1, d2, d3] => { results := [.lit (.bool true)], args := [d1, d2, d3] }
  | _ => none }
def crcAddsRow : OpenClaim := { program := "ytiiegimnnngnnaa", sum := "629aa18950da001afed1f82587cf7fbcb9a019fdc327981515dfa5042fa4c173", func := "chandler/chandlerlaw1.CrcAdds", spec := "crcAdds", apart := false }
def CrcAddsSaid : Prop := crcAddsRow.holds Try.pinned (OpenSpec.ofChange crcAddsSpec)

/-- ITS FALSE NEIGHBOUR: 'it returns false'. Refute it at one input. -/
def crcAddsWrong : ChangeSpec := { name := "crcAdds", fn := fun _ => fun
  | [d1, d2, d3] => { results := [.lit (.bool false)], args := [d1, d2, d3] }
  | _ => none }
def CrcAddsWrongFalsely : Prop := crcAddsRow.holds Try.pinned (OpenSpec.ofChange crcAddsWrong)

/-- 'chandlerlaw1.CrcTable': WHATEVER THE INPUT: true; the input reads as it did. -/
def crcTableSpec : ChangeSpec := { name := "crcTable", fn := fun _ => fun
  | [d] => { results := [.lit (.bool true)], args := [d] }
  | _ => none }
def crcTableRow : OpenClaim := { program := "ytiiegimnnngnnaa", sum := "629aa18950da001afed1f82587cf7fbcb9a019fdc327981515dfa5042fa4c173", func := "chandler/chandlerlaw1.CrcTable", spec := "crcTable", apart := false }
def CrcTableSaid : Prop := crcTableRow.holds Try.pinned (OpenSpec.ofChange crcTableSpec)

/-- ITS FALSE NEIGHBOUR: 'it returns false'. Refute it at one input. -/
def crcTableWrong : ChangeSpec := { name := "crcTable", fn := fun _ => fun
  | [d] => { results := [.lit (.bool false)], args := [d] }
  | _ => none }
def CrcTableWrongFalsely : Prop := crcTableRow.holds Try.pinned (OpenSpec.ofChange crcTableWrong)

/-- 'chandlerlaw2.DiskNew': WHATEVER THE INPUT: true; the input reads as it did. -/
def diskNewSpec : ChangeSpec := { name := "diskNew", fn := fun _ => fun
  | [d] => { results := [.lit (.bool true)], args := [d] }
  | _ => none }
def diskNewRow : OpenClaim := { program := "ytiiegimnnngnnaa", sum := "629aa18950da001afed1f82587cf7fbcb9a019fdc327981515dfa5042fa4c173", func := "chandler/chandlerlaw2.DiskNew", spec := "diskNew", apart := false }
def DiskNewSaid : Prop := diskNewRow.holds Try.pinned (OpenSpec.ofChange diskNewSpec)

/-- ITS FALSE NEIGHBOUR: 'it returns false'. Refute it at one input. -/
def diskNewWrong : ChangeSpec := { name := "diskNew", fn := fun _ => fun
  | [d] => { results := [.lit (.bool false)], args := [d] }
  | _ => none }
def DiskNewWrongFalsely : Prop := diskNewRow.holds Try.pinned (OpenSpec.ofChange diskNewWrong)

/-- 'chandlerlaw2.DiskSure': WHATEVER THE INPUT: true; the input reads as it did. -/
def diskSureSpec : ChangeSpec := { name := "diskSure", fn := fun _ => fun
  | [d1, d2, d3, d4] => { results := [.lit (.bool true)], args := [d1, d2, d3, d4] }
  | _ => none }
def diskSureRow : OpenClaim := { program := "ytiiegimnnngnnaa", sum := "629aa18950da001afed1f82587cf7fbcb9a019fdc327981515dfa5042fa4c173", func := "chandler/chandlerlaw2.DiskSure", spec := "diskSure", apart := false }
def DiskSureSaid : Prop := diskSureRow.holds Try.pinned (OpenSpec.ofChange diskSureSpec)

/-- ITS FALSE NEIGHBOUR: 'it returns false'. Refute it at one input. -/
def diskSureWrong : ChangeSpec := { name := "diskSure", fn := fun _ => fun
  | [d1, d2, d3, d4] => { results := [.lit (.bool false)], args := [d1, d2, d3, d4] }
  | _ => none }
def DiskSureWrongFalsely : Prop := diskSureRow.holds Try.pinned (OpenSpec.ofChange diskSureWrong)

/-- 'chandlerlaw2.DiskFuses': WHATEVER THE INPUT: true; the input reads as it did. -/
def diskFusesSpec : ChangeSpec := { name := "diskFuses", fn := fun _ => fun
  | [d1, d2] => { results := [.lit (.bool true)], args := [d1, d2] }
  | _ => none }
def diskFusesRow : OpenClaim := { program := "ytiiegimnnngnnaa", sum := "629aa18950da001afed1f82587cf7fbcb9a019fdc327981515dfa5042fa4c173", func := "chandler/chandlerlaw2.DiskFuses", spec := "diskFuses", apart := false }
def DiskFusesSaid : Prop := diskFusesRow.holds Try.pinned (OpenSpec.ofChange diskFusesSpec)

/-- ITS FALSE NEIGHBOUR: 'it returns false'. Refute it at one input. -/
def diskFusesWrong : ChangeSpec := { name := "diskFuses", fn := fun _ => fun
  | [d1, d2] => { results := [.lit (.bool false)], args := [d1, d2] }
  | _ => none }
def DiskFusesWrongFalsely : Prop := diskFusesRow.holds Try.pinned (OpenSpec.ofChange diskFusesWrong)

/-- 'chandlerlaw2.DiskPlays': WHATEVER THE INPUT: true; the input reads as it did. -/
def diskPlaysSpec : ChangeSpec := { name := "diskPlays", fn := fun _ => fun
  | [d1, d2] => { results := [.lit (.bool true)], args := [d1, d2] }
  | _ => none }
def diskPlaysRow : OpenClaim := { program := "ytiiegimnnngnnaa", sum := "629aa18950da001afed1f82587cf7fbcb9a019fdc327981515dfa5042fa4c173", func := "chandler/chandlerlaw2.DiskPlays", spec := "diskPlays", apart := false }
def DiskPlaysSaid : Prop := diskPlaysRow.holds Try.pinned (OpenSpec.ofChange diskPlaysSpec)

/-- ITS FALSE NEIGHBOUR: 'it returns false'. Refute it at one input. -/
def diskPlaysWrong : ChangeSpec := { name := "diskPlays", fn := fun _ => fun
  | [d1, d2] => { results := [.lit (.bool false)], args := [d1, d2] }
  | _ => none }
def DiskPlaysWrongFalsely : Prop := diskPlaysRow.holds Try.pinned (OpenSpec.ofChange diskPlaysWrong)

/-- 'chandlerlaw2.DiskCopies': WHATEVER THE INPUT: true; the input reads as it did. -/
def diskCopiesSpec : ChangeSpec := { name := "diskCopies", fn := fun _ => fun
  | [d1, d2, d3] => { results := [.lit (.bool true)], args := [d1, d2, d3] }
  | _ => none }
def diskCopiesRow : OpenClaim := { program := "ytiiegimnnngnnaa", sum := "629aa18950da001afed1f82587cf7fbcb9a019fdc327981515dfa5042fa4c173", func := "chandler/chandlerlaw2.DiskCopies", spec := "diskCopies", apart := false }
def DiskCopiesSaid : Prop := diskCopiesRow.holds Try.pinned (OpenSpec.ofChange diskCopiesSpec)

/-- ITS FALSE NEIGHBOUR: 'it returns false'. Refute it at one input. -/
def diskCopiesWrong : ChangeSpec := { name := "diskCopies", fn := fun _ => fun
  | [d1, d2, d3] => { results := [.lit (.bool false)], args := [d1, d2, d3] }
  | _ => none }
def DiskCopiesWrongFalsely : Prop := diskCopiesRow.holds Try.pinned (OpenSpec.ofChange diskCopiesWrong)

/-- 'chandlerlaw2.DiskNil': WHATEVER THE INPUT: true; the input reads as it did. -/
def diskNilSpec : ChangeSpec := { name := "diskNil", fn := fun _ => fun
  | [d1, d2] => { results := [.lit (.bool true)], args := [d1, d2] }
  | _ => none }
def diskNilRow : OpenClaim := { program := "ytiiegimnnngnnaa", sum := "629aa18950da001afed1f82587cf7fbcb9a019fdc327981515dfa5042fa4c173", func := "chandler/chandlerlaw2.DiskNil", spec := "diskNil", apart := false }
def DiskNilSaid : Prop := diskNilRow.holds Try.pinned (OpenSpec.ofChange diskNilSpec)

/-- ITS FALSE NEIGHBOUR: 'it returns false'. Refute it at one input. -/
def diskNilWrong : ChangeSpec := { name := "diskNil", fn := fun _ => fun
  | [d1, d2] => { results := [.lit (.bool false)], args := [d1, d2] }
  | _ => none }
def DiskNilWrongFalsely : Prop := diskNilRow.holds Try.pinned (OpenSpec.ofChange diskNilWrong)

/-- 'chandlerlaw3.WalNeed': WHATEVER THE INPUT: true; the input reads as it did. -/
def walNeedSpec : ChangeSpec := { name := "walNeed", fn := fun _ => fun
  | [d] => { results := [.lit (.bool true)], args := [d] }
  | _ => none }
def walNeedRow : OpenClaim := { program := "ytiiegimnnngnnaa", sum := "629aa18950da001afed1f82587cf7fbcb9a019fdc327981515dfa5042fa4c173", func := "chandler/chandlerlaw3.WalNeed", spec := "walNeed", apart := false }
def WalNeedSaid : Prop := walNeedRow.holds Try.pinned (OpenSpec.ofChange walNeedSpec)

/-- ITS FALSE NEIGHBOUR: 'it returns false'. Refute it at one input. -/
def walNeedWrong : ChangeSpec := { name := "walNeed", fn := fun _ => fun
  | [d] => { results := [.lit (.bool false)], args := [d] }
  | _ => none }
def WalNeedWrongFalsely : Prop := walNeedRow.holds Try.pinned (OpenSpec.ofChange walNeedWrong)

/-- 'chandlerlaw3.WalMany': WHATEVER THE INPUT: true; the input reads as it did. -/
def walManySpec : ChangeSpec := { name := "walMany", fn := fun _ => fun
  | [d] => { results := [.lit (.bool true)], args := [d] }
  | _ => none }
def walManyRow : OpenClaim := { program := "ytiiegimnnngnnaa", sum := "629aa18950da001afed1f82587cf7fbcb9a019fdc327981515dfa5042fa4c173", func := "chandler/chandlerlaw3.WalMany", spec := "walMany", apart := false }
def WalManySaid : Prop := walManyRow.holds Try.pinned (OpenSpec.ofChange walManySpec)

/-- ITS FALSE NEIGHBOUR: 'it returns false'. Refute it at one input. -/
def walManyWrong : ChangeSpec := { name := "walMany", fn := fun _ => fun
  | [d] => { results := [.lit (.bool false)], args := [d] }
  | _ => none }
def WalManyWrongFalsely : Prop := walManyRow.holds Try.pinned (OpenSpec.ofChange walManyWrong)

/-- 'chandlerlaw3.WalApart': WHATEVER THE INPUT: true; the input reads as it did. -/
def walApartSpec : ChangeSpec := { name := "walApart", fn := fun _ => fun
  | [d1, d2] => { results := [.lit (.bool true)], args := [d1, d2] }
  | _ => none }
def walApartRow : OpenClaim := { program := "ytiiegimnnngnnaa", sum := "629aa18950da001afed1f82587cf7fbcb9a019fdc327981515dfa5042fa4c173", func := "chandler/chandlerlaw3.WalApart", spec := "walApart", apart := false }
def WalApartSaid : Prop := walApartRow.holds Try.pinned (OpenSpec.ofChange walApartSpec)

/-- ITS FALSE NEIGHBOUR: 'it returns false'. Refute it at one input. -/
def walApartWrong : ChangeSpec := { name := "walApart", fn := fun _ => fun
  | [d1, d2] => { results := [.lit (.bool false)], args := [d1, d2] }
  | _ => none }
def WalApartWrongFalsely : Prop := walApartRow.holds Try.pinned (OpenSpec.ofChange walApartWrong)

/-- 'chandlerlaw3.WalOpens': WHATEVER THE INPUT: true; the input reads as it did. -/
def walOpensSpec : ChangeSpec := { name := "walOpens", fn := fun _ => fun
  | [d1, d2, d3, d4, d5, d6, d7] => { results := [.lit (.bool true)], args := [d1, d2, d3, d4, d5, d6, d7] }
  | _ => none }
def walOpensRow : OpenClaim := { program := "ytiiegimnnngnnaa", sum := "629aa18950da001afed1f82587cf7fbcb9a019fdc327981515dfa5042fa4c173", func := "chandler/chandlerlaw3.WalOpens", spec := "walOpens", apart := false }
def WalOpensSaid : Prop := walOpensRow.holds Try.pinned (OpenSpec.ofChange walOpensSpec)

/-- ITS FALSE NEIGHBOUR: 'it returns false'. Refute it at one input. -/
def walOpensWrong : ChangeSpec := { name := "walOpens", fn := fun _ => fun
  | [d1, d2, d3, d4, d5, d6, d7] => { results := [.lit (.bool false)], args := [d1, d2, d3, d4, d5, d6, d7] }
  | _ => none }
def WalOpensWrongFalsely : Prop := walOpensRow.holds Try.pinned (OpenSpec.ofChange walOpensWrong)

/-- 'chandlerlaw3.WalPlays': WHATEVER THE INPUT: true; the input reads as it did. -/
def walPlaysSpec : ChangeSpec := { name := "walPlays", fn := fun _ => fun
  | [d1, d2] => { results := [.lit (.bool true)], args := [d1, d2] }
  | _ => none }
def walPlaysRow : OpenClaim := { program := "ytiiegimnnngnnaa", sum := "629aa18950da001afed1f82587cf7fbcb9a019fdc327981515dfa5042fa4c173", func := "chandler/chandlerlaw3.WalPlays", spec := "walPlays", apart := false }
def WalPlaysSaid : Prop := walPlaysRow.holds Try.pinned (OpenSpec.ofChange walPlaysSpec)

/-- ITS FALSE NEIGHBOUR: 'it returns false'. Refute it at one input. -/
def walPlaysWrong : ChangeSpec := { name := "walPlays", fn := fun _ => fun
  | [d1, d2] => { results := [.lit (.bool false)], args := [d1, d2] }
  | _ => none }
def WalPlaysWrongFalsely : Prop := walPlaysRow.holds Try.pinned (OpenSpec.ofChange walPlaysWrong)

/-- 'chandlerlaw3.WalNil': WHATEVER THE INPUT: true; the input reads as it did. -/
def walNilSpec : ChangeSpec := { name := "walNil", fn := fun _ => fun
  | [d1, d2, d3] => { results := [.lit (.bool true)], args := [d1, d2, d3] }
  | _ => none }
def walNilRow : OpenClaim := { program := "ytiiegimnnngnnaa", sum := "629aa18950da001afed1f82587cf7fbcb9a019fdc327981515dfa5042fa4c173", func := "chandler/chandlerlaw3.WalNil", spec := "walNil", apart := false }
def WalNilSaid : Prop := walNilRow.holds Try.pinned (OpenSpec.ofChange walNilSpec)

/-- ITS FALSE NEIGHBOUR: 'it returns false'. Refute it at one input. -/
def walNilWrong : ChangeSpec := { name := "walNil", fn := fun _ => fun
  | [d1, d2, d3] => { results := [.lit (.bool false)], args := [d1, d2, d3] }
  | _ => none }
def WalNilWrongFalsely : Prop := walNilRow.holds Try.pinned (OpenSpec.ofChange walNilWrong)

/-- 'chandlerlaw3.WalOrder': WHATEVER THE INPUT: true; the input reads as it did. -/
def walOrderSpec : ChangeSpec := { name := "walOrder", fn := fun _ => fun
  | [d1, d2] => { results := [.lit (.bool true)], args := [d1, d2] }
  | _ => none }
def walOrderRow : OpenClaim := { program := "ytiiegimnnngnnaa", sum := "629aa18950da001afed1f82587cf7fbcb9a019fdc327981515dfa5042fa4c173", func := "chandler/chandlerlaw3.WalOrder", spec := "walOrder", apart := false }
def WalOrderSaid : Prop := walOrderRow.holds Try.pinned (OpenSpec.ofChange walOrderSpec)

/-- ITS FALSE NEIGHBOUR: 'it returns false'. Refute it at one input. -/
def walOrderWrong : ChangeSpec := { name := "walOrder", fn := fun _ => fun
  | [d1, d2] => { results := [.lit (.bool false)], args := [d1, d2] }
  | _ => none }
def WalOrderWrongFalsely : Prop := walOrderRow.holds Try.pinned (OpenSpec.ofChange walOrderWrong)

/-- 'chandlerlaw3.WalCrashes': WHATEVER THE INPUT: true; the input reads as it did. -/
def walCrashesSpec : ChangeSpec := { name := "walCrashes", fn := fun _ => fun
  | [d1, d2, d3] => { results := [.lit (.bool true)], args := [d1, d2, d3] }
  | _ => none }
def walCrashesRow : OpenClaim := { program := "ytiiegimnnngnnaa", sum := "629aa18950da001afed1f82587cf7fbcb9a019fdc327981515dfa5042fa4c173", func := "chandler/chandlerlaw3.WalCrashes", spec := "walCrashes", apart := false }
def WalCrashesSaid : Prop := walCrashesRow.holds Try.pinned (OpenSpec.ofChange walCrashesSpec)

/-- ITS FALSE NEIGHBOUR: 'it returns false'. Refute it at one input. -/
def walCrashesWrong : ChangeSpec := { name := "walCrashes", fn := fun _ => fun
  | [d1, d2, d3] => { results := [.lit (.bool false)], args := [d1, d2, d3] }
  | _ => none }
def WalCrashesWrongFalsely : Prop := walCrashesRow.holds Try.pinned (OpenSpec.ofChange walCrashesWrong)

/-- 'chandlerlaw3.WalFails': WHATEVER THE INPUT: true; the input reads as it did. -/
def walFailsSpec : ChangeSpec := { name := "walFails", fn := fun _ => fun
  | [d1, d2, d3] => { results := [.lit (.bool true)], args := [d1, d2, d3] }
  | _ => none }
def walFailsRow : OpenClaim := { program := "ytiiegimnnngnnaa", sum := "629aa18950da001afed1f82587cf7fbcb9a019fdc327981515dfa5042fa4c173", func := "chandler/chandlerlaw3.WalFails", spec := "walFails", apart := false }
def WalFailsSaid : Prop := walFailsRow.holds Try.pinned (OpenSpec.ofChange walFailsSpec)

/-- ITS FALSE NEIGHBOUR: 'it returns false'. Refute it at one input. -/
def walFailsWrong : ChangeSpec := { name := "walFails", fn := fun _ => fun
  | [d1, d2, d3] => { results := [.lit (.bool false)], args := [d1, d2, d3] }
  | _ => none }
def WalFailsWrongFalsely : Prop := walFailsRow.holds Try.pinned (OpenSpec.ofChange walFailsWrong)

/- THE SECOND FORM. 'bulk': how many values and letters a reading holds, each counted each time it is reached (what is shared counts as often as it is met; a slice's spare places count too). A statement '..UptoSaid' is the law's where the arguments, and the package variables that the reading takes, are together of bulk at most 1048576: NARROWER than '..Said'. Prove '..Said' where nothing that the law and all that it calls make is longer than what came in: it says more and counts as full. Else prove '..UptoSaid'. A law counts once. -/
mutual
def uptoBulk {H : Type} : DataW H → Nat
  | .lit (.string bytes) => bytes.length + 1
  | .lit _ => 1
  | .nil => 1
  | .ptr d => uptoBulk d + 1
  | .slice elems spare => uptoBulkAll elems + uptoBulkAll spare + 1
  | .agg parts => uptoBulkAll parts + 1
  | .iface _ d => uptoBulk d + 1
  | .map entries => uptoBulkEntries entries + 1
  | .held _ => 1
def uptoBulkAll {H : Type} : List (DataW H) → Nat
  | [] => 0
  | d :: r => uptoBulk d + uptoBulkAll r
def uptoBulkEntries {H : Type} : List (Lit × DataW H) → Nat
  | [] => 0
  | x :: r => uptoBulkEntry x + uptoBulkEntries r
def uptoBulkEntry {H : Type} : Lit × DataW H → Nat
  | (.string bytes, d) => bytes.length + uptoBulk d + 1
  | (_, d) => uptoBulk d + 1
 end
def uptoSmall : (H : Type) → List (DataW H) → Bool := fun _ ds => decide (uptoBulkAll ds ≤ 1048576)
def OpenSpec.upto (s : _root_.Go.ChangeSpec) : _root_.Go.OpenSpec := { _root_.Go.OpenSpec.ofChange s with cond := some uptoSmall }

/-- 'chandlerlaw1.CrcSums', WHERE WHAT IT READS IS OF BULK AT MOST 1048576: true; the input reads as it did. -/
def crcSumsUptoRow : OpenClaim := { program := "ytiiegimnnngnnaa", sum := "629aa18950da001afed1f82587cf7fbcb9a019fdc327981515dfa5042fa4c173", func := "chandler/chandlerlaw1.CrcSums", spec := "crcSums", apart := false, narrowed := true }
def CrcSumsUptoSaid : Prop := crcSumsUptoRow.holds Try.pinned (OpenSpec.upto crcSumsSpec)

/-- 'chandlerlaw1.CrcGoesOn', WHERE WHAT IT READS IS OF BULK AT MOST 1048576: true; the input reads as it did. -/
def crcGoesOnUptoRow : OpenClaim := { program := "ytiiegimnnngnnaa", sum := "629aa18950da001afed1f82587cf7fbcb9a019fdc327981515dfa5042fa4c173", func := "chandler/chandlerlaw1.CrcGoesOn", spec := "crcGoesOn", apart := false, narrowed := true }
def CrcGoesOnUptoSaid : Prop := crcGoesOnUptoRow.holds Try.pinned (OpenSpec.upto crcGoesOnSpec)

/-- 'chandlerlaw1.CrcTells', WHERE WHAT IT READS IS OF BULK AT MOST 1048576: true; the input reads as it did. -/
def crcTellsUptoRow : OpenClaim := { program := "ytiiegimnnngnnaa", sum := "629aa18950da001afed1f82587cf7fbcb9a019fdc327981515dfa5042fa4c173", func := "chandler/chandlerlaw1.CrcTells", spec := "crcTells", apart := false, narrowed := true }
def CrcTellsUptoSaid : Prop := crcTellsUptoRow.holds Try.pinned (OpenSpec.upto crcTellsSpec)

/-- 'chandlerlaw1.CrcAdds', WHERE WHAT IT READS IS OF BULK AT MOST 1048576: true; the input reads as it did. -/
def crcAddsUptoRow : OpenClaim := { program := "ytiiegimnnngnnaa", sum := "629aa18950da001afed1f82587cf7fbcb9a019fdc327981515dfa5042fa4c173", func := "chandler/chandlerlaw1.CrcAdds", spec := "crcAdds", apart := false, narrowed := true }
def CrcAddsUptoSaid : Prop := crcAddsUptoRow.holds Try.pinned (OpenSpec.upto crcAddsSpec)

/-- 'chandlerlaw1.CrcTable', WHERE WHAT IT READS IS OF BULK AT MOST 1048576: true; the input reads as it did. -/
def crcTableUptoRow : OpenClaim := { program := "ytiiegimnnngnnaa", sum := "629aa18950da001afed1f82587cf7fbcb9a019fdc327981515dfa5042fa4c173", func := "chandler/chandlerlaw1.CrcTable", spec := "crcTable", apart := false, narrowed := true }
def CrcTableUptoSaid : Prop := crcTableUptoRow.holds Try.pinned (OpenSpec.upto crcTableSpec)

/-- 'chandlerlaw2.DiskNew', WHERE WHAT IT READS IS OF BULK AT MOST 1048576: true; the input reads as it did. -/
def diskNewUptoRow : OpenClaim := { program := "ytiiegimnnngnnaa", sum := "629aa18950da001afed1f82587cf7fbcb9a019fdc327981515dfa5042fa4c173", func := "chandler/chandlerlaw2.DiskNew", spec := "diskNew", apart := false, narrowed := true }
def DiskNewUptoSaid : Prop := diskNewUptoRow.holds Try.pinned (OpenSpec.upto diskNewSpec)

/-- 'chandlerlaw2.DiskSure', WHERE WHAT IT READS IS OF BULK AT MOST 1048576: true; the input reads as it did. -/
def diskSureUptoRow : OpenClaim := { program := "ytiiegimnnngnnaa", sum := "629aa18950da001afed1f82587cf7fbcb9a019fdc327981515dfa5042fa4c173", func := "chandler/chandlerlaw2.DiskSure", spec := "diskSure", apart := false, narrowed := true }
def DiskSureUptoSaid : Prop := diskSureUptoRow.holds Try.pinned (OpenSpec.upto diskSureSpec)

/-- 'chandlerlaw2.DiskFuses', WHERE WHAT IT READS IS OF BULK AT MOST 1048576: true; the input reads as it did. -/
def diskFusesUptoRow : OpenClaim := { program := "ytiiegimnnngnnaa", sum := "629aa18950da001afed1f82587cf7fbcb9a019fdc327981515dfa5042fa4c173", func := "chandler/chandlerlaw2.DiskFuses", spec := "diskFuses", apart := false, narrowed := true }
def DiskFusesUptoSaid : Prop := diskFusesUptoRow.holds Try.pinned (OpenSpec.upto diskFusesSpec)

/-- 'chandlerlaw2.DiskPlays', WHERE WHAT IT READS IS OF BULK AT MOST 1048576: true; the input reads as it did. -/
def diskPlaysUptoRow : OpenClaim := { program := "ytiiegimnnngnnaa", sum := "629aa18950da001afed1f82587cf7fbcb9a019fdc327981515dfa5042fa4c173", func := "chandler/chandlerlaw2.DiskPlays", spec := "diskPlays", apart := false, narrowed := true }
def DiskPlaysUptoSaid : Prop := diskPlaysUptoRow.holds Try.pinned (OpenSpec.upto diskPlaysSpec)

/-- 'chandlerlaw2.DiskCopies', WHERE WHAT IT READS IS OF BULK AT MOST 1048576: true; the input reads as it did. -/
def diskCopiesUptoRow : OpenClaim := { program := "ytiiegimnnngnnaa", sum := "629aa18950da001afed1f82587cf7fbcb9a019fdc327981515dfa5042fa4c173", func := "chandler/chandlerlaw2.DiskCopies", spec := "diskCopies", apart := false, narrowed := true }
def DiskCopiesUptoSaid : Prop := diskCopiesUptoRow.holds Try.pinned (OpenSpec.upto diskCopiesSpec)

/-- 'chandlerlaw2.DiskNil', WHERE WHAT IT READS IS OF BULK AT MOST 1048576: true; the input reads as it did. -/
def diskNilUptoRow : OpenClaim := { program := "ytiiegimnnngnnaa", sum := "629aa18950da001afed1f82587cf7fbcb9a019fdc327981515dfa5042fa4c173", func := "chandler/chandlerlaw2.DiskNil", spec := "diskNil", apart := false, narrowed := true }
def DiskNilUptoSaid : Prop := diskNilUptoRow.holds Try.pinned (OpenSpec.upto diskNilSpec)

/-- 'chandlerlaw3.WalNeed', WHERE WHAT IT READS IS OF BULK AT MOST 1048576: true; the input reads as it did. -/
def walNeedUptoRow : OpenClaim := { program := "ytiiegimnnngnnaa", sum := "629aa18950da001afed1f82587cf7fbcb9a019fdc327981515dfa5042fa4c173", func := "chandler/chandlerlaw3.WalNeed", spec := "walNeed", apart := false, narrowed := true }
def WalNeedUptoSaid : Prop := walNeedUptoRow.holds Try.pinned (OpenSpec.upto walNeedSpec)

/-- 'chandlerlaw3.WalMany', WHERE WHAT IT READS IS OF BULK AT MOST 1048576: true; the input reads as it did. -/
def walManyUptoRow : OpenClaim := { program := "ytiiegimnnngnnaa", sum := "629aa18950da001afed1f82587cf7fbcb9a019fdc327981515dfa5042fa4c173", func := "chandler/chandlerlaw3.WalMany", spec := "walMany", apart := false, narrowed := true }
def WalManyUptoSaid : Prop := walManyUptoRow.holds Try.pinned (OpenSpec.upto walManySpec)

/-- 'chandlerlaw3.WalApart', WHERE WHAT IT READS IS OF BULK AT MOST 1048576: true; the input reads as it did. -/
def walApartUptoRow : OpenClaim := { program := "ytiiegimnnngnnaa", sum := "629aa18950da001afed1f82587cf7fbcb9a019fdc327981515dfa5042fa4c173", func := "chandler/chandlerlaw3.WalApart", spec := "walApart", apart := false, narrowed := true }
def WalApartUptoSaid : Prop := walApartUptoRow.holds Try.pinned (OpenSpec.upto walApartSpec)

/-- 'chandlerlaw3.WalOpens', WHERE WHAT IT READS IS OF BULK AT MOST 1048576: true; the input reads as it did. -/
def walOpensUptoRow : OpenClaim := { program := "ytiiegimnnngnnaa", sum := "629aa18950da001afed1f82587cf7fbcb9a019fdc327981515dfa5042fa4c173", func := "chandler/chandlerlaw3.WalOpens", spec := "walOpens", apart := false, narrowed := true }
def WalOpensUptoSaid : Prop := walOpensUptoRow.holds Try.pinned (OpenSpec.upto walOpensSpec)

/-- 'chandlerlaw3.WalPlays', WHERE WHAT IT READS IS OF BULK AT MOST 1048576: true; the input reads as it did. -/
def walPlaysUptoRow : OpenClaim := { program := "ytiiegimnnngnnaa", sum := "629aa18950da001afed1f82587cf7fbcb9a019fdc327981515dfa5042fa4c173", func := "chandler/chandlerlaw3.WalPlays", spec := "walPlays", apart := false, narrowed := true }
def WalPlaysUptoSaid : Prop := walPlaysUptoRow.holds Try.pinned (OpenSpec.upto walPlaysSpec)

/-- 'chandlerlaw3.WalNil', WHERE WHAT IT READS IS OF BULK AT MOST 1048576: true; the input reads as it did. -/
def walNilUptoRow : OpenClaim := { program := "ytiiegimnnngnnaa", sum := "629aa18950da001afed1f82587cf7fbcb9a019fdc327981515dfa5042fa4c173", func := "chandler/chandlerlaw3.WalNil", spec := "walNil", apart := false, narrowed := true }
def WalNilUptoSaid : Prop := walNilUptoRow.holds Try.pinned (OpenSpec.upto walNilSpec)

/-- 'chandlerlaw3.WalOrder', WHERE WHAT IT READS IS OF BULK AT MOST 1048576: true; the input reads as it did. -/
def walOrderUptoRow : OpenClaim := { program := "ytiiegimnnngnnaa", sum := "629aa18950da001afed1f82587cf7fbcb9a019fdc327981515dfa5042fa4c173", func := "chandler/chandlerlaw3.WalOrder", spec := "walOrder", apart := false, narrowed := true }
def WalOrderUptoSaid : Prop := walOrderUptoRow.holds Try.pinned (OpenSpec.upto walOrderSpec)

/-- 'chandlerlaw3.WalCrashes', WHERE WHAT IT READS IS OF BULK AT MOST 1048576: true; the input reads as it did. -/
def walCrashesUptoRow : OpenClaim := { program := "ytiiegimnnngnnaa", sum := "629aa18950da001afed1f82587cf7fbcb9a019fdc327981515dfa5042fa4c173", func := "chandler/chandlerlaw3.WalCrashes", spec := "walCrashes", apart := false, narrowed := true }
def WalCrashesUptoSaid : Prop := walCrashesUptoRow.holds Try.pinned (OpenSpec.upto walCrashesSpec)

/-- 'chandlerlaw3.WalFails', WHERE WHAT IT READS IS OF BULK AT MOST 1048576: true; the input reads as it did. -/
def walFailsUptoRow : OpenClaim := { program := "ytiiegimnnngnnaa", sum := "629aa18950da001afed1f82587cf7fbcb9a019fdc327981515dfa5042fa4c173", func := "chandler/chandlerlaw3.WalFails", spec := "walFails", apart := false, narrowed := true }
def WalFailsUptoSaid : Prop := walFailsUptoRow.holds Try.pinned (OpenSpec.upto walFailsSpec)

end Rows
end Go.Proofs.Ytiiegimnnngnnaa
