/-
  No cell of these rows narrows 'for every input' (looked for: loops, veiled, ifaces, maps, wideKeys, modest, calm, conditions, laid).
  DERIVED. THE GIVEN ROWS OF THIS SEAT. 6 by the template 'for every input the law returns true; each argument reads behind the call as it read before'; 0 by the template 'total and deterministic' (their statements: YtdchnllflodmkaaTotals.lean).
  GIVEN WITH THE SEED: the statements are not yours to turn. If you find one false, say at which input.
  Laid BY PROGRAM, IN A SANDBOX (cutbox-rows.mjs): the forced cells as the released guide's own fill.sh prints them over the translation 083f9844b8d69e74… (all of the seat's roots in one cut). By AI agents, Wed Nov 11 2026. No macro, syntax, notation, axiom, sorry.
-/
import Derived.Test.YtdchnllflodmkaaChecked
import GoSem.Claim
import GoSem.ClaimJoined
import GoSem.ClaimMapViews
import Derived.JoinedTies
import Derived.KernelRfl
namespace Go.Proofs.Ytdchnllflodmkaa
/- THE CELL 'sum', in the pinned program and in every row, IS THE sha256 OF THE DUMP (.gsa) THAT YtdchnllflodmkaaProg.lean LOADS. Nothing in Lean hashes anything: it is a label: what it is worth is what the hold of that sum in a sandbox is worth. -/
noncomputable def Try.pinned : Pinned := { name := "ytdchnllflodmkaa", sum := "083f9844b8d69e741fdd2c7dbe39908a5ed7aea38507023992d4cdc60b7afa68", checked := Try.checked }
namespace Rows
def none {H : Type} : Left H := { results := [], args := [] }

/-- 'chandlerlaw7.RelationMany': WHATEVER THE INPUT: true; the input reads as it did. -/
def relationManySpec : ChangeSpec := { name := "relationMany", fn := fun _ => fun
  | [d1, d2, d3] => { results := [.lit (.bool true)], args := [d1, d2, d3] }
  | _ => none }
def relationManyRow : OpenClaim := { program := "ytdchnllflodmkaa", sum := "083f9844b8d69e741fdd2c7dbe39908a5ed7aea38507023992d4cdc60b7afa68", func := "chandler/chandlerlaw7.RelationMany", spec := "relationMany", inPlace := ["internal/bytealg.IndexByteString", "internal/bytealg.IndexString", "internal/abi.NoEscape", "internal/bytealg.MakeNoZero"], unfollowed := true, recurses := true, named := ["internal/bytealg.MaxLen"], apart := false }
def RelationManySaid : Prop := relationManyRow.holds Try.pinned (OpenSpec.ofChange relationManySpec)

/-- ITS FALSE NEIGHBOUR: 'it returns false'. Refute it at one input. -/
def relationManyWrong : ChangeSpec := { name := "relationMany", fn := fun _ => fun
  | [d1, d2, d3] => { results := [.lit (.bool false)], args := [d1, d2, d3] }
  | _ => none }
def RelationManyWrongFalsely : Prop := relationManyRow.holds Try.pinned (OpenSpec.ofChange relationManyWrong)

/-- 'chandlerlaw7.RelationWhite': WHATEVER THE INPUT: true; the input reads as it did. -/
def relationWhiteSpec : ChangeSpec := { name := "relationWhite", fn := fun _ => fun
  | [d1, d2] => { results := [.lit (.bool true)], args := [d1, d2] }
  | _ => none }
def relationWhiteRow : OpenClaim := { program := "ytdchnllflodmkaa", sum := "083f9844b8d69e741fdd2c7dbe39908a5ed7aea38507023992d4cdc60b7afa68", func := "chandler/chandlerlaw7.RelationWhite", spec := "relationWhite", inPlace := ["internal/bytealg.IndexByteString", "internal/bytealg.IndexString", "internal/abi.NoEscape", "internal/bytealg.MakeNoZero"], unfollowed := true, recurses := true, named := ["internal/bytealg.MaxLen"], apart := false }
def RelationWhiteSaid : Prop := relationWhiteRow.holds Try.pinned (OpenSpec.ofChange relationWhiteSpec)

/-- ITS FALSE NEIGHBOUR: 'it returns false'. Refute it at one input. -/
def relationWhiteWrong : ChangeSpec := { name := "relationWhite", fn := fun _ => fun
  | [d1, d2] => { results := [.lit (.bool false)], args := [d1, d2] }
  | _ => none }
def RelationWhiteWrongFalsely : Prop := relationWhiteRow.holds Try.pinned (OpenSpec.ofChange relationWhiteWrong)

/-- 'chandlerlaw7.RelationJoins': WHATEVER THE INPUT: true; the input reads as it did. -/
def relationJoinsSpec : ChangeSpec := { name := "relationJoins", fn := fun _ => fun
  | [d1, d2] => { results := [.lit (.bool true)], args := [d1, d2] }
  | _ => none }
def relationJoinsRow : OpenClaim := { program := "ytdchnllflodmkaa", sum := "083f9844b8d69e741fdd2c7dbe39908a5ed7aea38507023992d4cdc60b7afa68", func := "chandler/chandlerlaw7.RelationJoins", spec := "relationJoins", inPlace := ["internal/bytealg.IndexByteString", "internal/bytealg.IndexString", "internal/abi.NoEscape", "internal/bytealg.MakeNoZero"], unfollowed := true, recurses := true, named := ["internal/bytealg.MaxLen"], apart := false }
def RelationJoinsSaid : Prop := relationJoinsRow.holds Try.pinned (OpenSpec.ofChange relationJoinsSpec)

/-- ITS FALSE NEIGHBOUR: 'it returns false'. Refute it at one input. -/
def relationJoinsWrong : ChangeSpec := { name := "relationJoins", fn := fun _ => fun
  | [d1, d2] => { results := [.lit (.bool false)], args := [d1, d2] }
  | _ => none }
def RelationJoinsWrongFalsely : Prop := relationJoinsRow.holds Try.pinned (OpenSpec.ofChange relationJoinsWrong)

/-- 'chandlerlaw7.RelationTexts': WHATEVER THE INPUT: true; the input reads as it did. -/
def relationTextsSpec : ChangeSpec := { name := "relationTexts", fn := fun _ => fun
  | [d1, d2, d3, d4] => { results := [.lit (.bool true)], args := [d1, d2, d3, d4] }
  | _ => none }
def relationTextsRow : OpenClaim := { program := "ytdchnllflodmkaa", sum := "083f9844b8d69e741fdd2c7dbe39908a5ed7aea38507023992d4cdc60b7afa68", func := "chandler/chandlerlaw7.RelationTexts", spec := "relationTexts", inPlace := ["internal/bytealg.IndexByteString", "internal/bytealg.IndexString", "internal/abi.NoEscape", "internal/bytealg.MakeNoZero"], unfollowed := true, recurses := true, named := ["internal/bytealg.MaxLen"], apart := false }
def RelationTextsSaid : Prop := relationTextsRow.holds Try.pinned (OpenSpec.ofChange relationTextsSpec)

/-- ITS FALSE NEIGHBOUR: 'it returns false'. Refute it at one input. -/
def relationTextsWrong : ChangeSpec := { name := "relationTexts", fn := fun _ => fun
  | [d1, d2, d3, d4] => { results := [.lit (.bool false)], args := [d1, d2, d3, d4] }
  | _ => none }
def RelationTextsWrongFalsely : Prop := relationTextsRow.holds Try.pinned (OpenSpec.ofChange relationTextsWrong)

/-- 'chandlerlaw7.RelationParses': WHATEVER THE INPUT: true; the input reads as it did. -/
def relationParsesSpec : ChangeSpec := { name := "relationParses", fn := fun _ => fun
  | [d] => { results := [.lit (.bool true)], args := [d] }
  | _ => none }
def relationParsesRow : OpenClaim := { program := "ytdchnllflodmkaa", sum := "083f9844b8d69e741fdd2c7dbe39908a5ed7aea38507023992d4cdc60b7afa68", func := "chandler/chandlerlaw7.RelationParses", spec := "relationParses", inPlace := ["internal/bytealg.IndexByteString", "internal/bytealg.IndexString", "internal/abi.NoEscape", "internal/bytealg.MakeNoZero"], unfollowed := true, recurses := true, named := ["internal/bytealg.MaxLen"], apart := false }
def RelationParsesSaid : Prop := relationParsesRow.holds Try.pinned (OpenSpec.ofChange relationParsesSpec)

/-- ITS FALSE NEIGHBOUR: 'it returns false'. Refute it at one input. -/
def relationParsesWrong : ChangeSpec := { name := "relationParses", fn := fun _ => fun
  | [d] => { results := [.lit (.bool false)], args := [d] }
  | _ => none }
def RelationParsesWrongFalsely : Prop := relationParsesRow.holds Try.pinned (OpenSpec.ofChange relationParsesWrong)

/-- 'chandlerlaw7.RelationBack': WHATEVER THE INPUT: true; the input reads as it did. -/
def relationBackSpec : ChangeSpec := { name := "relationBack", fn := fun _ => fun
  | [d1, d2, d3] => { results := [.lit (.bool true)], args := [d1, d2, d3] }
  | _ => none }
def relationBackRow : OpenClaim := { program := "ytdchnllflodmkaa", sum := "083f9844b8d69e741fdd2c7dbe39908a5ed7aea38507023992d4cdc60b7afa68", func := "chandler/chandlerlaw7.RelationBack", spec := "relationBack", inPlace := ["internal/bytealg.IndexByteString", "internal/bytealg.IndexString", "internal/abi.NoEscape", "internal/bytealg.MakeNoZero"], unfollowed := true, recurses := true, named := ["internal/bytealg.MaxLen"], apart := false }
def RelationBackSaid : Prop := relationBackRow.holds Try.pinned (OpenSpec.ofChange relationBackSpec)

/-- ITS FALSE NEIGHBOUR: 'it returns false'. Refute it at one input. -/
def relationBackWrong : ChangeSpec := { name := "relationBack", fn := fun _ => fun
  | [d1, d2, d3] => { results := [.lit (.bool false)], args := [d1, d2, d3] }
  | _ => none }
def RelationBackWrongFalsely : Prop := relationBackRow.holds Try.pinned (OpenSpec.ofChange relationBackWrong)

/- THE SECOND FORM. 'bulk': how many values and letters a reading holds, each counted each time it is reached (what is shared counts as often as it is met; a slice's spare places count too). A statement '..UptoSaid' is the law's where the arguments, and the package variables that the reading takes, are together of bulk at most 1048576: NARROWER than '..Said'. Prove '..Said' where nothing that the law and all that it calls make is longer than what came in: it says more and counts as full. Else prove '..UptoSaid'. A law counts once. -/
mutual
def uptoBulk {H : Type} : DataW H → Nat
  | .lit (.string bytes) => bytes.length + 1
  | .lit _ => 1
  | .nil => 1
  | .ptr d => uptoBulk d + 1
  | .slice elems spare => uptoBulkAll elems + uptoBulkAll spare + 1
  | .agg parts => uptoBulkAll parts + 1
  | .iface _ d => uptoBulk d + 1
  | .map entries => uptoBulkEntries entries + 1
  | .held _ => 1
def uptoBulkAll {H : Type} : List (DataW H) → Nat
  | [] => 0
  | d :: r => uptoBulk d + uptoBulkAll r
def uptoBulkEntries {H : Type} : List (Lit × DataW H) → Nat
  | [] => 0
  | x :: r => uptoBulkEntry x + uptoBulkEntries r
def uptoBulkEntry {H : Type} : Lit × DataW H → Nat
  | (.string bytes, d) => bytes.length + uptoBulk d + 1
  | (_, d) => uptoBulk d + 1
 end
def uptoSmall : (H : Type) → List (DataW H) → Bool := fun _ ds => decide (uptoBulkAll ds ≤ 1048576)
def OpenSpec.upto (s : _root_.Go.ChangeSpec) : _root_.Go.OpenSpec := { _root_.Go.OpenSpec.ofChange s with cond := some uptoSmall }

/-- 'chandlerlaw7.RelationMany', WHERE WHAT IT READS IS OF BULK AT MOST 1048576: true; the input reads as it did. -/
def relationManyUptoRow : OpenClaim := { program := "ytdchnllflodmkaa", sum := "083f9844b8d69e741fdd2c7dbe39908a5ed7aea38507023992d4cdc60b7afa68", func := "chandler/chandlerlaw7.RelationMany", spec := "relationMany", inPlace := ["internal/bytealg.IndexByteString", "internal/bytealg.IndexString", "internal/abi.NoEscape", "internal/bytealg.MakeNoZero"], unfollowed := true, recurses := true, named := ["internal/bytealg.MaxLen"], apart := false, narrowed := true }
def RelationManyUptoSaid : Prop := relationManyUptoRow.holds Try.pinned (OpenSpec.upto relationManySpec)

/-- 'chandlerlaw7.RelationWhite', WHERE WHAT IT READS IS OF BULK AT MOST 1048576: true; the input reads as it did. -/
def relationWhiteUptoRow : OpenClaim := { program := "ytdchnllflodmkaa", sum := "083f9844b8d69e741fdd2c7dbe39908a5ed7aea38507023992d4cdc60b7afa68", func := "chandler/chandlerlaw7.RelationWhite", spec := "relationWhite", inPlace := ["internal/bytealg.IndexByteString", "internal/bytealg.IndexString", "internal/abi.NoEscape", "internal/bytealg.MakeNoZero"], unfollowed := true, recurses := true, named := ["internal/bytealg.MaxLen"], apart := false, narrowed := true }
def RelationWhiteUptoSaid : Prop := relationWhiteUptoRow.holds Try.pinned (OpenSpec.upto relationWhiteSpec)

/-- 'chandlerlaw7.RelationJoins', WHERE WHAT IT READS IS OF BULK AT MOST 1048576: true; the input reads as it did. -/
def relationJoinsUptoRow : OpenClaim := { program := "ytdchnllflodmkaa", sum := "083f9844b8d69e741fdd2c7dbe39908a5ed7aea38507023992d4cdc60b7afa68", func := "chandler/chandlerlaw7.RelationJoins", spec := "relationJoins", inPlace := ["internal/bytealg.IndexByteString", "internal/bytealg.IndexString", "internal/abi.NoEscape", "internal/bytealg.MakeNoZero"], unfollowed := true, recurses := true, named := ["internal/bytealg.MaxLen"], apart := false, narrowed := true }
def RelationJoinsUptoSaid : Prop := relationJoinsUptoRow.holds Try.pinned (OpenSpec.upto relationJoinsSpec)

/-- 'chandlerlaw7.RelationTexts', WHERE WHAT IT READS IS OF BULK AT MOST 1048576: true; the input reads as it did. -/
def relationTextsUptoRow : OpenClaim := { program := "ytdchnllflodmkaa", sum := "083f9844b8d69e741fdd2c7dbe39908a5ed7aea38507023992d4cdc60b7afa68", func := "chandler/chandlerlaw7.RelationTexts", spec := "relationTexts", inPlace := ["internal/bytealg.IndexByteString", "internal/bytealg.IndexString", "internal/abi.NoEscape", "internal/bytealg.MakeNoZero"], unfollowed := true, recurses := true, named := ["internal/bytealg.MaxLen"], apart := false, narrowed := true }
def RelationTextsUptoSaid : Prop := relationTextsUptoRow.holds Try.pinned (OpenSpec.upto relationTextsSpec)

/-- 'chandlerlaw7.RelationParses', WHERE WHAT IT READS IS OF BULK AT MOST 1048576: true; the input reads as it did. -/
def relationParsesUptoRow : OpenClaim := { program := "ytdchnllflodmkaa", sum := "083f9844b8d69e741fdd2c7dbe39908a5ed7aea38507023992d4cdc60b7afa68", func := "chandler/chandlerlaw7.RelationParses", spec := "relationParses", inPlace := ["internal/bytealg.IndexByteString", "internal/bytealg.IndexString", "internal/abi.NoEscape", "internal/bytealg.MakeNoZero"], unfollowed := true, recurses := true, named := ["internal/bytealg.MaxLen"], apart := false, narrowed := true }
def RelationParsesUptoSaid : Prop := relationParsesUptoRow.holds Try.pinned (OpenSpec.upto relationParsesSpec)

/-- 'chandlerlaw7.RelationBack', WHERE WHAT IT READS IS OF BULK AT MOST 1048576: true; the input reads as it did. -/
def relationBackUptoRow : OpenClaim := { program := "ytdchnllflodmkaa", sum := "083f9844b8d69e741fdd2c7dbe39908a5ed7aea38507023992d4cdc60b7afa68", func := "chandler/chandlerlaw7.RelationBack", spec := "relationBack", inPlace := ["internal/bytealg.IndexByteString", "internal/bytealg.IndexString", "internal/abi.NoEscape", "internal/bytealg.MakeNoZero"], unfollowed := true, recurses := true, named := ["internal/bytealg.MaxLen"], apart := false, narrowed := true }
def RelationBackUptoSaid : Prop := relationBackUptoRow.holds Try.pinned (OpenSpec.upto relationBackSpec)

end Rows
end Go.Proofs.Ytdchnllflodmkaa
