/-
  No cell of these rows narrows 'for every input' (looked for: loops, veiled, ifaces, maps, wideKeys, modest, calm, conditions, laid).
  DERIVED. THE GIVEN ROWS OF THIS SEAT. 4 by the template 'for every input the law returns true; each argument reads behind the call as it read before'; 0 by the template 'total and deterministic' (their statements: YtjkaigfpjebfbaaTotals.lean).
  GIVEN WITH THE SEED: the statements are not yours to turn. If you find one false, say at which input.
  Laid BY PROGRAM, IN A SANDBOX (cutbox-rows.mjs): the forced cells as the released guide's own fill.sh prints them over the translation 813b4e7640cce71a… (all of the seat's roots in one cut). By AI agents, Wed Nov 11 2026. No macro, syntax, notation, axiom, sorry.
-/
import Derived.Test.YtjkaigfpjebfbaaChecked
import GoSem.Claim
import GoSem.ClaimJoined
import GoSem.ClaimMapViews
import Derived.JoinedTies
import Derived.KernelRfl
namespace Go.Proofs.Ytjkaigfpjebfbaa
/- THE CELL 'sum', in the pinned program and in every row, IS THE sha256 OF THE DUMP (.gsa) THAT YtjkaigfpjebfbaaProg.lean LOADS. Nothing in Lean hashes anything: it is a label: what it is worth is what the hold of that sum in a sandbox is worth. -/
noncomputable def Try.pinned : Pinned := { name := "ytjkaigfpjebfbaa", sum := "813b4e7640cce71a410d2c8eeabb6585efcd4b7386bba285e264c92ebf15af77", checked := Try.checked }
namespace Rows
def none {H : Type} : Left H := { results := [], args := [] }

/-- 'chandlerlaw8.ValueTries': WHATEVER THE INPUT: true; the input reads as it did. -/
def valueTriesSpec : ChangeSpec := { name := "valueTries", fn := fun _ => fun
  | [d1, d2] => { results := [.lit (.bool true)], args := [d1, d2] }
  | _ => none }
def valueTriesRow : OpenClaim := { program := "ytjkaigfpjebfbaa", sum := "813b4e7640cce71a410d2c8eeabb6585efcd4b7386bba285e264c92ebf15af77", func := "chandler/chandlerlaw8.ValueTries", spec := "valueTries", inPlace := ["internal/bytealg.IndexByteString", "internal/bytealg.IndexString"], unfollowed := true, recurses := true, named := ["internal/bytealg.MaxLen"], apart := false }
def ValueTriesSaid : Prop := valueTriesRow.holds Try.pinned (OpenSpec.ofChange valueTriesSpec)

/-- ITS FALSE NEIGHBOUR: 'it returns false'. Refute it at one input. -/
def valueTriesWrong : ChangeSpec := { name := "valueTries", fn := fun _ => fun
  | [d1, d2] => { results := [.lit (.bool false)], args := [d1, d2] }
  | _ => none }
def ValueTriesWrongFalsely : Prop := valueTriesRow.holds Try.pinned (OpenSpec.ofChange valueTriesWrong)

/-- 'chandlerlaw8.ValueMust': WHATEVER THE INPUT: true; the input reads as it did. -/
def valueMustSpec : ChangeSpec := { name := "valueMust", fn := fun _ => fun
  | [d] => { results := [.lit (.bool true)], args := [d] }
  | _ => none }
def valueMustRow : OpenClaim := { program := "ytjkaigfpjebfbaa", sum := "813b4e7640cce71a410d2c8eeabb6585efcd4b7386bba285e264c92ebf15af77", func := "chandler/chandlerlaw8.ValueMust", spec := "valueMust", inPlace := ["internal/bytealg.IndexByteString", "internal/bytealg.IndexString"], unfollowed := true, recurses := true, named := ["internal/bytealg.MaxLen"], apart := false }
def ValueMustSaid : Prop := valueMustRow.holds Try.pinned (OpenSpec.ofChange valueMustSpec)

/-- ITS FALSE NEIGHBOUR: 'it returns false'. Refute it at one input. -/
def valueMustWrong : ChangeSpec := { name := "valueMust", fn := fun _ => fun
  | [d] => { results := [.lit (.bool false)], args := [d] }
  | _ => none }
def ValueMustWrongFalsely : Prop := valueMustRow.holds Try.pinned (OpenSpec.ofChange valueMustWrong)

/-- 'chandlerlaw8.ValueKinds': WHATEVER THE INPUT: true; the input reads as it did. -/
def valueKindsSpec : ChangeSpec := { name := "valueKinds", fn := fun _ => fun
  | [d] => { results := [.lit (.bool true)], args := [d] }
  | _ => none }
def valueKindsRow : OpenClaim := { program := "ytjkaigfpjebfbaa", sum := "813b4e7640cce71a410d2c8eeabb6585efcd4b7386bba285e264c92ebf15af77", func := "chandler/chandlerlaw8.ValueKinds", spec := "valueKinds", inPlace := ["internal/bytealg.IndexByteString", "internal/bytealg.IndexString"], unfollowed := true, recurses := true, named := ["internal/bytealg.MaxLen"], apart := false }
def ValueKindsSaid : Prop := valueKindsRow.holds Try.pinned (OpenSpec.ofChange valueKindsSpec)

/-- ITS FALSE NEIGHBOUR: 'it returns false'. Refute it at one input. -/
def valueKindsWrong : ChangeSpec := { name := "valueKinds", fn := fun _ => fun
  | [d] => { results := [.lit (.bool false)], args := [d] }
  | _ => none }
def ValueKindsWrongFalsely : Prop := valueKindsRow.holds Try.pinned (OpenSpec.ofChange valueKindsWrong)

/-- 'chandlerlaw8.ValueReads': WHATEVER THE INPUT: true; the input reads as it did. -/
def valueReadsSpec : ChangeSpec := { name := "valueReads", fn := fun _ => fun
  | [d1, d2] => { results := [.lit (.bool true)], args := [d1, d2] }
  | _ => none }
def valueReadsRow : OpenClaim := { program := "ytjkaigfpjebfbaa", sum := "813b4e7640cce71a410d2c8eeabb6585efcd4b7386bba285e264c92ebf15af77", func := "chandler/chandlerlaw8.ValueReads", spec := "valueReads", inPlace := ["internal/bytealg.IndexByteString", "internal/bytealg.IndexString"], unfollowed := true, recurses := true, named := ["internal/bytealg.MaxLen"], apart := false }
def ValueReadsSaid : Prop := valueReadsRow.holds Try.pinned (OpenSpec.ofChange valueReadsSpec)

/-- ITS FALSE NEIGHBOUR: 'it returns false'. Refute it at one input. -/
def valueReadsWrong : ChangeSpec := { name := "valueReads", fn := fun _ => fun
  | [d1, d2] => { results := [.lit (.bool false)], args := [d1, d2] }
  | _ => none }
def ValueReadsWrongFalsely : Prop := valueReadsRow.holds Try.pinned (OpenSpec.ofChange valueReadsWrong)

/- THE SECOND FORM. 'bulk': how many values and letters a reading holds, each counted each time it is reached (what is shared counts as often as it is met; a slice's spare places count too). A statement '..UptoSaid' is the law's where the arguments, and the package variables that the reading takes, are together of bulk at most 1048576: NARROWER than '..Said'. Prove '..Said' where nothing that the law and all that it calls make is longer than what came in: it says more and counts as full. Else prove '..UptoSaid'. A law counts once. -/
mutual
def uptoBulk {H : Type} : DataW H → Nat
  | .lit (.string bytes) => bytes.length + 1
  | .lit _ => 1
  | .nil => 1
  | .ptr d => uptoBulk d + 1
  | .slice elems spare => uptoBulkAll elems + uptoBulkAll spare + 1
  | .agg parts => uptoBulkAll parts + 1
  | .iface _ d => uptoBulk d + 1
  | .map entries => uptoBulkEntries entries + 1
  | .held _ => 1
def uptoBulkAll {H : Type} : List (DataW H) → Nat
  | [] => 0
  | d :: r => uptoBulk d + uptoBulkAll r
def uptoBulkEntries {H : Type} : List (Lit × DataW H) → Nat
  | [] => 0
  | x :: r => uptoBulkEntry x + uptoBulkEntries r
def uptoBulkEntry {H : Type} : Lit × DataW H → Nat
  | (.string bytes, d) => bytes.length + uptoBulk d + 1
  | (_, d) => uptoBulk d + 1
 end
def uptoSmall : (H : Type) → List (DataW H) → Bool := fun _ ds => decide (uptoBulkAll ds ≤ 1048576)
def OpenSpec.upto (s : _root_.Go.ChangeSpec) : _root_.Go.OpenSpec := { _root_.Go.OpenSpec.ofChange s with cond := some uptoSmall }

/-- 'chandlerlaw8.ValueTries', WHERE WHAT IT READS IS OF BULK AT MOST 1048576: true; the input reads as it did. -/
def valueTriesUptoRow : OpenClaim := { program := "ytjkaigfpjebfbaa", sum := "813b4e7640cce71a410d2c8eeabb6585efcd4b7386bba285e264c92ebf15af77", func := "chandler/chandlerlaw8.ValueTries", spec := "valueTries", inPlace := ["internal/bytealg.IndexByteString", "internal/bytealg.IndexString"], unfollowed := true, recurses := true, named := ["internal/bytealg.MaxLen"], apart := false, narrowed := true }
def ValueTriesUptoSaid : Prop := valueTriesUptoRow.holds Try.pinned (OpenSpec.upto valueTriesSpec)

/-- 'chandlerlaw8.ValueMust', WHERE WHAT IT READS IS OF BULK AT MOST 1048576: true; the input reads as it did. -/
def valueMustUptoRow : OpenClaim := { program := "ytjkaigfpjebfbaa", sum := "813b4e7640cce71a410d2c8eeabb6585efcd4b7386bba285e264c92ebf15af77", func := "chandler/chandlerlaw8.ValueMust", spec := "valueMust", inPlace := ["internal/bytealg.IndexByteString", "internal/bytealg.IndexString"], unfollowed := true, recurses := true, named := ["internal/bytealg.MaxLen"], apart := false, narrowed := true }
def ValueMustUptoSaid : Prop := valueMustUptoRow.holds Try.pinned (OpenSpec.upto valueMustSpec)

/-- 'chandlerlaw8.ValueKinds', WHERE WHAT IT READS IS OF BULK AT MOST 1048576: true; the input reads as it did. -/
def valueKindsUptoRow : OpenClaim := { program := "ytjkaigfpjebfbaa", sum := "813b4e7640cce71a410d2c8eeabb6585efcd4b7386bba285e264c92ebf15af77", func := "chandler/chandlerlaw8.ValueKinds", spec := "valueKinds", inPlace := ["internal/bytealg.IndexByteString", "internal/bytealg.IndexString"], unfollowed := true, recurses := true, named := ["internal/bytealg.MaxLen"], apart := false, narrowed := true }
def ValueKindsUptoSaid : Prop := valueKindsUptoRow.holds Try.pinned (OpenSpec.upto valueKindsSpec)

/-- 'chandlerlaw8.ValueReads', WHERE WHAT IT READS IS OF BULK AT MOST 1048576: true; the input reads as it did. -/
def valueReadsUptoRow : OpenClaim := { program := "ytjkaigfpjebfbaa", sum := "813b4e7640cce71a410d2c8eeabb6585efcd4b7386bba285e264c92ebf15af77", func := "chandler/chandlerlaw8.ValueReads", spec := "valueReads", inPlace := ["internal/bytealg.IndexByteString", "internal/bytealg.IndexString"], unfollowed := true, recurses := true, named := ["internal/bytealg.MaxLen"], apart := false, narrowed := true }
def ValueReadsUptoSaid : Prop := valueReadsUptoRow.holds Try.pinned (OpenSpec.upto valueReadsSpec)

end Rows
end Go.Proofs.Ytjkaigfpjebfbaa
