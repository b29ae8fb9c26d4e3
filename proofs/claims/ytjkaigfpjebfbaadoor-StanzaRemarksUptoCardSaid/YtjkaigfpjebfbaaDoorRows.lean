/-
  NARROWER THAN 'FOR EVERY INPUT', by the rows' own cells (each row's printed sentence says how): StanzaParses: laid · StanzaGets: laid · StanzaMany: laid · StanzaRemarks: laid · StanzaPrints: laid · StanzaBack: laid · StanzaParsed: laid · StanzaJoins: laid.
  DERIVED. THE GIVEN ROWS OF THIS SEAT. 8 by the template 'for every input the law returns true; each argument reads behind the call as it read before'; 0 by the template 'total and deterministic' (their statements: YtjkaigfpjebfbaaDoorTotals.lean).
  GIVEN WITH THE SEED: the statements are not yours to turn. If you find one false, say at which input.
  Laid BY PROGRAM, IN A SANDBOX (cutbox-rows.mjs): the forced cells as the released guide's own fill.sh prints them over the translation 889d569fd4e31057… (all of the seat's roots in one cut). By AI agents, Wed Nov 11 2026. No macro, syntax, notation, axiom, sorry.
-/
import Derived.Test.YtjkaigfpjebfbaaDoorChecked
import GoSem.PinnedTables
import GoSem.Claim
import GoSem.ClaimJoined
import GoSem.ClaimMapViews
import Derived.JoinedTies
import Derived.KernelRfl
namespace Go.Proofs.YtjkaigfpjebfbaaDoor
/- THE CELL 'sum', in the pinned program and in every row, IS THE sha256 OF THE DUMP (.gsa) THAT YtjkaigfpjebfbaaDoorProg.lean LOADS. Nothing in Lean hashes anything: it is a label: what it is worth is what the hold of that sum in a sandbox is worth. -/
noncomputable def Tryd.pinned : Pinned := { name := "ytjkaigfpjebfbaadoor", sum := "889d569fd4e3105782b4f11cf6c421fea3a9cf9f7d1cef0eef74e36d49c27f71", checked := Tryd.checked }
namespace Rows
def none {H : Type} : Left H := { results := [], args := [] }

/- WHAT THE LISTED PACKAGE-LEVEL VARIABLES READ AS WHEN THE CALL BEGINS. Each datum BY PROGRAM (the guide's laid-datum.mjs) off the statement by which the dump's own 'gosem.cut.vars' lays the variable. In a bare row this is a premise. The card (YtjkaigfpjebfbaaDoorCards.lean) ties it to the program's text. -/
def laid_unicode_utf8_acceptRanges {H : Type} : DataW H := .agg [.agg [.lit (.int .u8 128), .lit (.int .u8 191)], .agg [.lit (.int .u8 160), .lit (.int .u8 191)], .agg [.lit (.int .u8 128), .lit (.int .u8 159)], .agg [.lit (.int .u8 144), .lit (.int .u8 191)], .agg [.lit (.int .u8 128), .lit (.int .u8 143)], .agg [.lit (.int .u8 0), .lit (.int .u8 0)], .agg [.lit (.int .u8 0), .lit (.int .u8 0)], .agg [.lit (.int .u8 0), .lit (.int .u8 0)], .agg [.lit (.int .u8 0), .lit (.int .u8 0)], .agg [.lit (.int .u8 0), .lit (.int .u8 0)], .agg [.lit (.int .u8 0), .lit (.int .u8 0)], .agg [.lit (.int .u8 0), .lit (.int .u8 0)], .agg [.lit (.int .u8 0), .lit (.int .u8 0)], .agg [.lit (.int .u8 0), .lit (.int .u8 0)], .agg [.lit (.int .u8 0), .lit (.int .u8 0)], .agg [.lit (.int .u8 0), .lit (.int .u8 0)]]
/-- One of Go's own tables, pinned by name: the form's constant. -/
def laid_unicode_utf8_first : DataW Unit := Go.Pinned.utf8First

/-- 'chandlerlaw5.StanzaParses': WHATEVER THE INPUT: true; the input reads as it did. -/
def stanzaParsesSpec : ChangeSpec := { name := "stanzaParses", fn := fun _ => fun
  | [d] => { results := [.lit (.bool true)], args := [d] }
  | _ => none }
def stanzaParsesRow : OpenClaim := { program := "ytjkaigfpjebfbaadoor", sum := "889d569fd4e3105782b4f11cf6c421fea3a9cf9f7d1cef0eef74e36d49c27f71", func := "chandler/chandlerlaw5.StanzaParses", spec := "stanzaParses", inPlace := ["internal/bytealg.CountString", "internal/bytealg.IndexByteString", "internal/bytealg.IndexString", "internal/abi.NoEscape", "internal/bytealg.MakeNoZero"], unfollowed := true, recurses := true, named := ["unicode/utf8.first", "unicode/utf8.acceptRanges", "internal/bytealg.MaxLen"], apart := false, laid := [("unicode/utf8.acceptRanges", laid_unicode_utf8_acceptRanges), ("unicode/utf8.first", laid_unicode_utf8_first)] }
def StanzaParsesSaid : Prop := stanzaParsesRow.holds Tryd.pinned (OpenSpec.ofChange stanzaParsesSpec)

/-- ITS FALSE NEIGHBOUR: 'it returns false'. Refute it at one input. -/
def stanzaParsesWrong : ChangeSpec := { name := "stanzaParses", fn := fun _ => fun
  | [d] => { results := [.lit (.bool false)], args := [d] }
  | _ => none }
def StanzaParsesWrongFalsely : Prop := stanzaParsesRow.holds Tryd.pinned (OpenSpec.ofChange stanzaParsesWrong)

/-- 'chandlerlaw5.StanzaGets': WHATEVER THE INPUT: true; the input reads as it did. -/
def stanzaGetsSpec : ChangeSpec := { name := "stanzaGets", fn := fun _ => fun
  | [d1, d2, d3] => { results := [.lit (.bool true)], args := [d1, d2, d3] }
  | _ => none }
def stanzaGetsRow : OpenClaim := { program := "ytjkaigfpjebfbaadoor", sum := "889d569fd4e3105782b4f11cf6c421fea3a9cf9f7d1cef0eef74e36d49c27f71", func := "chandler/chandlerlaw5.StanzaGets", spec := "stanzaGets", inPlace := ["internal/bytealg.CountString", "internal/bytealg.IndexByteString", "internal/bytealg.IndexString", "internal/abi.NoEscape", "internal/bytealg.MakeNoZero"], unfollowed := true, recurses := true, named := ["unicode/utf8.first", "unicode/utf8.acceptRanges", "internal/bytealg.MaxLen"], apart := false, laid := [("unicode/utf8.acceptRanges", laid_unicode_utf8_acceptRanges), ("unicode/utf8.first", laid_unicode_utf8_first)] }
def StanzaGetsSaid : Prop := stanzaGetsRow.holds Tryd.pinned (OpenSpec.ofChange stanzaGetsSpec)

/-- ITS FALSE NEIGHBOUR: 'it returns false'. Refute it at one input. -/
def stanzaGetsWrong : ChangeSpec := { name := "stanzaGets", fn := fun _ => fun
  | [d1, d2, d3] => { results := [.lit (.bool false)], args := [d1, d2, d3] }
  | _ => none }
def StanzaGetsWrongFalsely : Prop := stanzaGetsRow.holds Tryd.pinned (OpenSpec.ofChange stanzaGetsWrong)

/-- 'chandlerlaw5.StanzaMany': WHATEVER THE INPUT: true; the input reads as it did. -/
def stanzaManySpec : ChangeSpec := { name := "stanzaMany", fn := fun _ => fun
  | [d1, d2] => { results := [.lit (.bool true)], args := [d1, d2] }
  | _ => none }
def stanzaManyRow : OpenClaim := { program := "ytjkaigfpjebfbaadoor", sum := "889d569fd4e3105782b4f11cf6c421fea3a9cf9f7d1cef0eef74e36d49c27f71", func := "chandler/chandlerlaw5.StanzaMany", spec := "stanzaMany", inPlace := ["internal/bytealg.CountString", "internal/bytealg.IndexByteString", "internal/bytealg.IndexString", "internal/abi.NoEscape", "internal/bytealg.MakeNoZero"], unfollowed := true, recurses := true, named := ["unicode/utf8.first", "unicode/utf8.acceptRanges", "internal/bytealg.MaxLen"], apart := false, laid := [("unicode/utf8.acceptRanges", laid_unicode_utf8_acceptRanges), ("unicode/utf8.first", laid_unicode_utf8_first)] }
def StanzaManySaid : Prop := stanzaManyRow.holds Tryd.pinned (OpenSpec.ofChange stanzaManySpec)

/-- ITS FALSE NEIGHBOUR: 'it returns false'. Refute it at one input. -/
def stanzaManyWrong : ChangeSpec := { name := "stanzaMany", fn := fun _ => fun
  | [d1, d2] => { results := [.lit (.bool false)], args := [d1, d2] }
  | _ => none }
def StanzaManyWrongFalsely : Prop := stanzaManyRow.holds Tryd.pinned (OpenSpec.ofChange stanzaManyWrong)

/-- 'chandlerlaw5.StanzaRemarks': WHATEVER THE INPUT: true; the input reads as it did. -/
def stanzaRemarksSpec : ChangeSpec := { name := "stanzaRemarks", fn := fun _ => fun
  | [d1, d2] => { results := [.lit (.bool true)], args := [d1, d2] }
  | _ => none }
def stanzaRemarksRow : OpenClaim := { program := "ytjkaigfpjebfbaadoor", sum := "889d569fd4e3105782b4f11cf6c421fea3a9cf9f7d1cef0eef74e36d49c27f71", func := "chandler/chandlerlaw5.StanzaRemarks", spec := "stanzaRemarks", inPlace := ["internal/bytealg.CountString", "internal/bytealg.IndexByteString", "internal/bytealg.IndexString", "internal/abi.NoEscape", "internal/bytealg.MakeNoZero"], unfollowed := true, recurses := true, named := ["unicode/utf8.first", "unicode/utf8.acceptRanges", "internal/bytealg.MaxLen"], apart := false, laid := [("unicode/utf8.acceptRanges", laid_unicode_utf8_acceptRanges), ("unicode/utf8.first", laid_unicode_utf8_first)] }
def StanzaRemarksSaid : Prop := stanzaRemarksRow.holds Tryd.pinned (OpenSpec.ofChange stanzaRemarksSpec)

/-- ITS FALSE NEIGHBOUR: 'it returns false'. Refute it at one input. -/
def stanzaRemarksWrong : ChangeSpec := { name := "stanzaRemarks", fn := fun _ => fun
  | [d1, d2] => { results := [.lit (.bool false)], args := [d1, d2] }
  | _ => none }
def StanzaRemarksWrongFalsely : Prop := stanzaRemarksRow.holds Tryd.pinned (OpenSpec.ofChange stanzaRemarksWrong)

/-- 'chandlerlaw5.StanzaPrints': WHATEVER THE INPUT: true; the input reads as it did. -/
def stanzaPrintsSpec : ChangeSpec := { name := "stanzaPrints", fn := fun _ => fun
  | [d] => { results := [.lit (.bool true)], args := [d] }
  | _ => none }
def stanzaPrintsRow : OpenClaim := { program := "ytjkaigfpjebfbaadoor", sum := "889d569fd4e3105782b4f11cf6c421fea3a9cf9f7d1cef0eef74e36d49c27f71", func := "chandler/chandlerlaw5.StanzaPrints", spec := "stanzaPrints", inPlace := ["internal/bytealg.CountString", "internal/bytealg.IndexByteString", "internal/bytealg.IndexString", "internal/abi.NoEscape", "internal/bytealg.MakeNoZero"], unfollowed := true, recurses := true, named := ["unicode/utf8.first", "unicode/utf8.acceptRanges", "internal/bytealg.MaxLen"], apart := false, laid := [("unicode/utf8.acceptRanges", laid_unicode_utf8_acceptRanges), ("unicode/utf8.first", laid_unicode_utf8_first)] }
def StanzaPrintsSaid : Prop := stanzaPrintsRow.holds Tryd.pinned (OpenSpec.ofChange stanzaPrintsSpec)

/-- ITS FALSE NEIGHBOUR: 'it returns false'. Refute it at one input. -/
def stanzaPrintsWrong : ChangeSpec := { name := "stanzaPrints", fn := fun _ => fun
  | [d] => { results := [.lit (.bool false)], args := [d] }
  | _ => none }
def StanzaPrintsWrongFalsely : Prop := stanzaPrintsRow.holds Tryd.pinned (OpenSpec.ofChange stanzaPrintsWrong)

/-- 'chandlerlaw5.StanzaBack': WHATEVER THE INPUT: true; the input reads as it did. -/
def stanzaBackSpec : ChangeSpec := { name := "stanzaBack", fn := fun _ => fun
  | [d] => { results := [.lit (.bool true)], args := [d] }
  | _ => none }
def stanzaBackRow : OpenClaim := { program := "ytjkaigfpjebfbaadoor", sum := "889d569fd4e3105782b4f11cf6c421fea3a9cf9f7d1cef0eef74e36d49c27f71", func := "chandler/chandlerlaw5.StanzaBack", spec := "stanzaBack", inPlace := ["internal/bytealg.CountString", "internal/bytealg.IndexByteString", "internal/bytealg.IndexString", "internal/abi.NoEscape", "internal/bytealg.MakeNoZero"], unfollowed := true, recurses := true, named := ["unicode/utf8.first", "unicode/utf8.acceptRanges", "internal/bytealg.MaxLen"], apart := false, laid := [("unicode/utf8.acceptRanges", laid_unicode_utf8_acceptRanges), ("unicode/utf8.first", laid_unicode_utf8_first)] }
def StanzaBackSaid : Prop := stanzaBackRow.holds Tryd.pinned (OpenSpec.ofChange stanzaBackSpec)

/-- ITS FALSE NEIGHBOUR: 'it returns false'. Refute it at one input. -/
def stanzaBackWrong : ChangeSpec := { name := "stanzaBack", fn := fun _ => fun
  | [d] => { results := [.lit (.bool false)], args := [d] }
  | _ => none }
def StanzaBackWrongFalsely : Prop := stanzaBackRow.holds Tryd.pinned (OpenSpec.ofChange stanzaBackWrong)

/-- 'chandlerlaw5.StanzaParsed': WHATEVER THE INPUT: true; the input reads as it did. -/
def stanzaParsedSpec : ChangeSpec := { name := "stanzaParsed", fn := fun _ => fun
  | [d] => { results := [.lit (.bool true)], args := [d] }
  | _ => none }
def stanzaParsedRow : OpenClaim := { program := "ytjkaigfpjebfbaadoor", sum := "889d569fd4e3105782b4f11cf6c421fea3a9cf9f7d1cef0eef74e36d49c27f71", func := "chandler/chandlerlaw5.StanzaParsed", spec := "stanzaParsed", inPlace := ["internal/bytealg.CountString", "internal/bytealg.IndexByteString", "internal/bytealg.IndexString", "internal/abi.NoEscape", "internal/bytealg.MakeNoZero"], unfollowed := true, recurses := true, named := ["unicode/utf8.first", "unicode/utf8.acceptRanges", "internal/bytealg.MaxLen"], apart := false, laid := [("unicode/utf8.acceptRanges", laid_unicode_utf8_acceptRanges), ("unicode/utf8.first", laid_unicode_utf8_first)] }
def StanzaParsedSaid : Prop := stanzaParsedRow.holds Tryd.pinned (OpenSpec.ofChange stanzaParsedSpec)

/-- ITS FALSE NEIGHBOUR: 'it returns false'. Refute it at one input. -/
def stanzaParsedWrong : ChangeSpec := { name := "stanzaParsed", fn := fun _ => fun
  | [d] => { results := [.lit (.bool false)], args := [d] }
  | _ => none }
def StanzaParsedWrongFalsely : Prop := stanzaParsedRow.holds Tryd.pinned (OpenSpec.ofChange stanzaParsedWrong)

/-- 'chandlerlaw5.StanzaJoins': WHATEVER THE INPUT: true; the input reads as it did. -/
def stanzaJoinsSpec : ChangeSpec := { name := "stanzaJoins", fn := fun _ => fun
  | [d1, d2] => { results := [.lit (.bool true)], args := [d1, d2] }
  | _ => none }
def stanzaJoinsRow : OpenClaim := { program := "ytjkaigfpjebfbaadoor", sum := "889d569fd4e3105782b4f11cf6c421fea3a9cf9f7d1cef0eef74e36d49c27f71", func := "chandler/chandlerlaw5.StanzaJoins", spec := "stanzaJoins", inPlace := ["internal/bytealg.CountString", "internal/bytealg.IndexByteString", "internal/bytealg.IndexString", "internal/abi.NoEscape", "internal/bytealg.MakeNoZero"], unfollowed := true, recurses := true, named := ["unicode/utf8.first", "unicode/utf8.acceptRanges", "internal/bytealg.MaxLen"], apart := false, laid := [("unicode/utf8.acceptRanges", laid_unicode_utf8_acceptRanges), ("unicode/utf8.first", laid_unicode_utf8_first)] }
def StanzaJoinsSaid : Prop := stanzaJoinsRow.holds Tryd.pinned (OpenSpec.ofChange stanzaJoinsSpec)

/-- ITS FALSE NEIGHBOUR: 'it returns false'. Refute it at one input. -/
def stanzaJoinsWrong : ChangeSpec := { name := "stanzaJoins", fn := fun _ => fun
  | [d1, d2] => { results := [.lit (.bool false)], args := [d1, d2] }
  | _ => none }
def StanzaJoinsWrongFalsely : Prop := stanzaJoinsRow.holds Tryd.pinned (OpenSpec.ofChange stanzaJoinsWrong)

/- THE SECOND FORM. 'bulk': how many values and letters a reading holds, each counted each time it is reached (what is shared counts as often as it is met; a slice's spare places count too). A statement '..UptoSaid' is the law's where the arguments, and the package variables that the reading takes, are together of bulk at most 1048576: NARROWER than '..Said'. Prove '..Said' where nothing that the law and all that it calls make is longer than what came in: it says more and counts as full. Else prove '..UptoSaid'. A law counts once. -/
mutual
def uptoBulk {H : Type} : DataW H → Nat
  | .lit (.string bytes) => bytes.length + 1
  | .lit _ => 1
  | .nil => 1
  | .ptr d => uptoBulk d + 1
  | .slice elems spare => uptoBulkAll elems + uptoBulkAll spare + 1
  | .agg parts => uptoBulkAll parts + 1
  | .iface _ d => uptoBulk d + 1
  | .map entries => uptoBulkEntries entries + 1
  | .held _ => 1
def uptoBulkAll {H : Type} : List (DataW H) → Nat
  | [] => 0
  | d :: r => uptoBulk d + uptoBulkAll r
def uptoBulkEntries {H : Type} : List (Lit × DataW H) → Nat
  | [] => 0
  | x :: r => uptoBulkEntry x + uptoBulkEntries r
def uptoBulkEntry {H : Type} : Lit × DataW H → Nat
  | (.string bytes, d) => bytes.length + uptoBulk d + 1
  | (_, d) => uptoBulk d + 1
 end
def uptoSmall : (H : Type) → List (DataW H) → Bool := fun _ ds => decide (uptoBulkAll ds ≤ 1048576)
def OpenSpec.upto (s : _root_.Go.ChangeSpec) : _root_.Go.OpenSpec := { _root_.Go.OpenSpec.ofChange s with cond := some uptoSmall }

/-- 'chandlerlaw5.StanzaParses', WHERE WHAT IT READS IS OF BULK AT MOST 1048576: true; the input reads as it did. -/
def stanzaParsesUptoRow : OpenClaim := { program := "ytjkaigfpjebfbaadoor", sum := "889d569fd4e3105782b4f11cf6c421fea3a9cf9f7d1cef0eef74e36d49c27f71", func := "chandler/chandlerlaw5.StanzaParses", spec := "stanzaParses", inPlace := ["internal/bytealg.CountString", "internal/bytealg.IndexByteString", "internal/bytealg.IndexString", "internal/abi.NoEscape", "internal/bytealg.MakeNoZero"], unfollowed := true, recurses := true, named := ["unicode/utf8.first", "unicode/utf8.acceptRanges", "internal/bytealg.MaxLen"], apart := false, laid := [("unicode/utf8.acceptRanges", laid_unicode_utf8_acceptRanges), ("unicode/utf8.first", laid_unicode_utf8_first)], narrowed := true }
def StanzaParsesUptoSaid : Prop := stanzaParsesUptoRow.holds Tryd.pinned (OpenSpec.upto stanzaParsesSpec)

/-- 'chandlerlaw5.StanzaGets', WHERE WHAT IT READS IS OF BULK AT MOST 1048576: true; the input reads as it did. -/
def stanzaGetsUptoRow : OpenClaim := { program := "ytjkaigfpjebfbaadoor", sum := "889d569fd4e3105782b4f11cf6c421fea3a9cf9f7d1cef0eef74e36d49c27f71", func := "chandler/chandlerlaw5.StanzaGets", spec := "stanzaGets", inPlace := ["internal/bytealg.CountString", "internal/bytealg.IndexByteString", "internal/bytealg.IndexString", "internal/abi.NoEscape", "internal/bytealg.MakeNoZero"], unfollowed := true, recurses := true, named := ["unicode/utf8.first", "unicode/utf8.acceptRanges", "internal/bytealg.MaxLen"], apart := false, laid := [("unicode/utf8.acceptRanges", laid_unicode_utf8_acceptRanges), ("unicode/utf8.first", laid_unicode_utf8_first)], narrowed := true }
def StanzaGetsUptoSaid : Prop := stanzaGetsUptoRow.holds Tryd.pinned (OpenSpec.upto stanzaGetsSpec)

/-- 'chandlerlaw5.StanzaMany', WHERE WHAT IT READS IS OF BULK AT MOST 1048576: true; the input reads as it did. -/
def stanzaManyUptoRow : OpenClaim := { program := "ytjkaigfpjebfbaadoor", sum := "889d569fd4e3105782b4f11cf6c421fea3a9cf9f7d1cef0eef74e36d49c27f71", func := "chandler/chandlerlaw5.StanzaMany", spec := "stanzaMany", inPlace := ["internal/bytealg.CountString", "internal/bytealg.IndexByteString", "internal/bytealg.IndexString", "internal/abi.NoEscape", "internal/bytealg.MakeNoZero"], unfollowed := true, recurses := true, named := ["unicode/utf8.first", "unicode/utf8.acceptRanges", "internal/bytealg.MaxLen"], apart := false, laid := [("unicode/utf8.acceptRanges", laid_unicode_utf8_acceptRanges), ("unicode/utf8.first", laid_unicode_utf8_first)], narrowed := true }
def StanzaManyUptoSaid : Prop := stanzaManyUptoRow.holds Tryd.pinned (OpenSpec.upto stanzaManySpec)

/-- 'chandlerlaw5.StanzaRemarks', WHERE WHAT IT READS IS OF BULK AT MOST 1048576: true; the input reads as it did. -/
def stanzaRemarksUptoRow : OpenClaim := { program := "ytjkaigfpjebfbaadoor", sum := "889d569fd4e3105782b4f11cf6c421fea3a9cf9f7d1cef0eef74e36d49c27f71", func := "chandler/chandlerlaw5.StanzaRemarks", spec := "stanzaRemarks", inPlace := ["internal/bytealg.CountString", "internal/bytealg.IndexByteString", "internal/bytealg.IndexString", "internal/abi.NoEscape", "internal/bytealg.MakeNoZero"], unfollowed := true, recurses := true, named := ["unicode/utf8.first", "unicode/utf8.acceptRanges", "internal/bytealg.MaxLen"], apart := false, laid := [("unicode/utf8.acceptRanges", laid_unicode_utf8_acceptRanges), ("unicode/utf8.first", laid_unicode_utf8_first)], narrowed := true }
def StanzaRemarksUptoSaid : Prop := stanzaRemarksUptoRow.holds Tryd.pinned (OpenSpec.upto stanzaRemarksSpec)

/-- 'chandlerlaw5.StanzaPrints', WHERE WHAT IT READS IS OF BULK AT MOST 1048576: true; the input reads as it did. -/
def stanzaPrintsUptoRow : OpenClaim := { program := "ytjkaigfpjebfbaadoor", sum := "889d569fd4e3105782b4f11cf6c421fea3a9cf9f7d1cef0eef74e36d49c27f71", func := "chandler/chandlerlaw5.StanzaPrints", spec := "stanzaPrints", inPlace := ["internal/bytealg.CountString", "internal/bytealg.IndexByteString", "internal/bytealg.IndexString", "internal/abi.NoEscape", "internal/bytealg.MakeNoZero"], unfollowed := true, recurses := true, named := ["unicode/utf8.first", "unicode/utf8.acceptRanges", "internal/bytealg.MaxLen"], apart := false, laid := [("unicode/utf8.acceptRanges", laid_unicode_utf8_acceptRanges), ("unicode/utf8.first", laid_unicode_utf8_first)], narrowed := true }
def StanzaPrintsUptoSaid : Prop := stanzaPrintsUptoRow.holds Tryd.pinned (OpenSpec.upto stanzaPrintsSpec)

/-- 'chandlerlaw5.StanzaBack', WHERE WHAT IT READS IS OF BULK AT MOST 1048576: true; the input reads as it did. -/
def stanzaBackUptoRow : OpenClaim := { program := "ytjkaigfpjebfbaadoor", sum := "889d569fd4e3105782b4f11cf6c421fea3a9cf9f7d1cef0eef74e36d49c27f71", func := "chandler/chandlerlaw5.StanzaBack", spec := "stanzaBack", inPlace := ["internal/bytealg.CountString", "internal/bytealg.IndexByteString", "internal/bytealg.IndexString", "internal/abi.NoEscape", "internal/bytealg.MakeNoZero"], unfollowed := true, recurses := true, named := ["unicode/utf8.first", "unicode/utf8.acceptRanges", "internal/bytealg.MaxLen"], apart := false, laid := [("unicode/utf8.acceptRanges", laid_unicode_utf8_acceptRanges), ("unicode/utf8.first", laid_unicode_utf8_first)], narrowed := true }
def StanzaBackUptoSaid : Prop := stanzaBackUptoRow.holds Tryd.pinned (OpenSpec.upto stanzaBackSpec)

/-- 'chandlerlaw5.StanzaParsed', WHERE WHAT IT READS IS OF BULK AT MOST 1048576: true; the input reads as it did. -/
def stanzaParsedUptoRow : OpenClaim := { program := "ytjkaigfpjebfbaadoor", sum := "889d569fd4e3105782b4f11cf6c421fea3a9cf9f7d1cef0eef74e36d49c27f71", func := "chandler/chandlerlaw5.StanzaParsed", spec := "stanzaParsed", inPlace := ["internal/bytealg.CountString", "internal/bytealg.IndexByteString", "internal/bytealg.IndexString", "internal/abi.NoEscape", "internal/bytealg.MakeNoZero"], unfollowed := true, recurses := true, named := ["unicode/utf8.first", "unicode/utf8.acceptRanges", "internal/bytealg.MaxLen"], apart := false, laid := [("unicode/utf8.acceptRanges", laid_unicode_utf8_acceptRanges), ("unicode/utf8.first", laid_unicode_utf8_first)], narrowed := true }
def StanzaParsedUptoSaid : Prop := stanzaParsedUptoRow.holds Tryd.pinned (OpenSpec.upto stanzaParsedSpec)

/-- 'chandlerlaw5.StanzaJoins', WHERE WHAT IT READS IS OF BULK AT MOST 1048576: true; the input reads as it did. -/
def stanzaJoinsUptoRow : OpenClaim := { program := "ytjkaigfpjebfbaadoor", sum := "889d569fd4e3105782b4f11cf6c421fea3a9cf9f7d1cef0eef74e36d49c27f71", func := "chandler/chandlerlaw5.StanzaJoins", spec := "stanzaJoins", inPlace := ["internal/bytealg.CountString", "internal/bytealg.IndexByteString", "internal/bytealg.IndexString", "internal/abi.NoEscape", "internal/bytealg.MakeNoZero"], unfollowed := true, recurses := true, named := ["unicode/utf8.first", "unicode/utf8.acceptRanges", "internal/bytealg.MaxLen"], apart := false, laid := [("unicode/utf8.acceptRanges", laid_unicode_utf8_acceptRanges), ("unicode/utf8.first", laid_unicode_utf8_first)], narrowed := true }
def StanzaJoinsUptoSaid : Prop := stanzaJoinsUptoRow.holds Tryd.pinned (OpenSpec.upto stanzaJoinsSpec)

end Rows
end Go.Proofs.YtjkaigfpjebfbaaDoor
