/- StanzaMany: the texts, and what they read as. -/
import Derived.Test.YtjkaigfpjebfbaaDoorSt9
namespace Go.Proofs.YtjkaigfpjebfbaaDoor
open Go.RowKit
set_option linter.unusedVariables false

def mF (i : Nat) : List Nat := [102, 97 + i % 26, 97 + i / 26, 58, 10]
def manyF (k : Nat) : List Nat := (List.range k).flatMap mF
def manyS (k : Nat) : List Nat := (List.range k).flatMap fun _ => [120, 58, 32, 49, 10, 10]
theorem manyF_err : ∀ n, n < 4 → (errS (parseS (toS (manyF (38 + n))))).1 = if 2 < n then 12 else 0 := by decide +kernel
theorem manyS_err : ∀ n, n < 4 → (errS (parseS (toS (manyS (198 + n))))).1 = if 2 < n then 12 else 0 := by decide +kernel
end Go.Proofs.YtjkaigfpjebfbaaDoor
