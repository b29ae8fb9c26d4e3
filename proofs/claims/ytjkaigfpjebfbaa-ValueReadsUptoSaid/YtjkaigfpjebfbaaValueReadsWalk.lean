/- ValueReads: the walk. -/
import Derived.Test.YtjkaigfpjebfbaaVv
import Derived.Test.YtjkaigfpjebfbaaRows
import Derived.ShutString
import Derived.ChangeOld
namespace Go.Proofs.Ytjkaigfpjebfbaa
open Go.RowKit
set_option linter.unusedVariables false

section
open Go.ChangeShapes Go.WideShapes Go.ChangeAt Go.ChangeMaps
set_option maxRecDepth 100000 in
theorem valueReads_walk {H : Type} {enc : TypeId × Value → H} (W : World) {base : Nat} (v0 v1 : Value) {d0 d1 : DataW H} {p0 p1 : List MemPlace} (h0 : DataW.Trod enc Try.prog W 0 (fun _ => true) true 9 v0 d0 p0) (o0 : Value.okWide Try.prog W .any base 9 v0)
    (h1 : DataW.Trod enc Try.prog W 0 (fun _ => true) true 9 v1 d1 p1) (o1 : Value.okWide Try.prog W .any base 9 v1) (hk : Rows.uptoBulkAll [d0, d1] ≤ 1048576) :
    Calls Try.prog 6 #[v0, v1] W fun e w' => e = .returned (.bool true) ∧ Below W.heap.size W w' := by
  obtain ⟨nm, rfl, rfl, rfl, ws⟩ := open_string Try.underlying9 o0 h0
  obtain ⟨s, rfl, rfl, rfl, ws1⟩ := open_string Try.underlying9 o1 h1
  have e0 : nm.size = nm.data.toList.length := rfl
  have e1 : s.size = s.data.toList.length := rfl
  simp only [Rows.uptoBulkAll, Rows.uptoBulk] at hk
  exact reads_any nm s (by omega) (by omega) W
end
end Go.Proofs.Ytjkaigfpjebfbaa
