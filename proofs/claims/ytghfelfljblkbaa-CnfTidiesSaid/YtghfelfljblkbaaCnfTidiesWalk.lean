/- CnfTidies: the walk. -/
import Derived.Test.YtghfelfljblkbaaSameL
namespace Go.Proofs.Ytghfelfljblkbaa
open Go.RowKit
open Go.ChangeShapes Go.WideShapes Go.ChangeAt
set_option linter.unusedVariables false

set_option maxRecDepth 100000 in
theorem cnfTidies_walk {H : Type} {enc : TypeId × Value → H} (W : World) {base : Nat} (v0 : Value) {d0 : DataW H} {p0 : List MemPlace} (h0 : DataW.Trod enc Try.prog W 0 (fun _ => true) true 22 v0 d0 p0) (o0 : Value.okWide Try.prog W .any base 22 v0) :
    Calls Try.prog 3 #[v0] W fun e w' => e = .returned (.bool true) ∧ Below W.heap.size W w' := by
  obtain ⟨A, n, c, zs, rfl, h, _⟩ := open_lits h0 o0
  exact cnfTidies_any A n c zs W h
end Go.Proofs.Ytghfelfljblkbaa
