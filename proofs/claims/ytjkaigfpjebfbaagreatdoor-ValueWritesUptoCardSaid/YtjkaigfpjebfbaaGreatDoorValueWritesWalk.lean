/- ValueWrites: the walk. -/
import Derived.Test.YtjkaigfpjebfbaaGreatDoorZl
import Derived.Test.YtjkaigfpjebfbaaGreatDoorRows
import Derived.ShutString
import Derived.ChangeOld
namespace Go.Proofs.YtjkaigfpjebfbaaGreatDoor
open Go.RowKit
set_option linter.unusedVariables false

section
open Go.ChangeShapes Go.WideShapes Go.ChangeAt Go.ChangeMaps
set_option maxRecDepth 100000 in
theorem valueWrites_walk {H : Type} {enc : TypeId × Value → H} (W : World) {base : Nat} (v0 : Value) {d0 : DataW H} {p0 : List MemPlace}
    (h0 : DataW.Trod enc Tryz.prog W 0 (fun _ => true) true 26 v0 d0 p0) (o0 : Value.okWide Tryz.prog W .any base 26 v0) (hT : Tab W) (hk : Rows.uptoBulkAll [d0] ≤ 1048576) :
    Calls Tryz.prog 3 #[v0] W fun e w' => e = .returned (.bool true) ∧ Below W.heap.size W w' := by
  have hb : Rows.uptoBulkAll [d0] = Rows.uptoBulk d0 + 0 := rfl
  obtain ⟨k, s, n, b, vc, va, vp, C, A, P, rfl, hc, ha, hp, l1, l1', l2, l3, sC, sA, sP, hs, n0, n1⟩ := open_anyU h0 o0 (by omega)
  have hc0 := hc
  have ha0 := ha
  have hp0 := hp
  obtain ⟨Ac, cc, rfl, _⟩ := hc
  obtain ⟨Aa, ca, rfl, _⟩ := ha
  obtain ⟨Ap, cp, rfl, _⟩ := hp
  cases hl : lightV C A P with
  | true => exact writes_light k s n b Ac Aa Ap _ cc _ ca _ cp C A P W hc0 ha0 hp0 hl sC sA sP n0 n1 hT
  | false => exact writes_heavy k s n b Ac Aa Ap _ cc _ ca _ cp C A P W hc0 ha0 hp0 (by omega) (by omega) (by omega) hl
end
end Go.Proofs.YtjkaigfpjebfbaaGreatDoor
