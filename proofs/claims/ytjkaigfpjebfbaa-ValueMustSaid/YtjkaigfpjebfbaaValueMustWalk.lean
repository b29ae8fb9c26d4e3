/- ValueMust: the walk. -/
import Derived.Test.YtjkaigfpjebfbaaVp
import Derived.Test.YtjkaigfpjebfbaaW4
import Derived.Test.YtjkaigfpjebfbaaRows
import Derived.ShutString
import Derived.ChangeOld
namespace Go.Proofs.Ytjkaigfpjebfbaa
open Go.RowKit
set_option linter.unusedVariables false

section
open Go.ChangeShapes Go.WideShapes Go.ChangeAt Go.ChangeMaps
set_option maxRecDepth 100000 in
theorem valueMust_walk {H : Type} {enc : TypeId × Value → H} (W : World) {base : Nat} (v0 : Value) {d0 : DataW H} {p0 : List MemPlace}
    (h0 : DataW.Trod enc Try.prog W 0 (fun _ => true) true 32 v0 d0 p0) (o0 : Value.okWide Try.prog W .any base 32 v0) :
    Calls Try.prog 4 #[v0] W fun e w' => e = .returned (.bool true) ∧ Below W.heap.size W w' := by
  obtain ⟨k, s, n, b, vc, va, vp, C, A, P, rfl, hc, ha, hp, l1, l2, l3⟩ := open_any h0 o0
  unfold maxLen at l1 l2 l3
  have hc0 := hc
  have ha0 := ha
  have hp0 := hp
  obtain ⟨Ac, cc, rfl, _⟩ := hc
  obtain ⟨Aa, ca, rfl, _⟩ := ha
  obtain ⟨Ap, cp, rfl, _⟩ := hp
  cases hl : lightV C A P with
  | true => exact must_light k s n b Ac Aa Ap _ cc _ ca _ cp C A P W hc0 ha0 hp0 hl
  | false => exact must_heavy k s n b Ac Aa Ap _ cc _ ca _ cp C A P W hc0 ha0 hp0 (by omega) (by omega) (by omega) hl
end
end Go.Proofs.Ytjkaigfpjebfbaa
