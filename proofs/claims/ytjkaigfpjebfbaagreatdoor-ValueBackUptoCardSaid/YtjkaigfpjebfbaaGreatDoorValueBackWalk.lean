/- ValueBack: the walk. -/
import Derived.Test.YtjkaigfpjebfbaaGreatDoorZk
import Derived.Test.YtjkaigfpjebfbaaGreatDoorRows
import Derived.ShutString
import Derived.ChangeOld
namespace Go.Proofs.YtjkaigfpjebfbaaGreatDoor
open Go.RowKit
set_option linter.unusedVariables false

section
open Go.ChangeShapes Go.WideShapes Go.ChangeAt Go.ChangeMaps
set_option maxRecDepth 100000 in
theorem valueBack_walk {H : Type} {enc : TypeId × Value → H} (W : World) {base : Nat} (v0 v1 v2 : Value) {d0 d1 d2 : DataW H} {p0 p1 p2 : List MemPlace}
    (h0 : DataW.Trod enc Tryz.prog W 0 (fun _ => true) true 9 v0 d0 p0) (o0 : Value.okWide Tryz.prog W .any base 9 v0)
    (h1 : DataW.Trod enc Tryz.prog W 0 (fun _ => true) true 9 v1 d1 p1) (o1 : Value.okWide Tryz.prog W .any base 9 v1)
    (h2 : DataW.Trod enc Tryz.prog W 0 (fun _ => true) true 26 v2 d2 p2) (o2 : Value.okWide Tryz.prog W .any base 26 v2) (hT : Tab W) (hk : Rows.uptoBulkAll [d0, d1, d2] ≤ 1048576) :
    Calls Tryz.prog 4 #[v0, v1, v2] W fun e w' => e = .returned (.bool true) ∧ Below W.heap.size W w' := by
  have hb : Rows.uptoBulkAll [d0, d1, d2] = Rows.uptoBulk d0 + (Rows.uptoBulk d1 + (Rows.uptoBulk d2 + 0)) := rfl
  obtain ⟨k, s0, n, b, vc, va, vp, C, A, P, rfl, hc, ha, hp, l1, l1', l2, l3, sC, sA, sP, hs, n0, n1⟩ := open_anyU h2 o2 (by omega)
  obtain ⟨nm, rfl, rfl, rfl, ws⟩ := open_string Tryz.underlying9 o0 h0
  obtain ⟨s, rfl, rfl, rfl, ws1⟩ := open_string Tryz.underlying9 o1 h1
  have e0 : nm.size = nm.data.toList.length := rfl
  have e1 : s.size = s.data.toList.length := rfl
  simp only [Rows.uptoBulkAll, Rows.uptoBulk] at hk
  have hc0 := hc
  have ha0 := ha
  have hp0 := hp
  obtain ⟨Ac, cc, rfl, _⟩ := hc
  obtain ⟨Aa, ca, rfl, _⟩ := ha
  obtain ⟨Ap, cp, rfl, _⟩ := hp
  cases hl : lightV C A P with
  | true => exact back_law nm s k s0 n b Ac Aa Ap _ cc _ ca _ cp C A P W hc0 ha0 hp0 (by omega) (by omega) hl hT
  | false => exact back_heavy nm s k s0 n b Ac Aa Ap _ cc _ ca _ cp C A P W hc0 ha0 hp0 (by omega) (by omega) (by omega) hl
end
end Go.Proofs.YtjkaigfpjebfbaaGreatDoor
