/- StanzaGets: the walk. -/
import Derived.Test.YtjkaigfpjebfbaaDoorSt19
import Derived.Test.YtjkaigfpjebfbaaDoorSA1
import Derived.Test.YtjkaigfpjebfbaaDoorOpen
namespace Go.Proofs.YtjkaigfpjebfbaaDoor
open Go.RowKit Go.Shelf Go.Lib
set_option linter.unusedVariables false

section
open Go.ChangeShapes Go.WideShapes Go.ChangeAt Go.ChangeMaps
set_option maxRecDepth 100000 in
theorem stanzaGets_walk {H : Type} {enc : TypeId × Value → H} (W : World) {base : Nat} (v0 v1 v2 : Value) {d0 d1 d2 : DataW H} {p0 p1 p2 : List MemPlace}
    (h0 : DataW.Trod enc Tryd.prog W 0 (fun _ => true) true 34 v0 d0 p0) (o0 : Value.okWide Tryd.prog W .any base 34 v0)
    (h1 : DataW.Trod enc Tryd.prog W 0 (fun _ => true) true 9 v1 d1 p1) (o1 : Value.okWide Tryd.prog W .any base 9 v1)
    (h2 : DataW.Trod enc Tryd.prog W 0 (fun _ => true) true 9 v2 d2 p2) (o2 : Value.okWide Tryd.prog W .any base 9 v2)
    (hT : Lib.Utf8Tabs 0 1 W) (hS : W.ShapedOpen Tryd.prog) (hk : Rows.uptoBulkAll [d0, d1, d2] ≤ 1048576) :
    Calls Tryd.prog 4 #[v0, v1, v2] W fun e w' => e = .returned (.bool true) ∧ Below W.heap.size W w' := by
  obtain ⟨ln, A, cp, fx, fs, rfl, hc, hr, hf, hb⟩ := open_st h0 o0
  obtain ⟨nm, rfl, rfl, rfl, w1⟩ := open_string Tryd.underlying9 o1 h1
  obtain ⟨ot, rfl, rfl, rfl, w2⟩ := open_string Tryd.underlying9 o2 h2
  have e1 : nm.size = nm.data.toList.length := rfl
  have e2 : ot.size = ot.data.toList.length := rfl
  simp only [Rows.uptoBulkAll, Rows.uptoBulk] at hk
  have hb1 := hb.1
  exact stanzaGets_any _ ln A fs.length cp fx fs nm ot W hr hf rfl (by omega) hc (fun f hm => by have := hb.2 f hm; omega) (by omega) (by omega) hT (MaxLenAt.of hS)
end
end Go.Proofs.YtjkaigfpjebfbaaDoor
