/- Texts that every program must know: chandlerlaw4.awake. -/
import Derived.Test.YtdchnllflodmkaaDoorNames
namespace Go.Proofs.YtdchnllflodmkaaDoor
open Go.RowKit
set_option linter.unusedVariables false

theorem tabs_later {w w' : World} (h : Lib.Utf8Tabs 0 1 w) (hb : Below w.heap.size w w') : Lib.Utf8Tabs 0 1 w' := Utf8Tabs_below h hb
set_option maxRecDepth 100000 in
set_option maxHeartbeats 2000000 in
theorem awake4_any (w : World) (hT : Lib.Utf8Tabs 0 1 w) :
    Calls Tryd.prog 14 #[] w fun e w' => e = .returned (.bool true) ∧ Below w.heap.size w w' := by
  have n1 : nameB ⟨#[108, 105, 98, 99, 54]⟩ = true := by decide +kernel
  have n2 : nameB ⟨#[67]⟩ = false := by decide +kernel
  have n3 : goodZ ⟨#[97, 195, 169, 255]⟩ = 3 := by decide +kernel
  have h1 := fun W => Name_any ⟨#[108, 105, 98, 99, 54]⟩ W (by decide)
  have h2 := fun W => Name_any ⟨#[67]⟩ W (by decide)
  have h3 := fun W hW => Good_any ⟨#[97, 195, 169, 255]⟩ W hW (by decide)
  simp only [n1] at h1
  simp only [n2] at h2
  simp only [n3] at h3
  have H1 := Lib.hid h1
  have H2 := Lib.hid h2
  have H3 := Lib.hid h3
  have HT := Lib.hid hT
  clear n1 n2 n3 h1 h2 h3 hT
  go_enter Tryd.func14, Tryd.ntmps14
  go_wp2_with fail
  refine (H1.out _).mono ?_
  rintro e w1 ⟨rfl, hb1⟩
  go_wp2_with fail
  refine (H2.out _).mono ?_
  rintro e w2 ⟨rfl, hb2⟩
  have hb2' := hb1.trans (hb2.mono hb1.size)
  have ht2 := tabs_later HT.out hb2'
  have HT2 := Lib.hid ht2
  clear ht2
  go_wp2_with fail
  refine (H3.out _ HT2.out).mono ?_
  rintro e w3 ⟨rfl, hb3⟩
  go_wp2_with fail
  go_ret
  exact ⟨rfl, hb2'.trans (hb3.mono hb2'.size)⟩
end Go.Proofs.YtdchnllflodmkaaDoor
