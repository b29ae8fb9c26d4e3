/- TextWords: the walk. -/
import Derived.Test.YtdchnllflodmkaaDoorSame2
import Derived.Test.YtdchnllflodmkaaDoorTail2
import Derived.Test.YtdchnllflodmkaaDoorRows
import Derived.OpenShut
import Derived.ShutString
namespace Go.Proofs.YtdchnllflodmkaaDoor
open Go.RowKit Go.Shelf Go.Lib
set_option linter.unusedVariables false

set_option maxRecDepth 100000 in
set_option maxHeartbeats 400000 in
theorem textWords_any (s : ByteArray) (w : World) (hT : Lib.Utf8Tabs 0 1 w) (hs : s.size ≤ 1048576) :
    Calls Tryd.prog 7 #[.string s] w fun e w' => e = .returned (.bool true) ∧ Below w.heap.size w w' := by
  have HT := Lib.hid hT
  have hl : (wordsOf s).length ≤ 9223372036854775807 := by have := words_len s; omega
  have h1 := fun W => Words_any s W (by omega)
  have h2 := fun W => RefWords_any s W (by omega)
  have h4 := fun W hT => Trim_any s W (by omega) hT
  have h5 := fun W => RefTrim_any s W (by omega)
  obtain ⟨l, hll⟩ : ∃ l, l = wordsOf s := ⟨_, rfl⟩
  obtain ⟨t, htt⟩ : ∃ t, t = trimB s := ⟨_, rfl⟩
  rw [← hll] at hl
  simp only [← hll] at h1 h2
  simp only [← htt] at h4 h5
  have H1 := Lib.hid h1
  have H2 := Lib.hid h2
  have H3 := Lib.hid (fun (W : World) (v1 v2 : Value) (x1 : TextsAt W v1 l) (x2 : TextsAt W v2 l) => SameTexts_any l v1 v2 W x1 x2 hl)
  have H4 := Lib.hid h4
  have H5 := Lib.hid h5
  have hq : (t.toList == t.toList) = true := beq_self_eq_true _
  clear h1 h2 h4 h5 hll htt hl
  clear hT
  go_enter Tryd.func7, Tryd.ntmps7
  go_wp2_with fail
  go_at_call 20
  refine (H1.out _).mono ?_
  rintro e w1 ⟨v1, rfl, ⟨A1, rfl, _, ho1⟩, hb1⟩
  have HO1 := Lib.hid (TextsAt.of ho1)
  clear ho1
  go_wp2_with fail
  go_at_call 21
  refine (H2.out _).mono ?_
  rintro e w2 ⟨v2, rfl, ho2, hb2⟩
  have HO2 := Lib.hid (TextsAt.of ho2)
  have HP1 := Lib.hid (HO1.out.later hb2)
  clear ho2
  have hb2' := hb1.trans (hb2.mono hb1.size)
  go_wp2_with fail
  go_at_call 19
  refine (H3.out _ _ _ HP1.out HO2.out).mono ?_
  rintro e w3 ⟨rfl, hb3⟩
  have hb3' := hb2'.trans (hb3.mono hb2'.size)
  go_wp2_with fail
  go_at_call 22
  refine (H4.out _ (tabs_later HT.out hb3')).mono ?_
  rintro e w4 ⟨rfl, hb4⟩
  have hb4' := hb3'.trans (hb4.mono hb3'.size)
  go_wp2_with fail
  go_at_call 23
  refine (H5.out _).mono ?_
  rintro e w5 ⟨rfl, rfl⟩
  go_wp2_with fail
  go_at_call 14
  refine (awake4_any _ (tabs_later HT.out hb4')).mono ?_
  rintro e w6 ⟨rfl, hb6⟩
  go_wp2_with fail
  go_ret
  exact ⟨rfl, hb4'.trans (hb6.mono hb4'.size)⟩
section
open Go.ChangeShapes Go.WideShapes Go.ChangeAt Go.ChangeMaps
theorem textWords_walk {H : Type} {enc : TypeId × Value → H} (W : World) {base : Nat} (v0 : Value) {d0 : DataW H} {p0 : List MemPlace} (h0 : DataW.Trod enc Tryd.prog W 0 (fun _ => true) true 9 v0 d0 p0) (o0 : Value.okWide Tryd.prog W .any base 9 v0)
    (hT : Lib.Utf8Tabs 0 1 W) (hk : Rows.uptoBulkAll [d0] ≤ 1048576) :
    Calls Tryd.prog 7 #[v0] W fun e w' => e = .returned (.bool true) ∧ Below W.heap.size W w' := by
  obtain ⟨s, rfl, rfl, rfl, ws⟩ := open_string Tryd.underlying9 o0 h0
  have e1 : s.size = s.data.toList.length := rfl
  simp only [Rows.uptoBulkAll, Rows.uptoBulk] at hk
  exact textWords_any s W hT (by omega)
end
end Go.Proofs.YtdchnllflodmkaaDoor
