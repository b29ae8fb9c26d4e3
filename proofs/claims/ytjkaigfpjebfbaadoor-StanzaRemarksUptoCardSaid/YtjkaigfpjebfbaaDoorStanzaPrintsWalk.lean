/- StanzaPrints: the walk. -/
import Derived.Test.YtjkaigfpjebfbaaDoorSt26
import Derived.Test.YtjkaigfpjebfbaaDoorSt28
import Derived.Test.YtjkaigfpjebfbaaDoorSt18
import Derived.Test.YtjkaigfpjebfbaaDoorSA1
import Derived.Test.YtjkaigfpjebfbaaDoorOpen
namespace Go.Proofs.YtjkaigfpjebfbaaDoor
open Go.RowKit Go.Shelf Go.Lib
set_option linter.unusedVariables false

theorem BytesAt.str {w : World} {v : Value} {T : ByteArray} (h : BytesAt w v T) : ∃ A n c, v = .slice A n c ∧ n = T.size ∧ (convert 22 9 (.slice A n c)).run Tryd.prog w = .ok (.string T) w := by
  obtain ⟨A, c, rfl, hc, hb⟩ := h
  refine ⟨A, _, c, rfl, rfl, ?_⟩
  have := run_string A T.size c _ w hb
  rw [toS_bl] at this
  exact this
set_option maxRecDepth 100000 in
set_option maxHeartbeats 4000000 in
theorem stanzaPrints_any (v : Value) (L : List St) (w : World) (h : StzAt w v L) (hL : L.length ≤ 1048576) (hF : ∀ s ∈ L, s.fs.length ≤ 1048576 ∧ ∀ f ∈ s.fs, f.n.size ≤ 1048576 ∧ lsum f.ls ≤ 4194304) (hT : Lib.Utf8Tabs 0 1 w) (hM : MaxLenAt w) :
    Calls Tryd.prog 7 #[v] w fun e w' => e = .returned (.bool true) ∧ Below w.heap.size w w' := by
  have HLT := Lib.hid (light_any v L w h (by omega) (fun s hs => ⟨by have := (hF s hs).1; omega, fun f hf => by have h1 := ((hF s hs).2 f hf).2; have h2 := lsum_len f.ls; omega⟩))
  have HP := Lib.hid (fun W (hb : Below w.heap.size w W) => Print_any v L W (h.below hb) hL hF (tabs_later hT hb))
  have HQ := Lib.hid (fun W (hb : Below w.heap.size w W) => RPrint_any v L W (h.below hb) hL hF)
  have HAW := Lib.hid (fun W (hW : Below w.heap.size w W) => awake_any W (tabs_later hT hW) (hM.later hW))
  obtain ⟨R, hR⟩ : ∃ R, R = printE L := ⟨_, rfl⟩
  obtain ⟨T, hT0⟩ : ∃ T, T = printT L := ⟨_, rfl⟩
  obtain ⟨b, hb⟩ : ∃ b, b = lightB L := ⟨_, rfl⟩
  simp only [← hR, ← hT0] at HP HQ
  rw [← hb] at HLT
  clear hR hT0 hb h hL hF hT hM
  cases b with
  | false =>
    go_enter Tryd.func7, Tryd.ntmps7
    go_wp2_with (first | (go_at_call 15; refine (HLT.out).mono ?_; rintro e w1 ⟨rfl, hb1⟩; have HB1 := Lib.hid hb1; clear hb1) | (go_at_call 14; refine (HAW.out _ HB1.out).mono ?_; rintro e w2 ⟨rfl, hb2⟩))
    go_ret
    exact ⟨rfl, HB1.out.trans (hb2.mono HB1.out.size)⟩
  | true =>
    have q1 : (T.toList == T.toList) = true := by simp
    have q2 : ((R : Int) == (R : Int)) = true := by simp
    go_enter Tryd.func7, Tryd.ntmps7
    go_upto_region 5 with (first | (go_at_call 15; refine (HLT.out).mono ?_; rintro e w1 ⟨rfl, hb1⟩; have HB1 := Lib.hid hb1; clear hb1) | (go_at_call 22; refine (HP.out _ HB1.out).mono ?_; rintro e w2 ⟨u2, rfl, ht2, hb2⟩; have HB2 := Lib.hid (HB1.out.trans (hb2.mono HB1.out.size)); have HT2 := Lib.hid ht2; clear hb2 ht2) | (go_at_call 23; refine (HQ.out _ HB2.out).mono ?_; rintro e w3 ⟨u3, rfl, ht3, hb3⟩; have HB3 := Lib.hid (HB2.out.trans (hb3.mono HB2.out.size)); have HT3 := Lib.hid ht3; have HT23 := Lib.hid (HT2.out.below hb3); clear hb3 ht3))
    obtain ⟨A2, n2, c2, rfl, e2, k2⟩ := HT23.out.str
    obtain ⟨A3, n3, c3, rfl, e3, k3⟩ := HT3.out.str
    clear e2 e3
    go_wp2_with (go_at_call 14; refine (HAW.out _ HB3.out).mono ?_; rintro e w4 ⟨rfl, hb4⟩)
    go_ret
    exact ⟨rfl, HB3.out.trans (hb4.mono HB3.out.size)⟩
section
open Go.ChangeShapes Go.WideShapes Go.ChangeAt Go.ChangeMaps
set_option maxRecDepth 100000 in
theorem stanzaPrints_walk {H : Type} {enc : TypeId × Value → H} (W : World) {base : Nat} (v0 : Value) {d0 : DataW H} {p0 : List MemPlace}
    (h0 : DataW.Trod enc Tryd.prog W 0 (fun _ => true) true 23 v0 d0 p0) (o0 : Value.okWide Tryd.prog W .any base 23 v0)
    (hT : Lib.Utf8Tabs 0 1 W) (hS : W.ShapedOpen Tryd.prog) (hk : Rows.uptoBulkAll [d0] ≤ 1048576) :
    Calls Tryd.prog 7 #[v0] W fun e w' => e = .returned (.bool true) ∧ Below W.heap.size W w' := by
  obtain ⟨L, hL, hok⟩ := open_stz h0 o0
  simp only [Rows.uptoBulkAll] at hk
  have h1 := hok.1
  exact stanzaPrints_any v0 L W hL (by omega) (fun s hs => ⟨by have := (hok.2 s hs).1; omega, fun f hf => by have := (hok.2 s hs).2 f hf; omega⟩) hT (MaxLenAt.of hS)
end
end Go.Proofs.YtjkaigfpjebfbaaDoor
