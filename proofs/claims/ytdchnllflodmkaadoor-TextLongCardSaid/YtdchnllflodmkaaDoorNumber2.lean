/- chandlerref4.Number; TextNames: the walk. -/
import Derived.Test.YtdchnllflodmkaaDoorNumber
import Derived.Test.YtdchnllflodmkaaDoorNames2
import Derived.Test.YtdchnllflodmkaaDoorAwake4
import Derived.ProofKit
import Derived.OpenShut
import Derived.ShutString
namespace Go.Proofs.YtdchnllflodmkaaDoor
open Go.RowKit
set_option linter.unusedVariables false

set_option maxRecDepth 100000 in
set_option maxHeartbeats 4000000 in
theorem RefNumber_any (s : ByteArray) (w : World) (hs : s.size ≤ 9223372036854775807) :
    Calls Tryd.prog 16 #[.string s] w fun e w' => e = .returned (numV (numZ s)) ∧ w = w' := by
  go_enter Tryd.func16, Tryd.ntmps16
  go_wp2
  go_loop [4, 8] (fun v8 v => ∃ (pos fuel acc : Nat), v = .int .i64 pos ∧ v8 = .int .i64 acc ∧ Hid (numFrom s fuel pos acc = numFrom s s.size 0 0) ∧ pos ≤ s.size ∧ s.size ≤ pos + fuel ∧ pos ≤ 9 ∧ acc < 10 ^ pos) (fun _ v => s.size - (intOf v).toNat)
  case atStart => exact ⟨0, s.size, 0, rfl, rfl, rfl, by omega, by omega, by omega, by simp⟩
  case round =>
    obtain ⟨pos, fuel, acc, rfl, rfl, HS, hps, hb, hp9, hacc⟩ := hrel
    have hacc9 := pow_nine pos acc hp9 hacc
    have HAcc := Lib.hid hacc
    clear hacc
    by_cases hp : pos < s.size
    · obtain ⟨fuel, rfl⟩ : ∃ f', fuel = f' + 1 := ⟨fuel - 1, by omega⟩
      have hx2 : ((s[pos]'hp).toNat : Nat) = byteAt s pos := (byteAt_get s pos hp).symm
      have hno := numFrom_no s fuel pos acc hp
      have hyes := numFrom_yes s fuel pos acc hp
      have hc8 := byteAt_lt s pos
      have HNo := Lib.hid hno
      have HYes := Lib.hid hyes
      clear hno hyes
      obtain ⟨c, hc⟩ : ∃ c, c = byteAt s pos := ⟨_, rfl⟩
      rw [← hc] at hx2 hc8 HNo HYes
      clear hc
      by_cases hd : 48 ≤ c ∧ c ≤ 57
      · have dg : digB c = true := decide_eq_true hd
        obtain ⟨hd1, hd2⟩ := hd
        by_cases h9 : 9 ≤ pos
        · have e : numZ s = (0, false) := by unfold numZ; rw [if_pos (.inr (.inl (by omega)))]
          have HE := Lib.hid e
          clear HNo HYes e
          go_wp2_with (go_at_call 28; refine (digit_any c _ hc8).mono ?_; rintro e w' ⟨rfl, rfl⟩)
          go_ret2
          exact ⟨ret_num (a := (0, false)) HE.out.symm, rfl⟩
        · have HF := Lib.hid (HYes.out dg)
          clear HNo HYes
          go_wp2_with (go_at_call 28; refine (digit_any c _ hc8).mono ?_; rintro e w' ⟨rfl, rfl⟩)
          go_round
          case rel => exact ⟨pos + 1, fuel, acc * 10 + (c - 48), by go_num, by go_num, by show _ = _; rw [← HS.out]; exact HF.out.symm, by omega, by omega, by omega, pow_step pos acc (c - 48) HAcc.out (by omega)⟩
          case measure => simp [intOf]; omega
      · have dg : digB c = false := decide_eq_false hd
        have HF := Lib.hid (HNo.out dg)
        clear HNo HYes hd
        go_wp2_with (go_at_call 28; refine (digit_any c _ hc8).mono ?_; rintro e w' ⟨rfl, rfl⟩)
        go_ret2
        exact ⟨ret_num (a := (0, false)) (numZ_no s (by rw [← HS.out]; exact HF.out)).symm, rfl⟩
    · have e : numFrom s s.size 0 0 = (acc, true) := by rw [← HS.out]; exact numFrom_end s fuel pos acc hp
      by_cases h0 : s.size = 0
      · have HE := Lib.hid (show numZ s = (0, false) by unfold numZ; rw [if_pos (.inl h0)])
        have h00 : ((s.size : Int) == 0) = true := beq_iff_eq.2 (by omega)
        clear e h0
        go_wp2
        go_ret2
        exact ⟨ret_num (a := (0, false)) HE.out.symm, rfl⟩
      · have h00 : ((s.size : Int) == 0) = false := beq_eq_false_iff_ne.2 (by omega)
        have hpos : 0 < s.size := by omega
        obtain ⟨b, hb⟩ : ∃ b, b = byteAt s 0 := ⟨_, rfl⟩
        have hx2 : ((s[0]'hpos).toNat : Nat) = b := by rw [hb, byteAt_get s 0 hpos]
        by_cases h1 : 1 < s.size ∧ b = 48
        · obtain ⟨h1, hb48⟩ := h1
          have HE := Lib.hid (show numZ s = (0, false) by unfold numZ; rw [if_pos (.inr (.inr ⟨h1, by rw [← hb]; exact hb48⟩))])
          have q48 : ((b : Int) == 48) = true := by (simp <;> omega)
          clear e h0 hb hb48
          go_wp2
          go_ret2
          exact ⟨ret_num (a := (0, false)) HE.out.symm, rfl⟩
        · have HE := Lib.hid (show numZ s = (acc, true) by
            unfold numZ
            rw [if_neg]
            · exact e
            · rintro (h | h | h)
              · exact h0 h
              · omega
              · exact h1 ⟨h.1, by rw [hb]; exact h.2⟩)
          have hcs : s.size ≤ 1 ∨ (2 ≤ s.size ∧ b ≠ 48) := by omega
          clear e h0 hb h1
          rcases hcs with h1 | ⟨h1, h2⟩
          · go_wp2
            go_ret2
            exact ⟨ret_num (a := (acc, true)) HE.out.symm, rfl⟩
          · have q48 : ((b : Int) == 48) = false := by (simp <;> omega)
            clear h2
            go_wp2
            go_ret2
            exact ⟨ret_num (a := (acc, true)) HE.out.symm, rfl⟩
set_option maxRecDepth 100000 in
set_option maxHeartbeats 2000000 in
theorem textNames_any (s : ByteArray) (w : World) (hT : Lib.Utf8Tabs 0 1 w) (hs : s.size ≤ 9223372036854775807) :
    Calls Tryd.prog 5 #[.string s] w fun e w' => e = .returned (.bool true) ∧ Below w.heap.size w w' := by
  have HT := Lib.hid hT
  clear hT
  have h1 := fun W => Number_any s W hs
  have h2 := fun W => RefNumber_any s W hs
  have h3 := fun W => Name_any s W hs
  have h4 := fun W => RefName_any s W hs
  unfold numV at h1 h2
  generalize numZ s = z at h1 h2
  obtain ⟨z1, z2⟩ := z
  simp only at h1 h2
  generalize nameB s = g at h3 h4
  have H1 := Lib.hid h1
  have H2 := Lib.hid h2
  have H3 := Lib.hid h3
  have H4 := Lib.hid h4
  clear h1 h2 h3 h4
  go_enter Tryd.func5, Tryd.ntmps5
  go_wp2_with (first
    | (go_at_call 15; refine (H1.out _).mono ?_; rintro e w1 ⟨rfl, hb1⟩)
    | (go_at_call 16; refine (H2.out _).mono ?_; rintro e w2 ⟨rfl, rfl⟩)
    | (go_at_call 17; refine (H3.out _).mono ?_; rintro e w3 ⟨rfl, hb3⟩; have hb3' := hb1.trans (hb3.mono hb1.size); clear hb3)
    | (go_at_call 18; refine (H4.out _).mono ?_; rintro e w4 ⟨rfl, rfl⟩)
    | (go_at_call 14; refine (awake4_any _ (tabs_later HT.out hb3')).mono ?_; rintro e w5 ⟨rfl, hb5⟩))
  go_ret
  exact ⟨rfl, hb3'.trans (hb5.mono hb3'.size)⟩
section
open Go.ChangeShapes Go.WideShapes Go.ChangeAt Go.ChangeMaps
theorem textNames_walk {H : Type} {enc : TypeId × Value → H} (W : World) {base : Nat} (v0 : Value) {d0 : DataW H} {p0 : List MemPlace} (h0 : DataW.Trod enc Tryd.prog W 0 (fun _ => true) true 9 v0 d0 p0) (o0 : Value.okWide Tryd.prog W .any base 9 v0)
    (hT : Lib.Utf8Tabs 0 1 W) :
    Calls Tryd.prog 5 #[v0] W fun e w' => e = .returned (.bool true) ∧ Below W.heap.size W w' := by
  obtain ⟨s, rfl, rfl, rfl, ws⟩ := open_string Tryd.underlying9 o0 h0
  exact textNames_any s W hT (by unfold maxLen at ws; omega)
end
end Go.Proofs.YtdchnllflodmkaaDoor
