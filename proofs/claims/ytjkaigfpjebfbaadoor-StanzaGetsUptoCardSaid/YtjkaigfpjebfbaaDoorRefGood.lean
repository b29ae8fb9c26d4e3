/- chandlerref4.Good, at, size: they answer what the plain law says. -/
import Derived.Test.YtjkaigfpjebfbaaDoorGood
namespace Go.Proofs.YtjkaigfpjebfbaaDoor
open Go.RowKit
set_option linter.unusedVariables false

theorem extract_byte (s : ByteArray) (p j : Nat) (h : p + j < s.size) : byteAt (s.extract p s.size) j = byteAt s (p + j) := by
  rw [byteAt_get _ _ (by simp; omega), byteAt_get _ _ h]
  congr 1
  simp [ByteArray.getElem_extract]
theorem sizeAt_tail (s : ByteArray) (p : Nat) (h : p < s.size) : sizeAt (s.extract p s.size) 0 = sizeAt s p := by
  rw [sizeAt_eq, sizeAt_eq, ← decodeGo_tail s p h]
  have : Lib.decodeGo (s.extract p s.size) = Utf8.decode (s.extract p s.size) 0 := by
    unfold Lib.decodeGo
    rw [if_neg]
    simp; omega
  rw [this]
theorem at_any (s : ByteArray) (i lo hi : Int) (w : World) (hs : s.size ≤ 9223372036854775807) (h0 : 0 ≤ i) (h1 : i ≤ 9223372036854775807) (hl : 0 ≤ lo) (hh : 0 ≤ hi) :
    Calls Tryd.prog 66 #[.string s, .int .i64 i, .int .u8 lo, .int .u8 hi] w fun e w' => e = .returned (.bool (atB s i.toNat lo.toNat hi.toNat)) ∧ w = w' := by
  obtain ⟨i, rfl⟩ := Int.eq_ofNat_of_zero_le h0
  obtain ⟨lo, rfl⟩ := Int.eq_ofNat_of_zero_le hl
  obtain ⟨hi, rfl⟩ := Int.eq_ofNat_of_zero_le hh
  simp only [Int.toNat_natCast]
  by_cases hi1 : i < s.size
  · obtain ⟨x, hx⟩ : ∃ x, x = byteAt s i := ⟨_, rfl⟩
    have hx2 : ((s[i]'hi1).toNat : Nat) = x := by rw [hx, byteAt_get s i hi1]
    by_cases h2 : lo ≤ x
    · by_cases h3 : x ≤ hi
      · have e : atB s i lo hi = true := by unfold atB; rw [← hx]; simp [hi1, h2, h3]
        have HE := Lib.hid e
        clear e hx
        go_enter Tryd.func66, Tryd.ntmps66
        go_wp2
        go_ret
        exact ⟨ret_bool HE.out.symm, rfl⟩
      · have e : atB s i lo hi = false := by unfold atB; rw [← hx]; simp [h3]
        have HE := Lib.hid e
        clear e hx
        go_enter Tryd.func66, Tryd.ntmps66
        go_wp2
        go_ret
        exact ⟨ret_bool HE.out.symm, rfl⟩
    · have e : atB s i lo hi = false := by unfold atB; rw [← hx]; simp [h2]
      have HE := Lib.hid e
      clear e hx
      go_enter Tryd.func66, Tryd.ntmps66
      go_wp2
      go_ret
      exact ⟨ret_bool HE.out.symm, rfl⟩
  · have e : atB s i lo hi = false := by unfold atB; simp [hi1]
    have HE := Lib.hid e
    clear e
    go_enter Tryd.func66, Tryd.ntmps66
    go_wp2
    go_ret
    exact ⟨ret_bool HE.out.symm, rfl⟩
set_option maxRecDepth 100000 in
set_option maxHeartbeats 4000000 in
theorem size_any (s : ByteArray) (w : World) (h0 : 0 < s.size) (hs : s.size ≤ 9223372036854775807) :
    Calls Tryd.prog 56 #[.string s] w fun e w' => e = .returned (.int .i64 (sizeAt s 0 : Int)) ∧ w = w' := by
  have hb8 := byteAt_lt s 0
  have hb1 := byteAt_lt s 1
  have hb2 := byteAt_lt s 2
  have hb3 := byteAt_lt s 3
  obtain ⟨b, hb⟩ : ∃ b, b = byteAt s 0 := ⟨_, rfl⟩
  have hx2 : ((s[0]'h0).toNat : Nat) = b := by rw [hb, byteAt_get s 0 h0]
  rw [← hb] at hb8
  have hcls : b < 128 ∨ (128 ≤ b ∧ b < 194) ∨ (194 ≤ b ∧ b < 224) ∨ b = 224 ∨ (225 ≤ b ∧ b < 237) ∨ b = 237 ∨ (238 ≤ b ∧ b < 240) ∨ b = 240 ∨ (241 ≤ b ∧ b < 244) ∨ b = 244 ∨ 245 ≤ b := by omega
  rcases hcls with hc | hc | hc | hc | hc | hc | hc | hc | hc | hc | hc
  · have e : sizeAt s 0 = 1 := size_ascii s h0 (by rw [← hb]; exact hc)
    clear hb hb1 hb2 hb3
    have q224 : ((b : Int) == 224) = false := by (simp <;> omega)
    have q237 : ((b : Int) == 237) = false := by (simp <;> omega)
    have q240 : ((b : Int) == 240) = false := by (simp <;> omega)
    have q244 : ((b : Int) == 244) = false := by (simp <;> omega)
    have r237 : ((b : Int) != 237) = true := by (simp <;> omega)
    have HE := Lib.hid e
    clear e
    go_enter Tryd.func56, Tryd.ntmps56
    go_wp2_with (go_at_call 66; refine (at_any s _ _ _ _ hs (by omega) (by omega) (by omega) (by omega)).mono ?_; rintro e w' ⟨rfl, rfl⟩)
    go_ret
    exact ⟨by rw [HE.out]; rfl, rfl⟩
  · have e : sizeAt s 0 = 0 := size_bad s h0 (by rw [← hb]; omega)
    clear hb hb1 hb2 hb3
    have q224 : ((b : Int) == 224) = false := by (simp <;> omega)
    have q237 : ((b : Int) == 237) = false := by (simp <;> omega)
    have q240 : ((b : Int) == 240) = false := by (simp <;> omega)
    have q244 : ((b : Int) == 244) = false := by (simp <;> omega)
    have r237 : ((b : Int) != 237) = true := by (simp <;> omega)
    have HE := Lib.hid e
    clear e
    go_enter Tryd.func56, Tryd.ntmps56
    go_wp2_with (go_at_call 66; refine (at_any s _ _ _ _ hs (by omega) (by omega) (by omega) (by omega)).mono ?_; rintro e w' ⟨rfl, rfl⟩)
    go_ret
    exact ⟨by rw [HE.out]; rfl, rfl⟩
  · have e := size_at s 2 128 191 h0 (by omega) (by omega) (Lib.slow_C2 _ _ _ _ _ (by omega) hb1 hb2 hb3 (by rw [← hb]; exact hc))
    clear hb hb1 hb2 hb3
    have q224 : ((b : Int) == 224) = false := by (simp <;> omega)
    have q237 : ((b : Int) == 237) = false := by (simp <;> omega)
    have q240 : ((b : Int) == 240) = false := by (simp <;> omega)
    have q244 : ((b : Int) == 244) = false := by (simp <;> omega)
    have r237 : ((b : Int) != 237) = true := by (simp <;> omega)
    cases a1 : atB s 1 128 191
    · simp [a1] at e
      have HE := Lib.hid e
      clear e
      go_enter Tryd.func56, Tryd.ntmps56
      go_wp2_with (go_at_call 66; refine (at_any s _ _ _ _ hs (by omega) (by omega) (by omega) (by omega)).mono ?_; rintro e w' ⟨rfl, rfl⟩)
      go_ret
      exact ⟨by rw [HE.out]; rfl, rfl⟩
    · simp [a1] at e
      have HE := Lib.hid e
      clear e
      go_enter Tryd.func56, Tryd.ntmps56
      go_wp2_with (go_at_call 66; refine (at_any s _ _ _ _ hs (by omega) (by omega) (by omega) (by omega)).mono ?_; rintro e w' ⟨rfl, rfl⟩)
      go_ret
      exact ⟨by rw [HE.out]; rfl, rfl⟩
  · have e := size_at s 3 160 191 h0 (by omega) (by omega) (Lib.slow_E0 _ _ _ _ _ (by omega) hb1 hb2 hb3 (by rw [← hb]; exact hc))
    clear hb hb1 hb2 hb3
    have q224 : ((b : Int) == 224) = true := by (simp <;> omega)
    have q237 : ((b : Int) == 237) = false := by (simp <;> omega)
    have q240 : ((b : Int) == 240) = false := by (simp <;> omega)
    have q244 : ((b : Int) == 244) = false := by (simp <;> omega)
    have r237 : ((b : Int) != 237) = true := by (simp <;> omega)
    cases a1 : atB s 1 160 191
    · simp [a1] at e
      have HE := Lib.hid e
      clear e
      go_enter Tryd.func56, Tryd.ntmps56
      go_wp2_with (go_at_call 66; refine (at_any s _ _ _ _ hs (by omega) (by omega) (by omega) (by omega)).mono ?_; rintro e w' ⟨rfl, rfl⟩)
      go_ret
      exact ⟨by rw [HE.out]; rfl, rfl⟩
    · cases a2 : atB s 2 128 191
      · simp [a1, a2] at e
        have HE := Lib.hid e
        clear e
        go_enter Tryd.func56, Tryd.ntmps56
        go_wp2_with (go_at_call 66; refine (at_any s _ _ _ _ hs (by omega) (by omega) (by omega) (by omega)).mono ?_; rintro e w' ⟨rfl, rfl⟩)
        go_ret
        exact ⟨by rw [HE.out]; rfl, rfl⟩
      · simp [a1, a2] at e
        have HE := Lib.hid e
        clear e
        go_enter Tryd.func56, Tryd.ntmps56
        go_wp2_with (go_at_call 66; refine (at_any s _ _ _ _ hs (by omega) (by omega) (by omega) (by omega)).mono ?_; rintro e w' ⟨rfl, rfl⟩)
        go_ret
        exact ⟨by rw [HE.out]; rfl, rfl⟩
  · have e := size_at s 3 128 191 h0 (by omega) (by omega) (Lib.slow_E1 _ _ _ _ _ (by omega) hb1 hb2 hb3 (by rw [← hb]; omega))
    clear hb hb1 hb2 hb3
    have q224 : ((b : Int) == 224) = false := by (simp <;> omega)
    have q237 : ((b : Int) == 237) = false := by (simp <;> omega)
    have q240 : ((b : Int) == 240) = false := by (simp <;> omega)
    have q244 : ((b : Int) == 244) = false := by (simp <;> omega)
    have r237 : ((b : Int) != 237) = true := by (simp <;> omega)
    cases a1 : atB s 1 128 191
    · simp [a1] at e
      have HE := Lib.hid e
      clear e
      go_enter Tryd.func56, Tryd.ntmps56
      go_wp2_with (go_at_call 66; refine (at_any s _ _ _ _ hs (by omega) (by omega) (by omega) (by omega)).mono ?_; rintro e w' ⟨rfl, rfl⟩)
      go_ret
      exact ⟨by rw [HE.out]; rfl, rfl⟩
    · cases a2 : atB s 2 128 191
      · simp [a1, a2] at e
        have HE := Lib.hid e
        clear e
        go_enter Tryd.func56, Tryd.ntmps56
        go_wp2_with (go_at_call 66; refine (at_any s _ _ _ _ hs (by omega) (by omega) (by omega) (by omega)).mono ?_; rintro e w' ⟨rfl, rfl⟩)
        go_ret
        exact ⟨by rw [HE.out]; rfl, rfl⟩
      · simp [a1, a2] at e
        have HE := Lib.hid e
        clear e
        go_enter Tryd.func56, Tryd.ntmps56
        go_wp2_with (go_at_call 66; refine (at_any s _ _ _ _ hs (by omega) (by omega) (by omega) (by omega)).mono ?_; rintro e w' ⟨rfl, rfl⟩)
        go_ret
        exact ⟨by rw [HE.out]; rfl, rfl⟩
  · have e := size_at s 3 128 159 h0 (by omega) (by omega) (Lib.slow_ED _ _ _ _ _ (by omega) hb1 hb2 hb3 (by rw [← hb]; exact hc))
    clear hb hb1 hb2 hb3
    have q224 : ((b : Int) == 224) = false := by (simp <;> omega)
    have q237 : ((b : Int) == 237) = true := by (simp <;> omega)
    have q240 : ((b : Int) == 240) = false := by (simp <;> omega)
    have q244 : ((b : Int) == 244) = false := by (simp <;> omega)
    have r237 : ((b : Int) != 237) = false := by (simp <;> omega)
    cases a1 : atB s 1 128 159
    · simp [a1] at e
      have HE := Lib.hid e
      clear e
      go_enter Tryd.func56, Tryd.ntmps56
      go_wp2_with (go_at_call 66; refine (at_any s _ _ _ _ hs (by omega) (by omega) (by omega) (by omega)).mono ?_; rintro e w' ⟨rfl, rfl⟩)
      go_ret
      exact ⟨by rw [HE.out]; rfl, rfl⟩
    · cases a2 : atB s 2 128 191
      · simp [a1, a2] at e
        have HE := Lib.hid e
        clear e
        go_enter Tryd.func56, Tryd.ntmps56
        go_wp2_with (go_at_call 66; refine (at_any s _ _ _ _ hs (by omega) (by omega) (by omega) (by omega)).mono ?_; rintro e w' ⟨rfl, rfl⟩)
        go_ret
        exact ⟨by rw [HE.out]; rfl, rfl⟩
      · simp [a1, a2] at e
        have HE := Lib.hid e
        clear e
        go_enter Tryd.func56, Tryd.ntmps56
        go_wp2_with (go_at_call 66; refine (at_any s _ _ _ _ hs (by omega) (by omega) (by omega) (by omega)).mono ?_; rintro e w' ⟨rfl, rfl⟩)
        go_ret
        exact ⟨by rw [HE.out]; rfl, rfl⟩
  · have e := size_at s 3 128 191 h0 (by omega) (by omega) (Lib.slow_E1 _ _ _ _ _ (by omega) hb1 hb2 hb3 (by rw [← hb]; omega))
    clear hb hb1 hb2 hb3
    have q224 : ((b : Int) == 224) = false := by (simp <;> omega)
    have q237 : ((b : Int) == 237) = false := by (simp <;> omega)
    have q240 : ((b : Int) == 240) = false := by (simp <;> omega)
    have q244 : ((b : Int) == 244) = false := by (simp <;> omega)
    have r237 : ((b : Int) != 237) = true := by (simp <;> omega)
    cases a1 : atB s 1 128 191
    · simp [a1] at e
      have HE := Lib.hid e
      clear e
      go_enter Tryd.func56, Tryd.ntmps56
      go_wp2_with (go_at_call 66; refine (at_any s _ _ _ _ hs (by omega) (by omega) (by omega) (by omega)).mono ?_; rintro e w' ⟨rfl, rfl⟩)
      go_ret
      exact ⟨by rw [HE.out]; rfl, rfl⟩
    · cases a2 : atB s 2 128 191
      · simp [a1, a2] at e
        have HE := Lib.hid e
        clear e
        go_enter Tryd.func56, Tryd.ntmps56
        go_wp2_with (go_at_call 66; refine (at_any s _ _ _ _ hs (by omega) (by omega) (by omega) (by omega)).mono ?_; rintro e w' ⟨rfl, rfl⟩)
        go_ret
        exact ⟨by rw [HE.out]; rfl, rfl⟩
      · simp [a1, a2] at e
        have HE := Lib.hid e
        clear e
        go_enter Tryd.func56, Tryd.ntmps56
        go_wp2_with (go_at_call 66; refine (at_any s _ _ _ _ hs (by omega) (by omega) (by omega) (by omega)).mono ?_; rintro e w' ⟨rfl, rfl⟩)
        go_ret
        exact ⟨by rw [HE.out]; rfl, rfl⟩
  · have e := size_at s 4 144 191 h0 (by omega) (by omega) (Lib.slow_F0 _ _ _ _ _ (by omega) hb1 hb2 hb3 (by rw [← hb]; exact hc))
    clear hb hb1 hb2 hb3
    have q224 : ((b : Int) == 224) = false := by (simp <;> omega)
    have q237 : ((b : Int) == 237) = false := by (simp <;> omega)
    have q240 : ((b : Int) == 240) = true := by (simp <;> omega)
    have q244 : ((b : Int) == 244) = false := by (simp <;> omega)
    have r237 : ((b : Int) != 237) = true := by (simp <;> omega)
    cases a1 : atB s 1 144 191
    · simp [a1] at e
      have HE := Lib.hid e
      clear e
      go_enter Tryd.func56, Tryd.ntmps56
      go_wp2_with (go_at_call 66; refine (at_any s _ _ _ _ hs (by omega) (by omega) (by omega) (by omega)).mono ?_; rintro e w' ⟨rfl, rfl⟩)
      go_ret
      exact ⟨by rw [HE.out]; rfl, rfl⟩
    · cases a2 : atB s 2 128 191
      · simp [a1, a2] at e
        have HE := Lib.hid e
        clear e
        go_enter Tryd.func56, Tryd.ntmps56
        go_wp2_with (go_at_call 66; refine (at_any s _ _ _ _ hs (by omega) (by omega) (by omega) (by omega)).mono ?_; rintro e w' ⟨rfl, rfl⟩)
        go_ret
        exact ⟨by rw [HE.out]; rfl, rfl⟩
      · cases a3 : atB s 3 128 191
        · simp [a1, a2, a3] at e
          have HE := Lib.hid e
          clear e
          go_enter Tryd.func56, Tryd.ntmps56
          go_wp2_with (go_at_call 66; refine (at_any s _ _ _ _ hs (by omega) (by omega) (by omega) (by omega)).mono ?_; rintro e w' ⟨rfl, rfl⟩)
          go_ret
          exact ⟨by rw [HE.out]; rfl, rfl⟩
        · simp [a1, a2, a3] at e
          have HE := Lib.hid e
          clear e
          go_enter Tryd.func56, Tryd.ntmps56
          go_wp2_with (go_at_call 66; refine (at_any s _ _ _ _ hs (by omega) (by omega) (by omega) (by omega)).mono ?_; rintro e w' ⟨rfl, rfl⟩)
          go_ret
          exact ⟨by rw [HE.out]; rfl, rfl⟩
  · have e := size_at s 4 128 191 h0 (by omega) (by omega) (Lib.slow_F1 _ _ _ _ _ (by omega) hb1 hb2 hb3 (by rw [← hb]; exact hc))
    clear hb hb1 hb2 hb3
    have q224 : ((b : Int) == 224) = false := by (simp <;> omega)
    have q237 : ((b : Int) == 237) = false := by (simp <;> omega)
    have q240 : ((b : Int) == 240) = false := by (simp <;> omega)
    have q244 : ((b : Int) == 244) = false := by (simp <;> omega)
    have r237 : ((b : Int) != 237) = true := by (simp <;> omega)
    cases a1 : atB s 1 128 191
    · simp [a1] at e
      have HE := Lib.hid e
      clear e
      go_enter Tryd.func56, Tryd.ntmps56
      go_wp2_with (go_at_call 66; refine (at_any s _ _ _ _ hs (by omega) (by omega) (by omega) (by omega)).mono ?_; rintro e w' ⟨rfl, rfl⟩)
      go_ret
      exact ⟨by rw [HE.out]; rfl, rfl⟩
    · cases a2 : atB s 2 128 191
      · simp [a1, a2] at e
        have HE := Lib.hid e
        clear e
        go_enter Tryd.func56, Tryd.ntmps56
        go_wp2_with (go_at_call 66; refine (at_any s _ _ _ _ hs (by omega) (by omega) (by omega) (by omega)).mono ?_; rintro e w' ⟨rfl, rfl⟩)
        go_ret
        exact ⟨by rw [HE.out]; rfl, rfl⟩
      · cases a3 : atB s 3 128 191
        · simp [a1, a2, a3] at e
          have HE := Lib.hid e
          clear e
          go_enter Tryd.func56, Tryd.ntmps56
          go_wp2_with (go_at_call 66; refine (at_any s _ _ _ _ hs (by omega) (by omega) (by omega) (by omega)).mono ?_; rintro e w' ⟨rfl, rfl⟩)
          go_ret
          exact ⟨by rw [HE.out]; rfl, rfl⟩
        · simp [a1, a2, a3] at e
          have HE := Lib.hid e
          clear e
          go_enter Tryd.func56, Tryd.ntmps56
          go_wp2_with (go_at_call 66; refine (at_any s _ _ _ _ hs (by omega) (by omega) (by omega) (by omega)).mono ?_; rintro e w' ⟨rfl, rfl⟩)
          go_ret
          exact ⟨by rw [HE.out]; rfl, rfl⟩
  · have e := size_at s 4 128 143 h0 (by omega) (by omega) (Lib.slow_F4 _ _ _ _ _ (by omega) hb1 hb2 hb3 (by rw [← hb]; exact hc))
    clear hb hb1 hb2 hb3
    have q224 : ((b : Int) == 224) = false := by (simp <;> omega)
    have q237 : ((b : Int) == 237) = false := by (simp <;> omega)
    have q240 : ((b : Int) == 240) = false := by (simp <;> omega)
    have q244 : ((b : Int) == 244) = true := by (simp <;> omega)
    have r237 : ((b : Int) != 237) = true := by (simp <;> omega)
    cases a1 : atB s 1 128 143
    · simp [a1] at e
      have HE := Lib.hid e
      clear e
      go_enter Tryd.func56, Tryd.ntmps56
      go_wp2_with (go_at_call 66; refine (at_any s _ _ _ _ hs (by omega) (by omega) (by omega) (by omega)).mono ?_; rintro e w' ⟨rfl, rfl⟩)
      go_ret
      exact ⟨by rw [HE.out]; rfl, rfl⟩
    · cases a2 : atB s 2 128 191
      · simp [a1, a2] at e
        have HE := Lib.hid e
        clear e
        go_enter Tryd.func56, Tryd.ntmps56
        go_wp2_with (go_at_call 66; refine (at_any s _ _ _ _ hs (by omega) (by omega) (by omega) (by omega)).mono ?_; rintro e w' ⟨rfl, rfl⟩)
        go_ret
        exact ⟨by rw [HE.out]; rfl, rfl⟩
      · cases a3 : atB s 3 128 191
        · simp [a1, a2, a3] at e
          have HE := Lib.hid e
          clear e
          go_enter Tryd.func56, Tryd.ntmps56
          go_wp2_with (go_at_call 66; refine (at_any s _ _ _ _ hs (by omega) (by omega) (by omega) (by omega)).mono ?_; rintro e w' ⟨rfl, rfl⟩)
          go_ret
          exact ⟨by rw [HE.out]; rfl, rfl⟩
        · simp [a1, a2, a3] at e
          have HE := Lib.hid e
          clear e
          go_enter Tryd.func56, Tryd.ntmps56
          go_wp2_with (go_at_call 66; refine (at_any s _ _ _ _ hs (by omega) (by omega) (by omega) (by omega)).mono ?_; rintro e w' ⟨rfl, rfl⟩)
          go_ret
          exact ⟨by rw [HE.out]; rfl, rfl⟩
  · have e : sizeAt s 0 = 0 := size_bad s h0 (by rw [← hb]; omega)
    clear hb hb1 hb2 hb3
    have q224 : ((b : Int) == 224) = false := by (simp <;> omega)
    have q237 : ((b : Int) == 237) = false := by (simp <;> omega)
    have q240 : ((b : Int) == 240) = false := by (simp <;> omega)
    have q244 : ((b : Int) == 244) = false := by (simp <;> omega)
    have r237 : ((b : Int) != 237) = true := by (simp <;> omega)
    have HE := Lib.hid e
    clear e
    go_enter Tryd.func56, Tryd.ntmps56
    go_wp2_with (go_at_call 66; refine (at_any s _ _ _ _ hs (by omega) (by omega) (by omega) (by omega)).mono ?_; rintro e w' ⟨rfl, rfl⟩)
    go_ret
    exact ⟨by rw [HE.out]; rfl, rfl⟩
end Go.Proofs.YtjkaigfpjebfbaaDoor
