/- chandlerref4.Good; names. -/
import Derived.Test.YtjkaigfpjebfbaaDoorRefGood
import Derived.Test.YtjkaigfpjebfbaaDoorTxt2
namespace Go.Proofs.YtjkaigfpjebfbaaDoor
open Go.RowKit
set_option linter.unusedVariables false

theorem stop_ref_ways (s : ByteArray) (i : Nat) (h : i < s.size) : (stop s i = true ∧ sizeAt s i = 0) ∨ (stop s i = true ∧ sizeAt s i ≠ 0 ∧ byteAt s i < 32 ∧ byteAt s i ≠ 9) ∨ (stop s i = true ∧ sizeAt s i ≠ 0 ∧ byteAt s i = 127) ∨
    (stop s i = false ∧ sizeAt s i ≠ 0 ∧ byteAt s i = 9) ∨ (stop s i = false ∧ sizeAt s i ≠ 0 ∧ 32 ≤ byteAt s i ∧ byteAt s i ≠ 127) := by
  have hr := stop_ref s i h
  have hst : stop s i = decide (stopP s i) := rfl
  by_cases hs : stopP s i
  · rw [decide_eq_true hs] at hst
    rw [hst]
    have := hr.1 hs
    simp only [Bool.true_eq_false, false_and, or_false, true_and]
    omega
  · rw [decide_eq_false hs] at hst
    rw [hst]
    have : ¬ _ := fun h2 => hs (hr.2 h2)
    simp only [Bool.false_eq_true, false_and, false_or, true_and]
    omega
set_option maxRecDepth 100000 in
set_option maxHeartbeats 2000000 in
theorem RefGood_any (s : ByteArray) (w : World) (hs : s.size ≤ 9223372036854775807) :
    Calls Tryd.prog 43 #[.string s] w fun e w' => e = .returned (.int .i64 (goodZ s)) ∧ w = w' := by
  go_enter Tryd.func43, Tryd.ntmps43
  go_wp2
  go_loop [3] (fun v => ∃ (pos fuel : Nat), v = .int .i64 pos ∧ Hid (goodFrom s fuel pos = goodZ s) ∧ pos ≤ s.size ∧ s.size ≤ pos + fuel) (fun v => s.size - (intOf v).toNat)
  case atStart => exact ⟨0, s.size, rfl, rfl, by omega, by omega⟩
  case round =>
    obtain ⟨pos, fuel, rfl, HS, hps, hb⟩ := hrel
    by_cases hp : pos < s.size
    · have hwd := Lib.decode_width_pos s pos hp
      have hin := decode_in s pos hp
      obtain ⟨fuel, rfl⟩ : ∃ f', fuel = f' + 1 := ⟨fuel - 1, by omega⟩
      have hsz := size_any (s.extract pos s.size)
      simp only [sizeAt_tail s pos hp] at hsz
      have hx2 : ((s[pos]'hp).toNat : Nat) = byteAt s pos := (byteAt_get s pos hp).symm
      have hways := stop_ref_ways s pos hp
      have hstep : stop s pos = false → sizeAt s pos = (Utf8.decode s pos).2 := sizeAt_step s pos
      have HStep := Lib.hid (fun h => (goodFrom_step s fuel pos hp h).trans (by rw [← hstep h]))
      have HIn := Lib.hid (fun h => by have := hstep h; omega : stop s pos = false → 1 ≤ sizeAt s pos ∧ pos + sizeAt s pos ≤ s.size)
      have HStop := Lib.hid (goodFrom_stop s fuel pos hp)
      clear hstep hwd hin
      obtain ⟨st, hst⟩ : ∃ st, st = stop s pos := ⟨_, rfl⟩
      rw [← hst] at hways HStop HStep HIn
      clear hst
      obtain ⟨n, hn⟩ : ∃ n, n = sizeAt s pos := ⟨_, rfl⟩
      rw [← hn] at hways HStep HIn
      simp only [← hn] at hsz
      obtain ⟨b, hbb⟩ : ∃ b, b = byteAt s pos := ⟨_, rfl⟩
      rw [← hbb] at hx2 hways
      have hb8 : b < 256 := by rw [hbb]; exact byteAt_lt s pos
      have HSz := Lib.hid hsz
      clear hn hbb hsz
      have hp1 : (0 : Int) ≤ (pos : Int) := by omega
      have hp2 : (pos : Int) ≤ (s.size : Int) := by omega
      have hp3 : 0 < (s.extract pos s.size).size := by simp; omega
      have hp4 : (s.extract pos s.size).size ≤ 9223372036854775807 := by simp; omega
      have HP := Lib.hid (And.intro hp3 hp4)
      clear hp3 hp4
      rcases hways with ⟨rfl, h1⟩ | ⟨rfl, h1, h2, h3⟩ | ⟨rfl, h1, h2⟩ | ⟨rfl, h1, h2⟩ | ⟨rfl, h1, h2, h3⟩
      · have e1 : ((n : Int) == 0) = true := by (simp <;> omega)
        clear h1
        go_wp2_with (go_at_call 56; refine (HSz.out _ HP.out.1 HP.out.2).mono ?_; rintro e w3 ⟨rfl, rfl⟩)
        go_ret
        have h := HStop.out trivial
        rw [HS.out] at h
        exact ⟨ret_int h.symm, rfl⟩
      · have e1 : ((n : Int) == 0) = false := by (simp <;> omega)
        have e2 : ((b : Int) != 9) = true := by (simp <;> omega)
        clear h1 h3
        go_wp2_with (go_at_call 56; refine (HSz.out _ HP.out.1 HP.out.2).mono ?_; rintro e w3 ⟨rfl, rfl⟩)
        go_ret
        have h := HStop.out trivial
        rw [HS.out] at h
        exact ⟨ret_int h.symm, rfl⟩
      · have e1 : ((n : Int) == 0) = false := by (simp <;> omega)
        have e2 : ((b : Int) == 127) = true := by (simp <;> omega)
        have h4 : 32 ≤ b := by omega
        clear h1 h2
        go_wp2_with (go_at_call 56; refine (HSz.out _ HP.out.1 HP.out.2).mono ?_; rintro e w3 ⟨rfl, rfl⟩)
        go_ret
        have h := HStop.out trivial
        rw [HS.out] at h
        exact ⟨ret_int h.symm, rfl⟩
      · have e1 : ((n : Int) == 0) = false := by (simp <;> omega)
        have e2 : ((b : Int) == 127) = false := by (simp <;> omega)
        have e3 : ((b : Int) != 9) = false := by (simp <;> omega)
        have h4 : b < 32 := by omega
        clear h1 h2
        have hi := HIn.out rfl
        go_wp2_with (go_at_call 56; refine (HSz.out _ HP.out.1 HP.out.2).mono ?_; rintro e w3 ⟨rfl, rfl⟩)
        go_round
        case rel =>
          have h := HStep.out trivial
          rw [HS.out] at h
          exact ⟨pos + n, fuel, by go_num, h.symm, by omega, by omega⟩
        case measure => simp [intOf]; omega
      · have e1 : ((n : Int) == 0) = false := by (simp <;> omega)
        have e2 : ((b : Int) == 127) = false := by (simp <;> omega)
        clear h1 h3
        have hi := HIn.out rfl
        go_wp2_with (go_at_call 56; refine (HSz.out _ HP.out.1 HP.out.2).mono ?_; rintro e w3 ⟨rfl, rfl⟩)
        go_round
        case rel =>
          have h := HStep.out trivial
          rw [HS.out] at h
          exact ⟨pos + n, fuel, by go_num, h.symm, by omega, by omega⟩
        case measure => simp [intOf]; omega
    · have e : goodZ s = -1 := by rw [← HS.out]; exact goodFrom_end s fuel pos hp
      have HE := Lib.hid e
      clear e
      go_wp2
      go_ret
      exact ⟨ret_int HE.out.symm, rfl⟩
end Go.Proofs.YtjkaigfpjebfbaaDoor
