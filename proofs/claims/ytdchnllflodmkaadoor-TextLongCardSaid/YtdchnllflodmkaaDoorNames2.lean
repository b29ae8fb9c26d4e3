/- chandlerref4.Name. -/
import Derived.Test.YtdchnllflodmkaaDoorNames
namespace Go.Proofs.YtdchnllflodmkaaDoor
open Go.RowKit
set_option linter.unusedVariables false

set_option maxRecDepth 100000 in
set_option maxHeartbeats 40000000 in
theorem RefName_any (s : ByteArray) (w : World) (hs : s.size ≤ 9223372036854775807) :
    Calls Tryd.prog 18 #[.string s] w fun e w' => e = .returned (.bool (nameB s)) ∧ w = w' := by
  obtain ⟨q, hq⟩ : ∃ q, q = nameFrom s s.size 0 := ⟨_, rfl⟩
  have HQ := Lib.hid hq
  clear hq
  go_enter Tryd.func18, Tryd.ntmps18
  go_wp2
  go_loop [7] (fun v => ∃ (pos fuel : Nat), v = .int .i64 pos ∧ Hid (nameFrom s fuel pos = nameFrom s s.size 0) ∧ pos ≤ s.size ∧ s.size ≤ pos + fuel) (fun v => s.size - (intOf v).toNat)
  case atStart => exact ⟨0, s.size, rfl, rfl, by omega, by omega⟩
  case round =>
    obtain ⟨pos, fuel, rfl, HS, hps, hb⟩ := hrel
    by_cases hp : pos < s.size
    · obtain ⟨fuel, rfl⟩ : ∃ f', fuel = f' + 1 := ⟨fuel - 1, by omega⟩
      have hx2 : ((s[pos]'hp).toNat : Nat) = byteAt s pos := (byteAt_get s pos hp).symm
      have hno := nameFrom_no s fuel pos hp
      have hyes := nameFrom_yes s fuel pos hp
      have hc8 := byteAt_lt s pos
      have HNo := Lib.hid hno
      have HYes := Lib.hid hyes
      clear hno hyes
      obtain ⟨c, hc⟩ : ∃ c, c = byteAt s pos := ⟨_, rfl⟩
      rw [← hc] at hx2 hc8 HNo HYes
      clear hc
      rcases name_classes c with h1 | h1 | h1 | h1 | h1 | h1 | h1 | h1
      · have sm : smB c = true := decide_eq_true h1
        have dg : digB c = false := decide_eq_false (by omega)
        have HF := Lib.hid (HYes.out (decide_eq_true (by unfold nameOkP; omega)))
        clear HNo HYes
        go_wp2_with (first | (go_at_call 29; refine (small_any c _ hc8).mono ?_; rintro e w' ⟨rfl, rfl⟩) | (go_at_call 28; refine (digit_any c _ hc8).mono ?_; rintro e w' ⟨rfl, rfl⟩))
        go_round
        case rel => exact ⟨pos + 1, fuel, by go_num, by show _ = _; rw [← HS.out]; exact HF.out.symm, by omega, by omega⟩
        case measure => simp [intOf]; omega
      · have sm : smB c = false := decide_eq_false (by omega)
        have dg : digB c = true := decide_eq_true h1
        have HF := Lib.hid (HYes.out (decide_eq_true (by unfold nameOkP; omega)))
        clear HNo HYes
        go_wp2_with (first | (go_at_call 29; refine (small_any c _ hc8).mono ?_; rintro e w' ⟨rfl, rfl⟩) | (go_at_call 28; refine (digit_any c _ hc8).mono ?_; rintro e w' ⟨rfl, rfl⟩))
        go_round
        case rel => exact ⟨pos + 1, fuel, by go_num, by show _ = _; rw [← HS.out]; exact HF.out.symm, by omega, by omega⟩
        case measure => simp [intOf]; omega
      · have sm : smB c = false := decide_eq_false (by omega)
        have dg : digB c = false := decide_eq_false (by omega)
        have g1 : 43 ≤ c := by omega
        have g2 : c ≤ 43 := by omega
        clear h1
        have n43 : ((c : Int) != 43) = false := by (simp <;> omega)
        have m43 : ((c : Int) == 43) = true := by (simp <;> omega)
        have n45 : ((c : Int) != 45) = true := by (simp <;> omega)
        have m45 : ((c : Int) == 45) = false := by (simp <;> omega)
        have n46 : ((c : Int) != 46) = true := by (simp <;> omega)
        have m46 : ((c : Int) == 46) = false := by (simp <;> omega)
        by_cases hz : pos = 0
        · subst hz
          have HF := Lib.hid (HNo.out (decide_eq_false (by unfold nameOkP; omega)))
          clear HNo HYes
          go_wp2_with (first | (go_at_call 29; refine (small_any c _ hc8).mono ?_; rintro e w' ⟨rfl, rfl⟩) | (go_at_call 28; refine (digit_any c _ hc8).mono ?_; rintro e w' ⟨rfl, rfl⟩))
          go_ret
          exact ⟨ret_bool (by unfold nameB; rw [← HS.out, HF.out]; simp), rfl⟩
        · have z : ((pos : Int) == 0) = false := by (simp <;> omega)
          have HF := Lib.hid (HYes.out (decide_eq_true (by unfold nameOkP; omega)))
          clear HNo HYes
          go_wp2_with (first | (go_at_call 29; refine (small_any c _ hc8).mono ?_; rintro e w' ⟨rfl, rfl⟩) | (go_at_call 28; refine (digit_any c _ hc8).mono ?_; rintro e w' ⟨rfl, rfl⟩))
          go_round
          case rel => exact ⟨pos + 1, fuel, by go_num, by show _ = _; rw [← HS.out]; exact HF.out.symm, by omega, by omega⟩
          case measure => simp [intOf]; omega
      · have sm : smB c = false := decide_eq_false (by omega)
        have dg : digB c = false := decide_eq_false (by omega)
        have g1 : 45 ≤ c := by omega
        have g2 : c ≤ 45 := by omega
        clear h1
        have n43 : ((c : Int) != 43) = true := by (simp <;> omega)
        have m43 : ((c : Int) == 43) = false := by (simp <;> omega)
        have n45 : ((c : Int) != 45) = false := by (simp <;> omega)
        have m45 : ((c : Int) == 45) = true := by (simp <;> omega)
        have n46 : ((c : Int) != 46) = true := by (simp <;> omega)
        have m46 : ((c : Int) == 46) = false := by (simp <;> omega)
        by_cases hz : pos = 0
        · subst hz
          have HF := Lib.hid (HNo.out (decide_eq_false (by unfold nameOkP; omega)))
          clear HNo HYes
          go_wp2_with (first | (go_at_call 29; refine (small_any c _ hc8).mono ?_; rintro e w' ⟨rfl, rfl⟩) | (go_at_call 28; refine (digit_any c _ hc8).mono ?_; rintro e w' ⟨rfl, rfl⟩))
          go_ret
          exact ⟨ret_bool (by unfold nameB; rw [← HS.out, HF.out]; simp), rfl⟩
        · have z : ((pos : Int) == 0) = false := by (simp <;> omega)
          have HF := Lib.hid (HYes.out (decide_eq_true (by unfold nameOkP; omega)))
          clear HNo HYes
          go_wp2_with (first | (go_at_call 29; refine (small_any c _ hc8).mono ?_; rintro e w' ⟨rfl, rfl⟩) | (go_at_call 28; refine (digit_any c _ hc8).mono ?_; rintro e w' ⟨rfl, rfl⟩))
          go_round
          case rel => exact ⟨pos + 1, fuel, by go_num, by show _ = _; rw [← HS.out]; exact HF.out.symm, by omega, by omega⟩
          case measure => simp [intOf]; omega
      · have sm : smB c = false := decide_eq_false (by omega)
        have dg : digB c = false := decide_eq_false (by omega)
        have g1 : 46 ≤ c := by omega
        have g2 : c ≤ 46 := by omega
        clear h1
        have n43 : ((c : Int) != 43) = true := by (simp <;> omega)
        have m43 : ((c : Int) == 43) = false := by (simp <;> omega)
        have n45 : ((c : Int) != 45) = true := by (simp <;> omega)
        have m45 : ((c : Int) == 45) = false := by (simp <;> omega)
        have n46 : ((c : Int) != 46) = false := by (simp <;> omega)
        have m46 : ((c : Int) == 46) = true := by (simp <;> omega)
        by_cases hz : pos = 0
        · subst hz
          have HF := Lib.hid (HNo.out (decide_eq_false (by unfold nameOkP; omega)))
          clear HNo HYes
          go_wp2_with (first | (go_at_call 29; refine (small_any c _ hc8).mono ?_; rintro e w' ⟨rfl, rfl⟩) | (go_at_call 28; refine (digit_any c _ hc8).mono ?_; rintro e w' ⟨rfl, rfl⟩))
          go_ret
          exact ⟨ret_bool (by unfold nameB; rw [← HS.out, HF.out]; simp), rfl⟩
        · have z : ((pos : Int) == 0) = false := by (simp <;> omega)
          have HF := Lib.hid (HYes.out (decide_eq_true (by unfold nameOkP; omega)))
          clear HNo HYes
          go_wp2_with (first | (go_at_call 29; refine (small_any c _ hc8).mono ?_; rintro e w' ⟨rfl, rfl⟩) | (go_at_call 28; refine (digit_any c _ hc8).mono ?_; rintro e w' ⟨rfl, rfl⟩))
          go_round
          case rel => exact ⟨pos + 1, fuel, by go_num, by show _ = _; rw [← HS.out]; exact HF.out.symm, by omega, by omega⟩
          case measure => simp [intOf]; omega
      · have sm : smB c = false := decide_eq_false (by omega)
        have dg : digB c = false := decide_eq_false (by omega)
        have n43 : ((c : Int) != 43) = true := by (simp <;> omega)
        have m43 : ((c : Int) == 43) = false := by (simp <;> omega)
        have n45 : ((c : Int) != 45) = true := by (simp <;> omega)
        have m45 : ((c : Int) == 45) = false := by (simp <;> omega)
        have n46 : ((c : Int) != 46) = true := by (simp <;> omega)
        have m46 : ((c : Int) == 46) = false := by (simp <;> omega)
        by_cases hz : pos = 0
        · subst hz
          have HF := Lib.hid (HNo.out (decide_eq_false (by unfold nameOkP; omega)))
          clear HNo HYes
          go_wp2_with (first | (go_at_call 29; refine (small_any c _ hc8).mono ?_; rintro e w' ⟨rfl, rfl⟩) | (go_at_call 28; refine (digit_any c _ hc8).mono ?_; rintro e w' ⟨rfl, rfl⟩))
          go_ret
          exact ⟨ret_bool (by unfold nameB; rw [← HS.out, HF.out]; simp), rfl⟩
        · have z : ((pos : Int) == 0) = false := by (simp <;> omega)
          have HF := Lib.hid (HNo.out (decide_eq_false (by unfold nameOkP; omega)))
          clear HNo HYes
          go_wp2_with (first | (go_at_call 29; refine (small_any c _ hc8).mono ?_; rintro e w' ⟨rfl, rfl⟩) | (go_at_call 28; refine (digit_any c _ hc8).mono ?_; rintro e w' ⟨rfl, rfl⟩))
          go_ret
          exact ⟨ret_bool (by unfold nameB; rw [← HS.out, HF.out]; simp), rfl⟩
      · have sm : smB c = false := decide_eq_false (by omega)
        have dg : digB c = false := decide_eq_false (by omega)
        have n43 : ((c : Int) != 43) = true := by (simp <;> omega)
        have m43 : ((c : Int) == 43) = false := by (simp <;> omega)
        have n45 : ((c : Int) != 45) = true := by (simp <;> omega)
        have m45 : ((c : Int) == 45) = false := by (simp <;> omega)
        have n46 : ((c : Int) != 46) = true := by (simp <;> omega)
        have m46 : ((c : Int) == 46) = false := by (simp <;> omega)
        by_cases hz : pos = 0
        · subst hz
          have HF := Lib.hid (HNo.out (decide_eq_false (by unfold nameOkP; omega)))
          clear HNo HYes
          go_wp2_with (first | (go_at_call 29; refine (small_any c _ hc8).mono ?_; rintro e w' ⟨rfl, rfl⟩) | (go_at_call 28; refine (digit_any c _ hc8).mono ?_; rintro e w' ⟨rfl, rfl⟩))
          go_ret
          exact ⟨ret_bool (by unfold nameB; rw [← HS.out, HF.out]; simp), rfl⟩
        · have z : ((pos : Int) == 0) = false := by (simp <;> omega)
          have HF := Lib.hid (HNo.out (decide_eq_false (by unfold nameOkP; omega)))
          clear HNo HYes
          go_wp2_with (first | (go_at_call 29; refine (small_any c _ hc8).mono ?_; rintro e w' ⟨rfl, rfl⟩) | (go_at_call 28; refine (digit_any c _ hc8).mono ?_; rintro e w' ⟨rfl, rfl⟩))
          go_ret
          exact ⟨ret_bool (by unfold nameB; rw [← HS.out, HF.out]; simp), rfl⟩
      · have sm : smB c = false := decide_eq_false (by omega)
        have dg : digB c = false := decide_eq_false (by omega)
        have n43 : ((c : Int) != 43) = true := by (simp <;> omega)
        have m43 : ((c : Int) == 43) = false := by (simp <;> omega)
        have n45 : ((c : Int) != 45) = true := by (simp <;> omega)
        have m45 : ((c : Int) == 45) = false := by (simp <;> omega)
        have n46 : ((c : Int) != 46) = true := by (simp <;> omega)
        have m46 : ((c : Int) == 46) = false := by (simp <;> omega)
        by_cases hz : pos = 0
        · subst hz
          have HF := Lib.hid (HNo.out (decide_eq_false (by unfold nameOkP; omega)))
          clear HNo HYes
          go_wp2_with (first | (go_at_call 29; refine (small_any c _ hc8).mono ?_; rintro e w' ⟨rfl, rfl⟩) | (go_at_call 28; refine (digit_any c _ hc8).mono ?_; rintro e w' ⟨rfl, rfl⟩))
          go_ret
          exact ⟨ret_bool (by unfold nameB; rw [← HS.out, HF.out]; simp), rfl⟩
        · have z : ((pos : Int) == 0) = false := by (simp <;> omega)
          have HF := Lib.hid (HNo.out (decide_eq_false (by unfold nameOkP; omega)))
          clear HNo HYes
          go_wp2_with (first | (go_at_call 29; refine (small_any c _ hc8).mono ?_; rintro e w' ⟨rfl, rfl⟩) | (go_at_call 28; refine (digit_any c _ hc8).mono ?_; rintro e w' ⟨rfl, rfl⟩))
          go_ret
          exact ⟨ret_bool (by unfold nameB; rw [← HS.out, HF.out]; simp), rfl⟩
    · have e : nameFrom s s.size 0 = true := by rw [← HS.out]; exact nameFrom_end s fuel pos hp
      by_cases hlo : 2 ≤ s.size
      · by_cases hhi : s.size ≤ 24
        · have HE := Lib.hid (show nameB s = true by unfold nameB; rw [e]; simp [hlo, hhi])
          have q24 : decide ((s.size : Int) ≤ 24) = true := decide_eq_true (by omega)
          clear e
          go_wp2
          go_ret
          exact ⟨ret_bool HE.out.symm, rfl⟩
        · have HE := Lib.hid (show nameB s = false by unfold nameB; simp [hhi])
          have q24 : decide ((s.size : Int) ≤ 24) = false := decide_eq_false (by omega)
          clear e
          go_wp2
          go_ret
          exact ⟨ret_bool HE.out.symm, rfl⟩
      · have HE := Lib.hid (show nameB s = false by unfold nameB; simp [hlo])
        clear e
        go_wp2
        go_ret
        exact ⟨ret_bool HE.out.symm, rfl⟩
end Go.Proofs.YtdchnllflodmkaaDoor
