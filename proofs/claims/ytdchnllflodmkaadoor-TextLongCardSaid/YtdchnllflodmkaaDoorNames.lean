/- text.Name, chandlerref4.Name: they answer what the plain law says. -/
import Derived.Test.YtdchnllflodmkaaDoorGood2
namespace Go.Proofs.YtdchnllflodmkaaDoor
open Go.RowKit
set_option linter.unusedVariables false

theorem name_classes (c : Nat) : (97 ≤ c ∧ c ≤ 122) ∨ (48 ≤ c ∧ c ≤ 57) ∨ c = 43 ∨ c = 45 ∨ c = 46 ∨ (c < 48 ∧ c ≠ 43 ∧ c ≠ 45 ∧ c ≠ 46) ∨ (58 ≤ c ∧ c < 97) ∨ 123 ≤ c := by omega
def smB (b : Nat) : Bool := decide (97 ≤ b ∧ b ≤ 122)
theorem small_any (b : Nat) (w : World) (hb : b < 256) : Calls Tryd.prog 29 #[.int .u8 (b : Int)] w fun e w' => e = .returned (.bool (smB b)) ∧ w = w' := by
  by_cases h1 : 97 ≤ b
  · by_cases h2 : b ≤ 122
    · have HE := Lib.hid (show smB b = true from decide_eq_true ⟨h1, h2⟩)
      have q : decide ((b : Int) ≤ 122) = true := by (simp <;> omega)
      go_enter Tryd.func29, Tryd.ntmps29
      go_wp2
      go_ret
      exact ⟨ret_bool HE.out.symm, rfl⟩
    · have HE := Lib.hid (show smB b = false from decide_eq_false (by omega))
      have q : decide ((b : Int) ≤ 122) = false := by (simp <;> omega)
      go_enter Tryd.func29, Tryd.ntmps29
      go_wp2
      go_ret
      exact ⟨ret_bool HE.out.symm, rfl⟩
  · have HE := Lib.hid (show smB b = false from decide_eq_false (by omega))
    go_enter Tryd.func29, Tryd.ntmps29
    go_wp2
    go_ret
    exact ⟨ret_bool HE.out.symm, rfl⟩
theorem digit_any (b : Nat) (w : World) (hb : b < 256) : Calls Tryd.prog 28 #[.int .u8 (b : Int)] w fun e w' => e = .returned (.bool (digB b)) ∧ w = w' := by
  by_cases h1 : 48 ≤ b
  · by_cases h2 : b ≤ 57
    · have HE := Lib.hid (show digB b = true from decide_eq_true ⟨h1, h2⟩)
      have q : decide ((b : Int) ≤ 57) = true := by (simp <;> omega)
      go_enter Tryd.func28, Tryd.ntmps28
      go_wp2
      go_ret
      exact ⟨ret_bool HE.out.symm, rfl⟩
    · have HE := Lib.hid (show digB b = false from decide_eq_false (by omega))
      have q : decide ((b : Int) ≤ 57) = false := by (simp <;> omega)
      go_enter Tryd.func28, Tryd.ntmps28
      go_wp2
      go_ret
      exact ⟨ret_bool HE.out.symm, rfl⟩
  · have HE := Lib.hid (show digB b = false from decide_eq_false (by omega))
    go_enter Tryd.func28, Tryd.ntmps28
    go_wp2
    go_ret
    exact ⟨ret_bool HE.out.symm, rfl⟩
set_option maxRecDepth 100000 in
set_option maxHeartbeats 4000000 in
theorem Name_any (s : ByteArray) (w : World) (hs : s.size ≤ 9223372036854775807) :
    Calls Tryd.prog 17 #[.string s] w fun e w' => e = .returned (.bool (nameB s)) ∧ Below w.heap.size w w' := by
  by_cases hlo : 2 ≤ s.size
  · by_cases hhi : s.size ≤ 24
    · have e : nameB s = nameFrom s s.size 0 := by unfold nameB; simp [hlo, hhi]
      have HE := Lib.hid e
      clear e
      go_enter Tryd.func17, Tryd.ntmps17
      go_wp2
      go_loopw [3] (fun _ wr => ∃ (pos fuel : Nat), wr.heap[w.heap.size]? = some (.stringIter s pos) ∧ Below w.heap.size w wr ∧ Hid (nameFrom s fuel pos = nameB s) ∧ s.size ≤ pos + fuel) (fun _ wr => s.size - wr.iterPos w.heap.size)
      case atStart => exact ⟨0, s.size, World.iter_heap w s 0, (Below.refl _ _).alloc (Nat.le_refl _) _, HE.out.symm, by omega⟩
      case round =>
        obtain ⟨pos, fuel, hit, hbw, HS, hb⟩ := hrel
        have hpos0 := iterPos_of hit
        by_cases hp : pos < s.size
        · have hnx : ∀ ty, (Instr.next (.pointer (some ⟨w.heap.size, 0, none⟩)) true ty).run Tryd.prog wr = _ := fun ty => Lib.run_next_any_at wr w.heap.size s pos ty hit hp
          have hwd := Lib.decode_width_pos s pos hp
          have hin := decode_in s pos hp
          obtain ⟨fuel, rfl⟩ : ∃ f', fuel = f' + 1 := ⟨fuel - 1, by omega⟩
          have hit2 := Lib.iterAt_heap wr w.heap.size s pos (pos + (Utf8.decode s pos).2) hit
          have hbw2 := Lib.below_iterAt hbw (k := w.heap.size) (Nat.le_refl _) s (pos + (Utf8.decode s pos).2)
          obtain ⟨W1, hW1⟩ : ∃ W1, W1 = wr.iterAt w.heap.size s (pos + (Utf8.decode s pos).2) := ⟨_, rfl⟩
          rw [← hW1] at hnx hit2 hbw2
          have HHit := Lib.hid hit2
          have HBw := Lib.hid hbw2
          have hno := nameFrom_no s fuel pos hp
          have hyes := nameFrom_yes s fuel pos hp
          have hra := rune_at s pos
          have hle := rune_le s pos
          rw [name_rune] at hno hyes
          have hone : nameOkP pos (Utf8.decode s pos).1 → (Utf8.decode s pos).2 = 1 := by
            intro h
            rcases hra with ⟨h1, e⟩ | ⟨h1, h2⟩
            · rw [e]
            · unfold nameOkP at h; omega
          have HNo := Lib.hid hno
          have HYes := Lib.hid hyes
          have HOne := Lib.hid hone
          have HPos := Lib.hid hpos0
          clear hW1 hit hbw hit2 hbw2 hpos0 hno hyes hone hra
          obtain ⟨c, hc⟩ : ∃ c, c = (Utf8.decode s pos).1 := ⟨_, rfl⟩
          obtain ⟨n, hn⟩ : ∃ n, n = (Utf8.decode s pos).2 := ⟨_, rfl⟩
          rw [← hc] at hnx hle HNo HYes HOne
          rw [← hn] at hwd hin HHit HOne
          clear hc hn
          rcases name_classes c with h1 | h1 | h1 | h1 | h1 | h1 | h1 | h1
          · have q122 : decide ((c : Int) ≤ 122) = true := by (simp <;> omega)
            have hone := HOne.out (by unfold nameOkP; omega)
            have HF := Lib.hid (HYes.out (decide_eq_true (by unfold nameOkP; omega)))
            rw [hone] at HHit
            clear HNo HYes HOne hone
            go_wp2
            go_roundw
            case rel => exact ⟨pos + 1, fuel, HHit.out, HBw.out, by show _ = _; rw [← HS.out]; exact HF.out.symm, by omega⟩
            case measure =>
              rw [iterPos_of HHit.out, HPos.out]
              omega
          · have q57 : decide ((c : Int) ≤ 57) = true := by (simp <;> omega)
            have hone := HOne.out (by unfold nameOkP; omega)
            have HF := Lib.hid (HYes.out (decide_eq_true (by unfold nameOkP; omega)))
            rw [hone] at HHit
            clear HNo HYes HOne hone
            go_wp2
            go_roundw
            case rel => exact ⟨pos + 1, fuel, HHit.out, HBw.out, by show _ = _; rw [← HS.out]; exact HF.out.symm, by omega⟩
            case measure =>
              rw [iterPos_of HHit.out, HPos.out]
              omega
          · have n43 : ((c : Int) != 43) = false := by (simp <;> omega)
            have m43 : ((c : Int) == 43) = true := by (simp <;> omega)
            have n45 : ((c : Int) != 45) = true := by (simp <;> omega)
            have m45 : ((c : Int) == 45) = false := by (simp <;> omega)
            have n46 : ((c : Int) != 46) = true := by (simp <;> omega)
            have m46 : ((c : Int) == 46) = false := by (simp <;> omega)
            by_cases hz : pos = 0
            · subst hz
              have HF := Lib.hid (HNo.out (decide_eq_false (by unfold nameOkP; omega)))
              clear HNo HYes HOne
              go_wp2
              go_ret
              exact ⟨ret_bool (by rw [← HS.out]; exact HF.out.symm), HBw.out⟩
            · have z : ((pos : Int) == 0) = false := by (simp <;> omega)
              have hone := HOne.out (by unfold nameOkP; omega)
              have HF := Lib.hid (HYes.out (decide_eq_true (by unfold nameOkP; omega)))
              rw [hone] at HHit
              clear HNo HYes HOne hone
              go_wp2
              go_roundw
              case rel => exact ⟨pos + 1, fuel, HHit.out, HBw.out, by show _ = _; rw [← HS.out]; exact HF.out.symm, by omega⟩
              case measure =>
                rw [iterPos_of HHit.out, HPos.out]
                omega
          · have n43 : ((c : Int) != 43) = true := by (simp <;> omega)
            have m43 : ((c : Int) == 43) = false := by (simp <;> omega)
            have n45 : ((c : Int) != 45) = false := by (simp <;> omega)
            have m45 : ((c : Int) == 45) = true := by (simp <;> omega)
            have n46 : ((c : Int) != 46) = true := by (simp <;> omega)
            have m46 : ((c : Int) == 46) = false := by (simp <;> omega)
            by_cases hz : pos = 0
            · subst hz
              have HF := Lib.hid (HNo.out (decide_eq_false (by unfold nameOkP; omega)))
              clear HNo HYes HOne
              go_wp2
              go_ret
              exact ⟨ret_bool (by rw [← HS.out]; exact HF.out.symm), HBw.out⟩
            · have z : ((pos : Int) == 0) = false := by (simp <;> omega)
              have hone := HOne.out (by unfold nameOkP; omega)
              have HF := Lib.hid (HYes.out (decide_eq_true (by unfold nameOkP; omega)))
              rw [hone] at HHit
              clear HNo HYes HOne hone
              go_wp2
              go_roundw
              case rel => exact ⟨pos + 1, fuel, HHit.out, HBw.out, by show _ = _; rw [← HS.out]; exact HF.out.symm, by omega⟩
              case measure =>
                rw [iterPos_of HHit.out, HPos.out]
                omega
          · have n43 : ((c : Int) != 43) = true := by (simp <;> omega)
            have m43 : ((c : Int) == 43) = false := by (simp <;> omega)
            have n45 : ((c : Int) != 45) = true := by (simp <;> omega)
            have m45 : ((c : Int) == 45) = false := by (simp <;> omega)
            have n46 : ((c : Int) != 46) = false := by (simp <;> omega)
            have m46 : ((c : Int) == 46) = true := by (simp <;> omega)
            by_cases hz : pos = 0
            · subst hz
              have HF := Lib.hid (HNo.out (decide_eq_false (by unfold nameOkP; omega)))
              clear HNo HYes HOne
              go_wp2
              go_ret
              exact ⟨ret_bool (by rw [← HS.out]; exact HF.out.symm), HBw.out⟩
            · have z : ((pos : Int) == 0) = false := by (simp <;> omega)
              have hone := HOne.out (by unfold nameOkP; omega)
              have HF := Lib.hid (HYes.out (decide_eq_true (by unfold nameOkP; omega)))
              rw [hone] at HHit
              clear HNo HYes HOne hone
              go_wp2
              go_roundw
              case rel => exact ⟨pos + 1, fuel, HHit.out, HBw.out, by show _ = _; rw [← HS.out]; exact HF.out.symm, by omega⟩
              case measure =>
                rw [iterPos_of HHit.out, HPos.out]
                omega
          · have n43 : ((c : Int) != 43) = true := by (simp <;> omega)
            have m43 : ((c : Int) == 43) = false := by (simp <;> omega)
            have n45 : ((c : Int) != 45) = true := by (simp <;> omega)
            have m45 : ((c : Int) == 45) = false := by (simp <;> omega)
            have n46 : ((c : Int) != 46) = true := by (simp <;> omega)
            have m46 : ((c : Int) == 46) = false := by (simp <;> omega)
            by_cases hz : pos = 0
            · subst hz
              have HF := Lib.hid (HNo.out (decide_eq_false (by unfold nameOkP; omega)))
              clear HNo HYes HOne
              go_wp2
              go_ret
              exact ⟨ret_bool (by rw [← HS.out]; exact HF.out.symm), HBw.out⟩
            · have z : ((pos : Int) == 0) = false := by (simp <;> omega)
              have HF := Lib.hid (HNo.out (decide_eq_false (by unfold nameOkP; omega)))
              clear HNo HYes HOne
              go_wp2
              go_ret
              exact ⟨ret_bool (by rw [← HS.out]; exact HF.out.symm), HBw.out⟩
          · have n43 : ((c : Int) != 43) = true := by (simp <;> omega)
            have m43 : ((c : Int) == 43) = false := by (simp <;> omega)
            have n45 : ((c : Int) != 45) = true := by (simp <;> omega)
            have m45 : ((c : Int) == 45) = false := by (simp <;> omega)
            have n46 : ((c : Int) != 46) = true := by (simp <;> omega)
            have m46 : ((c : Int) == 46) = false := by (simp <;> omega)
            have q57 : decide ((c : Int) ≤ 57) = false := by (simp <;> omega)
            by_cases hz : pos = 0
            · subst hz
              have HF := Lib.hid (HNo.out (decide_eq_false (by unfold nameOkP; omega)))
              clear HNo HYes HOne
              go_wp2
              go_ret
              exact ⟨ret_bool (by rw [← HS.out]; exact HF.out.symm), HBw.out⟩
            · have z : ((pos : Int) == 0) = false := by (simp <;> omega)
              have HF := Lib.hid (HNo.out (decide_eq_false (by unfold nameOkP; omega)))
              clear HNo HYes HOne
              go_wp2
              go_ret
              exact ⟨ret_bool (by rw [← HS.out]; exact HF.out.symm), HBw.out⟩
          · have n43 : ((c : Int) != 43) = true := by (simp <;> omega)
            have m43 : ((c : Int) == 43) = false := by (simp <;> omega)
            have n45 : ((c : Int) != 45) = true := by (simp <;> omega)
            have m45 : ((c : Int) == 45) = false := by (simp <;> omega)
            have n46 : ((c : Int) != 46) = true := by (simp <;> omega)
            have m46 : ((c : Int) == 46) = false := by (simp <;> omega)
            have q57 : decide ((c : Int) ≤ 57) = false := by (simp <;> omega)
            have q122 : decide ((c : Int) ≤ 122) = false := by (simp <;> omega)
            by_cases hz : pos = 0
            · subst hz
              have HF := Lib.hid (HNo.out (decide_eq_false (by unfold nameOkP; omega)))
              clear HNo HYes HOne
              go_wp2
              go_ret
              exact ⟨ret_bool (by rw [← HS.out]; exact HF.out.symm), HBw.out⟩
            · have z : ((pos : Int) == 0) = false := by (simp <;> omega)
              have HF := Lib.hid (HNo.out (decide_eq_false (by unfold nameOkP; omega)))
              clear HNo HYes HOne
              go_wp2
              go_ret
              exact ⟨ret_bool (by rw [← HS.out]; exact HF.out.symm), HBw.out⟩
        · have hnx : ∀ ty, (Instr.next (.pointer (some ⟨w.heap.size, 0, none⟩)) true ty).run Tryd.prog wr = _ := fun ty => Lib.run_next_end_at wr w.heap.size s pos ty hit hp
          have e : nameB s = true := by rw [← HS.out]; exact nameFrom_end s fuel pos hp
          have HE := Lib.hid e
          have HBw := Lib.hid hbw
          clear e hbw
          go_wp2
          go_ret
          exact ⟨ret_bool HE.out.symm, HBw.out⟩
    · have e : nameB s = false := by unfold nameB; simp [hhi]
      have HE := Lib.hid e
      clear e
      go_enter Tryd.func17, Tryd.ntmps17
      go_wp2
      go_ret
      exact ⟨ret_bool HE.out.symm, Below.refl _ _⟩
  · have e : nameB s = false := by unfold nameB; simp [hlo]
    have HE := Lib.hid e
    clear e
    go_enter Tryd.func17, Tryd.ntmps17
    go_wp2
    go_ret
    exact ⟨ret_bool HE.out.symm, Below.refl _ _⟩
end Go.Proofs.YtdchnllflodmkaaDoor
