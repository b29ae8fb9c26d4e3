/- text.Name, chandlerref4.Name (as in the Text chapter). -/
import Derived.Test.YtjkaigfpjebfbaaProg
import Derived.Test.YtjkaigfpjebfbaaHeap
import Derived.Test.YtjkaigfpjebfbaaTxt2
import Derived.WalkKit
import Derived.WalkSpells
import Derived.Lib.OthersKept
import Derived.Lib.Hide
import Derived.Outline
namespace Go.Proofs.Ytjkaigfpjebfbaa
open Go.RowKit
set_option linter.unusedVariables false

theorem iterPos_of {w : World} {k : Nat} {s : ByteArray} {p : Nat} (h : w.heap[k]? = some (.stringIter s p)) : w.iterPos k = p := by simp [World.iterPos, h]
theorem lt_of_block {w : World} {k : Nat} {o : Obj} (h : w.heap[k]? = some o) : k < w.heap.size := by
  rcases Nat.lt_or_ge k w.heap.size with h1 | h1
  · exact h1
  · rw [Array.getElem?_eq_none h1] at h; cases h
theorem name_classes (c : Nat) : (97 ≤ c ∧ c ≤ 122) ∨ (48 ≤ c ∧ c ≤ 57) ∨ c = 43 ∨ c = 45 ∨ c = 46 ∨ (c < 48 ∧ c ≠ 43 ∧ c ≠ 45 ∧ c ≠ 46) ∨ (58 ≤ c ∧ c < 97) ∨ 123 ≤ c := by omega
def smB (b : Nat) : Bool := decide (97 ≤ b ∧ b ≤ 122)
theorem small_any (b : Nat) (w : World) (hb : b < 256) : Calls Try.prog 81 #[.int .u8 (b : Int)] w fun e w' => e = .returned (.bool (smB b)) ∧ w = w' := by
  by_cases h1 : 97 ≤ b
  · by_cases h2 : b ≤ 122
    · have HE := Lib.hid (show smB b = true from decide_eq_true ⟨h1, h2⟩)
      have q : decide ((b : Int) ≤ 122) = true := by (simp <;> omega)
      go_enter Try.func81, Try.ntmps81
      go_wp2
      go_ret
      exact ⟨ret_bool HE.out.symm, rfl⟩
    · have HE := Lib.hid (show smB b = false from decide_eq_false (by omega))
      have q : decide ((b : Int) ≤ 122) = false := by (simp <;> omega)
      go_enter Try.func81, Try.ntmps81
      go_wp2
      go_ret
      exact ⟨ret_bool HE.out.symm, rfl⟩
  · have HE := Lib.hid (show smB b = false from decide_eq_false (by omega))
    go_enter Try.func81, Try.ntmps81
    go_wp2
    go_ret
    exact ⟨ret_bool HE.out.symm, rfl⟩
theorem digit_any (b : Nat) (w : World) (hb : b < 256) : Calls Try.prog 79 #[.int .u8 (b : Int)] w fun e w' => e = .returned (.bool (digB b)) ∧ w = w' := by
  by_cases h1 : 48 ≤ b
  · by_cases h2 : b ≤ 57
    · have HE := Lib.hid (show digB b = true from decide_eq_true ⟨h1, h2⟩)
      have q : decide ((b : Int) ≤ 57) = true := by (simp <;> omega)
      go_enter Try.func79, Try.ntmps79
      go_wp2
      go_ret
      exact ⟨ret_bool HE.out.symm, rfl⟩
    · have HE := Lib.hid (show digB b = false from decide_eq_false (by omega))
      have q : decide ((b : Int) ≤ 57) = false := by (simp <;> omega)
      go_enter Try.func79, Try.ntmps79
      go_wp2
      go_ret
      exact ⟨ret_bool HE.out.symm, rfl⟩
  · have HE := Lib.hid (show digB b = false from decide_eq_false (by omega))
    go_enter Try.func79, Try.ntmps79
    go_wp2
    go_ret
    exact ⟨ret_bool HE.out.symm, rfl⟩
set_option maxRecDepth 100000 in
set_option maxHeartbeats 4000000 in
theorem Name_any (s : ByteArray) (w : World) (hs : s.size ≤ 9223372036854775807) :
    Calls Try.prog 49 #[.string s] w fun e w' => e = .returned (.bool (nameB s)) ∧ Below w.heap.size w w' := by
  by_cases hlo : 2 ≤ s.size
  · by_cases hhi : s.size ≤ 24
    · have e : nameB s = nameFrom s s.size 0 := by unfold nameB; simp [hlo, hhi]
      have HE := Lib.hid e
      clear e
      go_enter Try.func49, Try.ntmps49
      go_wp2
      go_loopw [3] (fun _ wr => ∃ (pos fuel : Nat), wr.heap[w.heap.size]? = some (.stringIter s pos) ∧ Below w.heap.size w wr ∧ Hid (nameFrom s fuel pos = nameB s) ∧ s.size ≤ pos + fuel) (fun _ wr => s.size - wr.iterPos w.heap.size)
      case atStart => exact ⟨0, s.size, World.iter_heap w s 0, (Below.refl _ _).alloc (Nat.le_refl _) _, HE.out.symm, by omega⟩
      case round =>
        obtain ⟨pos, fuel, hit, hbw, HS, hb⟩ := hrel
        have hpos0 := iterPos_of hit
        by_cases hp : pos < s.size
        · have hnx : ∀ ty, (Instr.next (.pointer (some ⟨w.heap.size, 0, none⟩)) true ty).run Try.prog wr = _ := fun ty => Lib.run_next_any_at wr w.heap.size s pos ty hit hp
          have hwd := Lib.decode_width_pos s pos hp
          have hin := decode_in s pos hp
          obtain ⟨fuel, rfl⟩ : ∃ f', fuel = f' + 1 := ⟨fuel - 1, by omega⟩
          have hit2 := Lib.iterAt_heap wr w.heap.size s pos (pos + (Utf8.decode s pos).2) hit
          have hbw2 := Lib.below_iterAt hbw (k := w.heap.size) (Nat.le_refl _) s (pos + (Utf8.decode s pos).2)
          obtain ⟨W1, hW1⟩ : ∃ W1, W1 = wr.iterAt w.heap.size s (pos + (Utf8.decode s pos).2) := ⟨_, rfl⟩
          rw [← hW1] at hnx hit2 hbw2
          have HHit := Lib.hid hit2
          have HBw := Lib.hid hbw2
          have hno := nameFrom_no s fuel pos hp
          have hyes := nameFrom_yes s fuel pos hp
          have hra := rune_at s pos
          have hle := rune_le s pos
          rw [name_rune] at hno hyes
          have hone : nameOkP pos (Utf8.decode s pos).1 → (Utf8.decode s pos).2 = 1 := by
            intro h
            rcases hra with ⟨h1, e⟩ | ⟨h1, h2⟩
            · rw [e]
            · unfold nameOkP at h; omega
          have HNo := Lib.hid hno
          have HYes := Lib.hid hyes
          have HOne := Lib.hid hone
          have HPos := Lib.hid hpos0
          clear hW1 hit hbw hit2 hbw2 hpos0 hno hyes hone hra
          obtain ⟨c, hc⟩ : ∃ c, c = (Utf8.decode s pos).1 := ⟨_, rfl⟩
          obtain ⟨n, hn⟩ : ∃ n, n = (Utf8.decode s pos).2 := ⟨_, rfl⟩
          rw [← hc] at hnx hle HNo HYes HOne
          rw [← hn] at hwd hin HHit HOne
          clear hc hn
          rcases name_classes c with h1 | h1 | h1 | h1 | h1 | h1 | h1 | h1
          · have q122 : decide ((c : Int) ≤ 122) = true := by (simp <;> omega)
            have hone := HOne.out (by unfold nameOkP; omega)
            have HF := Lib.hid (HYes.out (decide_eq_true (by unfold nameOkP; omega)))
            rw [hone] at HHit
            clear HNo HYes HOne hone
            go_wp2
            go_roundw
            case rel => exact ⟨pos + 1, fuel, HHit.out, HBw.out, by show _ = _; rw [← HS.out]; exact HF.out.symm, by omega⟩
            case measure =>
              rw [iterPos_of HHit.out, HPos.out]
              omega
          · have q57 : decide ((c : Int) ≤ 57) = true := by (simp <;> omega)
            have hone := HOne.out (by unfold nameOkP; omega)
            have HF := Lib.hid (HYes.out (decide_eq_true (by unfold nameOkP; omega)))
            rw [hone] at HHit
            clear HNo HYes HOne hone
            go_wp2
            go_roundw
            case rel => exact ⟨pos + 1, fuel, HHit.out, HBw.out, by show _ = _; rw [← HS.out]; exact HF.out.symm, by omega⟩
            case measure =>
              rw [iterPos_of HHit.out, HPos.out]
              omega
          · have n43 : ((c : Int) != 43) = false := by (simp <;> omega)
            have m43 : ((c : Int) == 43) = true := by (simp <;> omega)
            have n45 : ((c : Int) != 45) = true := by (simp <;> omega)
            have m45 : ((c : Int) == 45) = false := by (simp <;> omega)
            have n46 : ((c : Int) != 46) = true := by (simp <;> omega)
            have m46 : ((c : Int) == 46) = false := by (simp <;> omega)
            by_cases hz : pos = 0
            · subst hz
              have HF := Lib.hid (HNo.out (decide_eq_false (by unfold nameOkP; omega)))
              clear HNo HYes HOne
              go_wp2
              go_ret
              exact ⟨ret_bool (by rw [← HS.out]; exact HF.out.symm), HBw.out⟩
            · have z : ((pos : Int) == 0) = false := by (simp <;> omega)
              have hone := HOne.out (by unfold nameOkP; omega)
              have HF := Lib.hid (HYes.out (decide_eq_true (by unfold nameOkP; omega)))
              rw [hone] at HHit
              clear HNo HYes HOne hone
              go_wp2
              go_roundw
              case rel => exact ⟨pos + 1, fuel, HHit.out, HBw.out, by show _ = _; rw [← HS.out]; exact HF.out.symm, by omega⟩
              case measure =>
                rw [iterPos_of HHit.out, HPos.out]
                omega
          · have n43 : ((c : Int) != 43) = true := by (simp <;> omega)
            have m43 : ((c : Int) == 43) = false := by (simp <;> omega)
            have n45 : ((c : Int) != 45) = false := by (simp <;> omega)
            have m45 : ((c : Int) == 45) = true := by (simp <;> omega)
            have n46 : ((c : Int) != 46) = true := by (simp <;> omega)
            have m46 : ((c : Int) == 46) = false := by (simp <;> omega)
            by_cases hz : pos = 0
            · subst hz
              have HF := Lib.hid (HNo.out (decide_eq_false (by unfold nameOkP; omega)))
              clear HNo HYes HOne
              go_wp2
              go_ret
              exact ⟨ret_bool (by rw [← HS.out]; exact HF.out.symm), HBw.out⟩
            · have z : ((pos : Int) == 0) = false := by (simp <;> omega)
              have hone := HOne.out (by unfold nameOkP; omega)
              have HF := Lib.hid (HYes.out (decide_eq_true (by unfold nameOkP; omega)))
              rw [hone] at HHit
              clear HNo HYes HOne hone
              go_wp2
              go_roundw
              case rel => exact ⟨pos + 1, fuel, HHit.out, HBw.out, by show _ = _; rw [← HS.out]; exact HF.out.symm, by omega⟩
              case measure =>
                rw [iterPos_of HHit.out, HPos.out]
                omega
          · have n43 : ((c : Int) != 43) = true := by (simp <;> omega)
            have m43 : ((c : Int) == 43) = false := by (simp <;> omega)
            have n45 : ((c : Int) != 45) = true := by (simp <;> omega)
            have m45 : ((c : Int) == 45) = false := by (simp <;> omega)
            have n46 : ((c : Int) != 46) = false := by (simp <;> omega)
            have m46 : ((c : Int) == 46) = true := by (simp <;> omega)
            by_cases hz : pos = 0
            · subst hz
              have HF := Lib.hid (HNo.out (decide_eq_false (by unfold nameOkP; omega)))
              clear HNo HYes HOne
              go_wp2
              go_ret
              exact ⟨ret_bool (by rw [← HS.out]; exact HF.out.symm), HBw.out⟩
            · have z : ((pos : Int) == 0) = false := by (simp <;> omega)
              have hone := HOne.out (by unfold nameOkP; omega)
              have HF := Lib.hid (HYes.out (decide_eq_true (by unfold nameOkP; omega)))
              rw [hone] at HHit
              clear HNo HYes HOne hone
              go_wp2
              go_roundw
              case rel => exact ⟨pos + 1, fuel, HHit.out, HBw.out, by show _ = _; rw [← HS.out]; exact HF.out.symm, by omega⟩
              case measure =>
                rw [iterPos_of HHit.out, HPos.out]
                omega
          · have n43 : ((c : Int) != 43) = true := by (simp <;> omega)
            have m43 : ((c : Int) == 43) = false := by (simp <;> omega)
            have n45 : ((c : Int) != 45) = true := by (simp <;> omega)
            have m45 : ((c : Int) == 45) = false := by (simp <;> omega)
            have n46 : ((c : Int) != 46) = true := by (simp <;> omega)
            have m46 : ((c : Int) == 46) = false := by (simp <;> omega)
            by_cases hz : pos = 0
            · subst hz
              have HF := Lib.hid (HNo.out (decide_eq_false (by unfold nameOkP; omega)))
              clear HNo HYes HOne
              go_wp2
              go_ret
              exact ⟨ret_bool (by rw [← HS.out]; exact HF.out.symm), HBw.out⟩
            · have z : ((pos : Int) == 0) = false := by (simp <;> omega)
              have HF := Lib.hid (HNo.out (decide_eq_false (by unfold nameOkP; omega)))
              clear HNo HYes HOne
              go_wp2
              go_ret
              exact ⟨ret_bool (by rw [← HS.out]; exact HF.out.symm), HBw.out⟩
          · have n43 : ((c : Int) != 43) = true := by (simp <;> omega)
            have m43 : ((c : Int) == 43) = false := by (simp <;> omega)
            have n45 : ((c : Int) != 45) = true := by (simp <;> omega)
            have m45 : ((c : Int) == 45) = false := by (simp <;> omega)
            have n46 : ((c : Int) != 46) = true := by (simp <;> omega)
            have m46 : ((c : Int) == 46) = false := by (simp <;> omega)
            have q57 : decide ((c : Int) ≤ 57) = false := by (simp <;> omega)
            by_cases hz : pos = 0
            · subst hz
              have HF := Lib.hid (HNo.out (decide_eq_false (by unfold nameOkP; omega)))
              clear HNo HYes HOne
              go_wp2
              go_ret
              exact ⟨ret_bool (by rw [← HS.out]; exact HF.out.symm), HBw.out⟩
            · have z : ((pos : Int) == 0) = false := by (simp <;> omega)
              have HF := Lib.hid (HNo.out (decide_eq_false (by unfold nameOkP; omega)))
              clear HNo HYes HOne
              go_wp2
              go_ret
              exact ⟨ret_bool (by rw [← HS.out]; exact HF.out.symm), HBw.out⟩
          · have n43 : ((c : Int) != 43) = true := by (simp <;> omega)
            have m43 : ((c : Int) == 43) = false := by (simp <;> omega)
            have n45 : ((c : Int) != 45) = true := by (simp <;> omega)
            have m45 : ((c : Int) == 45) = false := by (simp <;> omega)
            have n46 : ((c : Int) != 46) = true := by (simp <;> omega)
            have m46 : ((c : Int) == 46) = false := by (simp <;> omega)
            have q57 : decide ((c : Int) ≤ 57) = false := by (simp <;> omega)
            have q122 : decide ((c : Int) ≤ 122) = false := by (simp <;> omega)
            by_cases hz : pos = 0
            · subst hz
              have HF := Lib.hid (HNo.out (decide_eq_false (by unfold nameOkP; omega)))
              clear HNo HYes HOne
              go_wp2
              go_ret
              exact ⟨ret_bool (by rw [← HS.out]; exact HF.out.symm), HBw.out⟩
            · have z : ((pos : Int) == 0) = false := by (simp <;> omega)
              have HF := Lib.hid (HNo.out (decide_eq_false (by unfold nameOkP; omega)))
              clear HNo HYes HOne
              go_wp2
              go_ret
              exact ⟨ret_bool (by rw [← HS.out]; exact HF.out.symm), HBw.out⟩
        · have hnx : ∀ ty, (Instr.next (.pointer (some ⟨w.heap.size, 0, none⟩)) true ty).run Try.prog wr = _ := fun ty => Lib.run_next_end_at wr w.heap.size s pos ty hit hp
          have e : nameB s = true := by rw [← HS.out]; exact nameFrom_end s fuel pos hp
          have HE := Lib.hid e
          have HBw := Lib.hid hbw
          clear e hbw
          go_wp2
          go_ret
          exact ⟨ret_bool HE.out.symm, HBw.out⟩
    · have e : nameB s = false := by unfold nameB; simp [hhi]
      have HE := Lib.hid e
      clear e
      go_enter Try.func49, Try.ntmps49
      go_wp2
      go_ret
      exact ⟨ret_bool HE.out.symm, Below.refl _ _⟩
  · have e : nameB s = false := by unfold nameB; simp [hlo]
    have HE := Lib.hid e
    clear e
    go_enter Try.func49, Try.ntmps49
    go_wp2
    go_ret
    exact ⟨ret_bool HE.out.symm, Below.refl _ _⟩
set_option maxRecDepth 100000 in
set_option maxHeartbeats 40000000 in
theorem RefName_any (s : ByteArray) (w : World) (hs : s.size ≤ 9223372036854775807) :
    Calls Try.prog 62 #[.string s] w fun e w' => e = .returned (.bool (nameB s)) ∧ w = w' := by
  obtain ⟨q, hq⟩ : ∃ q, q = nameFrom s s.size 0 := ⟨_, rfl⟩
  have HQ := Lib.hid hq
  clear hq
  go_enter Try.func62, Try.ntmps62
  go_wp2
  go_loop [7] (fun v => ∃ (pos fuel : Nat), v = .int .i64 pos ∧ Hid (nameFrom s fuel pos = nameFrom s s.size 0) ∧ pos ≤ s.size ∧ s.size ≤ pos + fuel) (fun v => s.size - (intOf v).toNat)
  case atStart => exact ⟨0, s.size, rfl, rfl, by omega, by omega⟩
  case round =>
    obtain ⟨pos, fuel, rfl, HS, hps, hb⟩ := hrel
    by_cases hp : pos < s.size
    · obtain ⟨fuel, rfl⟩ : ∃ f', fuel = f' + 1 := ⟨fuel - 1, by omega⟩
      have hx2 : ((s[pos]'hp).toNat : Nat) = byteAt s pos := (byteAt_get s pos hp).symm
      have hno := nameFrom_no s fuel pos hp
      have hyes := nameFrom_yes s fuel pos hp
      have hc8 := byteAt_lt s pos
      have HNo := Lib.hid hno
      have HYes := Lib.hid hyes
      clear hno hyes
      obtain ⟨c, hc⟩ : ∃ c, c = byteAt s pos := ⟨_, rfl⟩
      rw [← hc] at hx2 hc8 HNo HYes
      clear hc
      rcases name_classes c with h1 | h1 | h1 | h1 | h1 | h1 | h1 | h1
      · have sm : smB c = true := decide_eq_true h1
        have dg : digB c = false := decide_eq_false (by omega)
        have HF := Lib.hid (HYes.out (decide_eq_true (by unfold nameOkP; omega)))
        clear HNo HYes
        go_wp2_with (first | (go_at_call 81; refine (small_any c _ hc8).mono ?_; rintro e w' ⟨rfl, rfl⟩) | (go_at_call 79; refine (digit_any c _ hc8).mono ?_; rintro e w' ⟨rfl, rfl⟩))
        go_round
        case rel => exact ⟨pos + 1, fuel, by go_num, by show _ = _; rw [← HS.out]; exact HF.out.symm, by omega, by omega⟩
        case measure => simp [intOf]; omega
      · have sm : smB c = false := decide_eq_false (by omega)
        have dg : digB c = true := decide_eq_true h1
        have HF := Lib.hid (HYes.out (decide_eq_true (by unfold nameOkP; omega)))
        clear HNo HYes
        go_wp2_with (first | (go_at_call 81; refine (small_any c _ hc8).mono ?_; rintro e w' ⟨rfl, rfl⟩) | (go_at_call 79; refine (digit_any c _ hc8).mono ?_; rintro e w' ⟨rfl, rfl⟩))
        go_round
        case rel => exact ⟨pos + 1, fuel, by go_num, by show _ = _; rw [← HS.out]; exact HF.out.symm, by omega, by omega⟩
        case measure => simp [intOf]; omega
      · have sm : smB c = false := decide_eq_false (by omega)
        have dg : digB c = false := decide_eq_false (by omega)
        have g1 : 43 ≤ c := by omega
        have g2 : c ≤ 43 := by omega
        clear h1
        have n43 : ((c : Int) != 43) = false := by (simp <;> omega)
        have m43 : ((c : Int) == 43) = true := by (simp <;> omega)
        have n45 : ((c : Int) != 45) = true := by (simp <;> omega)
        have m45 : ((c : Int) == 45) = false := by (simp <;> omega)
        have n46 : ((c : Int) != 46) = true := by (simp <;> omega)
        have m46 : ((c : Int) == 46) = false := by (simp <;> omega)
        by_cases hz : pos = 0
        · subst hz
          have HF := Lib.hid (HNo.out (decide_eq_false (by unfold nameOkP; omega)))
          clear HNo HYes
          go_wp2_with (first | (go_at_call 81; refine (small_any c _ hc8).mono ?_; rintro e w' ⟨rfl, rfl⟩) | (go_at_call 79; refine (digit_any c _ hc8).mono ?_; rintro e w' ⟨rfl, rfl⟩))
          go_ret
          exact ⟨ret_bool (by unfold nameB; rw [← HS.out, HF.out]; simp), rfl⟩
        · have z : ((pos : Int) == 0) = false := by (simp <;> omega)
          have HF := Lib.hid (HYes.out (decide_eq_true (by unfold nameOkP; omega)))
          clear HNo HYes
          go_wp2_with (first | (go_at_call 81; refine (small_any c _ hc8).mono ?_; rintro e w' ⟨rfl, rfl⟩) | (go_at_call 79; refine (digit_any c _ hc8).mono ?_; rintro e w' ⟨rfl, rfl⟩))
          go_round
          case rel => exact ⟨pos + 1, fuel, by go_num, by show _ = _; rw [← HS.out]; exact HF.out.symm, by omega, by omega⟩
          case measure => simp [intOf]; omega
      · have sm : smB c = false := decide_eq_false (by omega)
        have dg : digB c = false := decide_eq_false (by omega)
        have g1 : 45 ≤ c := by omega
        have g2 : c ≤ 45 := by omega
        clear h1
        have n43 : ((c : Int) != 43) = true := by (simp <;> omega)
        have m43 : ((c : Int) == 43) = false := by (simp <;> omega)
        have n45 : ((c : Int) != 45) = false := by (simp <;> omega)
        have m45 : ((c : Int) == 45) = true := by (simp <;> omega)
        have n46 : ((c : Int) != 46) = true := by (simp <;> omega)
        have m46 : ((c : Int) == 46) = false := by (simp <;> omega)
        by_cases hz : pos = 0
        · subst hz
          have HF := Lib.hid (HNo.out (decide_eq_false (by unfold nameOkP; omega)))
          clear HNo HYes
          go_wp2_with (first | (go_at_call 81; refine (small_any c _ hc8).mono ?_; rintro e w' ⟨rfl, rfl⟩) | (go_at_call 79; refine (digit_any c _ hc8).mono ?_; rintro e w' ⟨rfl, rfl⟩))
          go_ret
          exact ⟨ret_bool (by unfold nameB; rw [← HS.out, HF.out]; simp), rfl⟩
        · have z : ((pos : Int) == 0) = false := by (simp <;> omega)
          have HF := Lib.hid (HYes.out (decide_eq_true (by unfold nameOkP; omega)))
          clear HNo HYes
          go_wp2_with (first | (go_at_call 81; refine (small_any c _ hc8).mono ?_; rintro e w' ⟨rfl, rfl⟩) | (go_at_call 79; refine (digit_any c _ hc8).mono ?_; rintro e w' ⟨rfl, rfl⟩))
          go_round
          case rel => exact ⟨pos + 1, fuel, by go_num, by show _ = _; rw [← HS.out]; exact HF.out.symm, by omega, by omega⟩
          case measure => simp [intOf]; omega
      · have sm : smB c = false := decide_eq_false (by omega)
        have dg : digB c = false := decide_eq_false (by omega)
        have g1 : 46 ≤ c := by omega
        have g2 : c ≤ 46 := by omega
        clear h1
        have n43 : ((c : Int) != 43) = true := by (simp <;> omega)
        have m43 : ((c : Int) == 43) = false := by (simp <;> omega)
        have n45 : ((c : Int) != 45) = true := by (simp <;> omega)
        have m45 : ((c : Int) == 45) = false := by (simp <;> omega)
        have n46 : ((c : Int) != 46) = false := by (simp <;> omega)
        have m46 : ((c : Int) == 46) = true := by (simp <;> omega)
        by_cases hz : pos = 0
        · subst hz
          have HF := Lib.hid (HNo.out (decide_eq_false (by unfold nameOkP; omega)))
          clear HNo HYes
          go_wp2_with (first | (go_at_call 81; refine (small_any c _ hc8).mono ?_; rintro e w' ⟨rfl, rfl⟩) | (go_at_call 79; refine (digit_any c _ hc8).mono ?_; rintro e w' ⟨rfl, rfl⟩))
          go_ret
          exact ⟨ret_bool (by unfold nameB; rw [← HS.out, HF.out]; simp), rfl⟩
        · have z : ((pos : Int) == 0) = false := by (simp <;> omega)
          have HF := Lib.hid (HYes.out (decide_eq_true (by unfold nameOkP; omega)))
          clear HNo HYes
          go_wp2_with (first | (go_at_call 81; refine (small_any c _ hc8).mono ?_; rintro e w' ⟨rfl, rfl⟩) | (go_at_call 79; refine (digit_any c _ hc8).mono ?_; rintro e w' ⟨rfl, rfl⟩))
          go_round
          case rel => exact ⟨pos + 1, fuel, by go_num, by show _ = _; rw [← HS.out]; exact HF.out.symm, by omega, by omega⟩
          case measure => simp [intOf]; omega
      · have sm : smB c = false := decide_eq_false (by omega)
        have dg : digB c = false := decide_eq_false (by omega)
        have n43 : ((c : Int) != 43) = true := by (simp <;> omega)
        have m43 : ((c : Int) == 43) = false := by (simp <;> omega)
        have n45 : ((c : Int) != 45) = true := by (simp <;> omega)
        have m45 : ((c : Int) == 45) = false := by (simp <;> omega)
        have n46 : ((c : Int) != 46) = true := by (simp <;> omega)
        have m46 : ((c : Int) == 46) = false := by (simp <;> omega)
        by_cases hz : pos = 0
        · subst hz
          have HF := Lib.hid (HNo.out (decide_eq_false (by unfold nameOkP; omega)))
          clear HNo HYes
          go_wp2_with (first | (go_at_call 81; refine (small_any c _ hc8).mono ?_; rintro e w' ⟨rfl, rfl⟩) | (go_at_call 79; refine (digit_any c _ hc8).mono ?_; rintro e w' ⟨rfl, rfl⟩))
          go_ret
          exact ⟨ret_bool (by unfold nameB; rw [← HS.out, HF.out]; simp), rfl⟩
        · have z : ((pos : Int) == 0) = false := by (simp <;> omega)
          have HF := Lib.hid (HNo.out (decide_eq_false (by unfold nameOkP; omega)))
          clear HNo HYes
          go_wp2_with (first | (go_at_call 81; refine (small_any c _ hc8).mono ?_; rintro e w' ⟨rfl, rfl⟩) | (go_at_call 79; refine (digit_any c _ hc8).mono ?_; rintro e w' ⟨rfl, rfl⟩))
          go_ret
          exact ⟨ret_bool (by unfold nameB; rw [← HS.out, HF.out]; simp), rfl⟩
      · have sm : smB c = false := decide_eq_false (by omega)
        have dg : digB c = false := decide_eq_false (by omega)
        have n43 : ((c : Int) != 43) = true := by (simp <;> omega)
        have m43 : ((c : Int) == 43) = false := by (simp <;> omega)
        have n45 : ((c : Int) != 45) = true := by (simp <;> omega)
        have m45 : ((c : Int) == 45) = false := by (simp <;> omega)
        have n46 : ((c : Int) != 46) = true := by (simp <;> omega)
        have m46 : ((c : Int) == 46) = false := by (simp <;> omega)
        by_cases hz : pos = 0
        · subst hz
          have HF := Lib.hid (HNo.out (decide_eq_false (by unfold nameOkP; omega)))
          clear HNo HYes
          go_wp2_with (first | (go_at_call 81; refine (small_any c _ hc8).mono ?_; rintro e w' ⟨rfl, rfl⟩) | (go_at_call 79; refine (digit_any c _ hc8).mono ?_; rintro e w' ⟨rfl, rfl⟩))
          go_ret
          exact ⟨ret_bool (by unfold nameB; rw [← HS.out, HF.out]; simp), rfl⟩
        · have z : ((pos : Int) == 0) = false := by (simp <;> omega)
          have HF := Lib.hid (HNo.out (decide_eq_false (by unfold nameOkP; omega)))
          clear HNo HYes
          go_wp2_with (first | (go_at_call 81; refine (small_any c _ hc8).mono ?_; rintro e w' ⟨rfl, rfl⟩) | (go_at_call 79; refine (digit_any c _ hc8).mono ?_; rintro e w' ⟨rfl, rfl⟩))
          go_ret
          exact ⟨ret_bool (by unfold nameB; rw [← HS.out, HF.out]; simp), rfl⟩
      · have sm : smB c = false := decide_eq_false (by omega)
        have dg : digB c = false := decide_eq_false (by omega)
        have n43 : ((c : Int) != 43) = true := by (simp <;> omega)
        have m43 : ((c : Int) == 43) = false := by (simp <;> omega)
        have n45 : ((c : Int) != 45) = true := by (simp <;> omega)
        have m45 : ((c : Int) == 45) = false := by (simp <;> omega)
        have n46 : ((c : Int) != 46) = true := by (simp <;> omega)
        have m46 : ((c : Int) == 46) = false := by (simp <;> omega)
        by_cases hz : pos = 0
        · subst hz
          have HF := Lib.hid (HNo.out (decide_eq_false (by unfold nameOkP; omega)))
          clear HNo HYes
          go_wp2_with (first | (go_at_call 81; refine (small_any c _ hc8).mono ?_; rintro e w' ⟨rfl, rfl⟩) | (go_at_call 79; refine (digit_any c _ hc8).mono ?_; rintro e w' ⟨rfl, rfl⟩))
          go_ret
          exact ⟨ret_bool (by unfold nameB; rw [← HS.out, HF.out]; simp), rfl⟩
        · have z : ((pos : Int) == 0) = false := by (simp <;> omega)
          have HF := Lib.hid (HNo.out (decide_eq_false (by unfold nameOkP; omega)))
          clear HNo HYes
          go_wp2_with (first | (go_at_call 81; refine (small_any c _ hc8).mono ?_; rintro e w' ⟨rfl, rfl⟩) | (go_at_call 79; refine (digit_any c _ hc8).mono ?_; rintro e w' ⟨rfl, rfl⟩))
          go_ret
          exact ⟨ret_bool (by unfold nameB; rw [← HS.out, HF.out]; simp), rfl⟩
    · have e : nameFrom s s.size 0 = true := by rw [← HS.out]; exact nameFrom_end s fuel pos hp
      by_cases hlo : 2 ≤ s.size
      · by_cases hhi : s.size ≤ 24
        · have HE := Lib.hid (show nameB s = true by unfold nameB; rw [e]; simp [hlo, hhi])
          have q24 : decide ((s.size : Int) ≤ 24) = true := decide_eq_true (by omega)
          clear e
          go_wp2
          go_ret
          exact ⟨ret_bool HE.out.symm, rfl⟩
        · have HE := Lib.hid (show nameB s = false by unfold nameB; simp [hhi])
          have q24 : decide ((s.size : Int) ≤ 24) = false := decide_eq_false (by omega)
          clear e
          go_wp2
          go_ret
          exact ⟨ret_bool HE.out.symm, rfl⟩
      · have HE := Lib.hid (show nameB s = false by unfold nameB; simp [hlo])
        clear e
        go_wp2
        go_ret
        exact ⟨ret_bool HE.out.symm, rfl⟩
end Go.Proofs.Ytjkaigfpjebfbaa
