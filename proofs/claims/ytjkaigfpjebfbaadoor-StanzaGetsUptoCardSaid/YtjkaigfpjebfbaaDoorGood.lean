/- text.Good: it answers what the plain law says. -/
import Derived.Test.YtjkaigfpjebfbaaDoorProg
import Derived.Test.YtjkaigfpjebfbaaDoorTxt
import Derived.Test.YtjkaigfpjebfbaaDoorShelfA
import Derived.Shelf.Spec.BytesIndexFunc
import Derived.WalkKit
import Derived.WalkSpells
import Derived.Lib.OthersKept
import Derived.Lib.Hide
import Derived.Outline
namespace Go.Proofs.YtjkaigfpjebfbaaDoor
open Go.RowKit
set_option linter.unusedVariables false

theorem ret_int {k : IntKind} {a b : Int} (h : a = b) : Ending.returned (.int k a) = .returned (.int k b) := by rw [h]
theorem ret_bool {a b : Bool} (h : a = b) : Ending.returned (.bool a) = .returned (.bool b) := by rw [h]
theorem iterPos_of {w : World} {k : Nat} {s : ByteArray} {p : Nat} (h : w.heap[k]? = some (.stringIter s p)) : w.iterPos k = p := by simp [World.iterPos, h]
theorem lt_of_block {w : World} {k : Nat} {o : Obj} (h : w.heap[k]? = some o) : k < w.heap.size := by
  rcases Nat.lt_or_ge k w.heap.size with h1 | h1
  · exact h1
  · rw [Array.getElem?_eq_none h1] at h; cases h
/-- The character at a place, in one of the six ways that Good tells apart. -/
theorem stop_ways (s : ByteArray) (i : Nat) : (stop s i = true ∧ (Utf8.decode s i).1 = 65533 ∧ (Utf8.decode s i).2 = 1) ∨ (stop s i = false ∧ (Utf8.decode s i).1 = 65533 ∧ (Utf8.decode s i).2 ≠ 1) ∨ (stop s i = false ∧ (Utf8.decode s i).1 = 9) ∨
    (stop s i = true ∧ (Utf8.decode s i).1 < 32 ∧ (Utf8.decode s i).1 ≠ 9) ∨ (stop s i = true ∧ (Utf8.decode s i).1 = 127) ∨ (stop s i = false ∧ 32 ≤ (Utf8.decode s i).1 ∧ (Utf8.decode s i).1 ≠ 127 ∧ (Utf8.decode s i).1 ≠ 65533) := by
  have h : stop s i = decide (stopP s i) := rfl
  by_cases hs : stopP s i
  · rw [decide_eq_true hs] at h
    rw [h]
    unfold stopP at hs
    simp only [Bool.true_eq_false, false_and, false_or, or_false, true_and]
    omega
  · rw [decide_eq_false hs] at h
    rw [h]
    unfold stopP at hs
    simp only [Bool.false_eq_true, false_and, false_or, true_and]
    omega
theorem goodFrom_stop (s : ByteArray) (f i : Nat) (h : i < s.size) (hs : stop s i = true) : goodFrom s (f + 1) i = (i : Int) := by simp [goodFrom, h, hs]
theorem goodFrom_step (s : ByteArray) (f i : Nat) (h : i < s.size) (hs : stop s i = false) : goodFrom s (f + 1) i = goodFrom s f (i + (Utf8.decode s i).2) := by simp [goodFrom, h, hs]
set_option maxRecDepth 100000 in
set_option maxHeartbeats 2000000 in
theorem Good_any (s : ByteArray) (w : World) (hT : Lib.Utf8Tabs 0 1 w) (hs : s.size ≤ 9223372036854775807) :
    Calls Tryd.prog 38 #[.string s] w fun e w' => e = .returned (.int .i64 (goodZ s)) ∧ Below w.heap.size w w' := by
  have HT := Lib.hid hT
  clear hT
  go_enter Tryd.func38, Tryd.ntmps38
  go_wp2
  go_loopw [3] (fun _ wr => ∃ (pos fuel : Nat), wr.heap[w.heap.size]? = some (.stringIter s pos) ∧ Below w.heap.size w wr ∧ Hid (goodFrom s fuel pos = goodZ s) ∧ s.size ≤ pos + fuel) (fun _ wr => s.size - wr.iterPos w.heap.size)
  case atStart => exact ⟨0, s.size, World.iter_heap w s 0, (Below.refl _ _).alloc (Nat.le_refl _) _, rfl, by omega⟩
  case round =>
    obtain ⟨pos, fuel, hit, hbw, HS, hb⟩ := hrel
    have hpos0 := iterPos_of hit
    by_cases hp : pos < s.size
    · have hnx : ∀ ty, (Instr.next (.pointer (some ⟨w.heap.size, 0, none⟩)) true ty).run Tryd.prog wr = _ := fun ty => Lib.run_next_any_at wr w.heap.size s pos ty hit hp
      have hwd := Lib.decode_width_pos s pos hp
      have hin := decode_in s pos hp
      obtain ⟨fuel, rfl⟩ : ∃ f', fuel = f' + 1 := ⟨fuel - 1, by omega⟩
      have hit2 := Lib.iterAt_heap wr w.heap.size s pos (pos + (Utf8.decode s pos).2) hit
      have hbw2 := Lib.below_iterAt hbw (k := w.heap.size) (Nat.le_refl _) s (pos + (Utf8.decode s pos).2)
      obtain ⟨W1, hW1⟩ : ∃ W1, W1 = wr.iterAt w.heap.size s (pos + (Utf8.decode s pos).2) := ⟨_, rfl⟩
      rw [← hW1] at hnx hit2 hbw2
      have hdc := Tryd.utf8_DecodeRuneInString (s.extract pos s.size) W1 (Utf8Tabs_below HT.out hbw2)
      rw [decodeGo_tail s pos hp] at hdc
      have HDc := Lib.hid hdc
      have hz : s.extract pos s.size = s.extract pos s.size := rfl
      have HHit := Lib.hid hit2
      have HBw := Lib.hid hbw2
      have hways := stop_ways s pos
      have HStop := Lib.hid (goodFrom_stop s fuel pos hp)
      have HStep := Lib.hid (goodFrom_step s fuel pos hp)
      have HPos := Lib.hid hpos0
      clear hW1 hit hbw hdc hz hit2 hbw2 hpos0
      obtain ⟨st, hst⟩ : ∃ st, st = stop s pos := ⟨_, rfl⟩
      rw [← hst] at hways HStop HStep
      clear hst
      obtain ⟨c, hc⟩ : ∃ c, c = (Utf8.decode s pos).1 := ⟨_, rfl⟩
      obtain ⟨n, hn⟩ : ∃ n, n = (Utf8.decode s pos).2 := ⟨_, rfl⟩
      rw [← hc] at hnx hways HDc
      rw [← hn] at hways hwd hin HDc HHit HStep
      clear hc hn
      have hp1 : (0 : Int) ≤ (pos : Int) := by omega
      have hp2 : (pos : Int) ≤ (s.size : Int) := by omega
      rcases hways with ⟨rfl, h1, h2⟩ | ⟨rfl, h1, h2⟩ | ⟨rfl, h1⟩ | ⟨rfl, h1, h2⟩ | ⟨rfl, h1⟩ | ⟨rfl, h1, h2, h3⟩
      · have e1 : ((c : Int) == 65533) = true := by simp; omega
        have e2 : ((n : Int) == 1) = true := by simp; omega
        clear h1 h2
        go_wp2_with (go_at_call 53; refine HDc.out.mono ?_; rintro e w3 ⟨rfl, hb3⟩; have HB3 := Lib.hid hb3; clear hb3)
        go_ret
        have h := HStop.out trivial
        rw [HS.out] at h
        exact ⟨ret_int h.symm, HBw.out.trans (HB3.out.mono HBw.out.size)⟩
      · have e1 : ((c : Int) == 65533) = true := by simp; omega
        have e2 : ((n : Int) == 1) = false := by simp; omega
        have e3 : (32 : Int) ≤ (c : Int) := by omega
        have e4 : ((c : Int) == 127) = false := by simp; omega
        clear h1 h2
        go_wp2_with (go_at_call 53; refine HDc.out.mono ?_; rintro e w3 ⟨rfl, hb3⟩; have HB3 := Lib.hid hb3; clear hb3)
        go_roundw
        case rel =>
          have h := HStep.out trivial
          rw [HS.out] at h
          exact ⟨pos + n, fuel, (HB3.out.block _ (lt_of_block HHit.out)).trans HHit.out, HBw.out.trans (HB3.out.mono HBw.out.size), h.symm, by omega⟩
        case measure =>
          rw [iterPos_of ((HB3.out.block _ (lt_of_block HHit.out)).trans HHit.out), HPos.out]
          omega
      · have e1 : ((c : Int) == 65533) = false := by simp; omega
        have e3 : (c : Int) < 32 := by omega
        have e5 : ((c : Int) != 9) = false := by simp; omega
        have e4 : ((c : Int) == 127) = false := by simp; omega
        clear h1
        go_wp2_with (go_at_call 53; refine HDc.out.mono ?_; rintro e w3 ⟨rfl, hb3⟩; have HB3 := Lib.hid hb3; clear hb3)
        go_roundw
        case rel =>
          have h := HStep.out trivial
          rw [HS.out] at h
          exact ⟨pos + n, fuel, (HB3.out.block _ (lt_of_block HHit.out)).trans HHit.out, HBw.out.trans (HB3.out.mono HBw.out.size), h.symm, by omega⟩
        case measure =>
          rw [iterPos_of ((HB3.out.block _ (lt_of_block HHit.out)).trans HHit.out), HPos.out]
          omega
      · have e1 : ((c : Int) == 65533) = false := by simp; omega
        have e3 : (c : Int) < 32 := by omega
        have e5 : ((c : Int) != 9) = true := by simp; omega
        clear h1 h2
        go_wp2_with (go_at_call 53; refine HDc.out.mono ?_; rintro e w3 ⟨rfl, hb3⟩; have HB3 := Lib.hid hb3; clear hb3)
        go_ret
        have h := HStop.out trivial
        rw [HS.out] at h
        exact ⟨ret_int h.symm, HBw.out.trans (HB3.out.mono HBw.out.size)⟩
      · have e1 : ((c : Int) == 65533) = false := by simp; omega
        have e3 : (32 : Int) ≤ (c : Int) := by omega
        have e4 : ((c : Int) == 127) = true := by simp; omega
        clear h1
        go_wp2_with (go_at_call 53; refine HDc.out.mono ?_; rintro e w3 ⟨rfl, hb3⟩; have HB3 := Lib.hid hb3; clear hb3)
        go_ret
        have h := HStop.out trivial
        rw [HS.out] at h
        exact ⟨ret_int h.symm, HBw.out.trans (HB3.out.mono HBw.out.size)⟩
      · have e1 : ((c : Int) == 65533) = false := by simp; omega
        have e3 : (32 : Int) ≤ (c : Int) := by omega
        have e4 : ((c : Int) == 127) = false := by simp; omega
        clear h1 h2 h3
        go_wp2_with (go_at_call 53; refine HDc.out.mono ?_; rintro e w3 ⟨rfl, hb3⟩; have HB3 := Lib.hid hb3; clear hb3)
        go_roundw
        case rel =>
          have h := HStep.out trivial
          rw [HS.out] at h
          exact ⟨pos + n, fuel, (HB3.out.block _ (lt_of_block HHit.out)).trans HHit.out, HBw.out.trans (HB3.out.mono HBw.out.size), h.symm, by omega⟩
        case measure =>
          rw [iterPos_of ((HB3.out.block _ (lt_of_block HHit.out)).trans HHit.out), HPos.out]
          omega
    · have hnx : ∀ ty, (Instr.next (.pointer (some ⟨w.heap.size, 0, none⟩)) true ty).run Tryd.prog wr = _ := fun ty => Lib.run_next_end_at wr w.heap.size s pos ty hit hp
      have e : goodZ s = -1 := by rw [← HS.out]; exact goodFrom_end s fuel pos hp
      have HE := Lib.hid e
      have HBw := Lib.hid hbw
      clear e hbw
      go_wp2
      go_ret
      exact ⟨ret_int HE.out.symm, HBw.out⟩
end Go.Proofs.YtjkaigfpjebfbaaDoor
