/- Put together: text.Good: it answers what the plain law says; chandlerref4.Good, at, size: they answer what the plain law says; chandlerref4.Good; names. -/
import Derived.Test.YtjkaigfpjebfbaaDoorProg
import Derived.Test.YtjkaigfpjebfbaaDoorB1
import Derived.Test.YtjkaigfpjebfbaaDoorB3
import Derived.Shelf.Spec.BytesIndexFunc
import Derived.WalkKit
import Derived.WalkSpells
import Derived.Lib.OthersKept
import Derived.Lib.Hide
import Derived.Outline
/- text.Good: it answers what the plain law says. -/
namespace Go.Proofs.YtjkaigfpjebfbaaDoor
open Go.RowKit
set_option linter.unusedVariables false

theorem ret_int {k : IntKind} {a b : Int} (h : a = b) : Ending.returned (.int k a) = .returned (.int k b) := by rw [h]
theorem ret_bool {a b : Bool} (h : a = b) : Ending.returned (.bool a) = .returned (.bool b) := by rw [h]
theorem iterPos_of {w : World} {k : Nat} {s : ByteArray} {p : Nat} (h : w.heap[k]? = some (.stringIter s p)) : w.iterPos k = p := by simp [World.iterPos, h]
theorem lt_of_block {w : World} {k : Nat} {o : Obj} (h : w.heap[k]? = some o) : k < w.heap.size := by
  rcases Nat.lt_or_ge k w.heap.size with h1 | h1
  · exact h1
  · rw [Array.getElem?_eq_none h1] at h; cases h
/-- The character at a place, in one of the six ways that Good tells apart. -/
theorem stop_ways (s : ByteArray) (i : Nat) : (stop s i = true ∧ (Utf8.decode s i).1 = 65533 ∧ (Utf8.decode s i).2 = 1) ∨ (stop s i = false ∧ (Utf8.decode s i).1 = 65533 ∧ (Utf8.decode s i).2 ≠ 1) ∨ (stop s i = false ∧ (Utf8.decode s i).1 = 9) ∨
    (stop s i = true ∧ (Utf8.decode s i).1 < 32 ∧ (Utf8.decode s i).1 ≠ 9) ∨ (stop s i = true ∧ (Utf8.decode s i).1 = 127) ∨ (stop s i = false ∧ 32 ≤ (Utf8.decode s i).1 ∧ (Utf8.decode s i).1 ≠ 127 ∧ (Utf8.decode s i).1 ≠ 65533) := by
  have h : stop s i = decide (stopP s i) := rfl
  by_cases hs : stopP s i
  · rw [decide_eq_true hs] at h
    rw [h]
    unfold stopP at hs
    simp only [Bool.true_eq_false, false_and, false_or, or_false, true_and]
    omega
  · rw [decide_eq_false hs] at h
    rw [h]
    unfold stopP at hs
    simp only [Bool.false_eq_true, false_and, false_or, true_and]
    omega
theorem goodFrom_stop (s : ByteArray) (f i : Nat) (h : i < s.size) (hs : stop s i = true) : goodFrom s (f + 1) i = (i : Int) := by simp [goodFrom, h, hs]
theorem goodFrom_step (s : ByteArray) (f i : Nat) (h : i < s.size) (hs : stop s i = false) : goodFrom s (f + 1) i = goodFrom s f (i + (Utf8.decode s i).2) := by simp [goodFrom, h, hs]
set_option maxRecDepth 100000 in
set_option maxHeartbeats 2000000 in
theorem Good_any (s : ByteArray) (w : World) (hT : Lib.Utf8Tabs 0 1 w) (hs : s.size ≤ 9223372036854775807) :
    Calls Tryd.prog 38 #[.string s] w fun e w' => e = .returned (.int .i64 (goodZ s)) ∧ Below w.heap.size w w' := by
  have HT := Lib.hid hT
  clear hT
  go_enter Tryd.func38, Tryd.ntmps38
  go_wp2
  go_loopw [3] (fun _ wr => ∃ (pos fuel : Nat), wr.heap[w.heap.size]? = some (.stringIter s pos) ∧ Below w.heap.size w wr ∧ Hid (goodFrom s fuel pos = goodZ s) ∧ s.size ≤ pos + fuel) (fun _ wr => s.size - wr.iterPos w.heap.size)
  case atStart => exact ⟨0, s.size, World.iter_heap w s 0, (Below.refl _ _).alloc (Nat.le_refl _) _, rfl, by omega⟩
  case round =>
    obtain ⟨pos, fuel, hit, hbw, HS, hb⟩ := hrel
    have hpos0 := iterPos_of hit
    by_cases hp : pos < s.size
    · have hnx : ∀ ty, (Instr.next (.pointer (some ⟨w.heap.size, 0, none⟩)) true ty).run Tryd.prog wr = _ := fun ty => Lib.run_next_any_at wr w.heap.size s pos ty hit hp
      have hwd := Lib.decode_width_pos s pos hp
      have hin := decode_in s pos hp
      obtain ⟨fuel, rfl⟩ : ∃ f', fuel = f' + 1 := ⟨fuel - 1, by omega⟩
      have hit2 := Lib.iterAt_heap wr w.heap.size s pos (pos + (Utf8.decode s pos).2) hit
      have hbw2 := Lib.below_iterAt hbw (k := w.heap.size) (Nat.le_refl _) s (pos + (Utf8.decode s pos).2)
      obtain ⟨W1, hW1⟩ : ∃ W1, W1 = wr.iterAt w.heap.size s (pos + (Utf8.decode s pos).2) := ⟨_, rfl⟩
      rw [← hW1] at hnx hit2 hbw2
      have hdc := Tryd.utf8_DecodeRuneInString (s.extract pos s.size) W1 (Utf8Tabs_below HT.out hbw2)
      rw [decodeGo_tail s pos hp] at hdc
      have HDc := Lib.hid hdc
      have hz : s.extract pos s.size = s.extract pos s.size := rfl
      have HHit := Lib.hid hit2
      have HBw := Lib.hid hbw2
      have hways := stop_ways s pos
      have HStop := Lib.hid (goodFrom_stop s fuel pos hp)
      have HStep := Lib.hid (goodFrom_step s fuel pos hp)
      have HPos := Lib.hid hpos0
      clear hW1 hit hbw hdc hz hit2 hbw2 hpos0
      obtain ⟨st, hst⟩ : ∃ st, st = stop s pos := ⟨_, rfl⟩
      rw [← hst] at hways HStop HStep
      clear hst
      obtain ⟨c, hc⟩ : ∃ c, c = (Utf8.decode s pos).1 := ⟨_, rfl⟩
      obtain ⟨n, hn⟩ : ∃ n, n = (Utf8.decode s pos).2 := ⟨_, rfl⟩
      rw [← hc] at hnx hways HDc
      rw [← hn] at hways hwd hin HDc HHit HStep
      clear hc hn
      have hp1 : (0 : Int) ≤ (pos : Int) := by omega
      have hp2 : (pos : Int) ≤ (s.size : Int) := by omega
      rcases hways with ⟨rfl, h1, h2⟩ | ⟨rfl, h1, h2⟩ | ⟨rfl, h1⟩ | ⟨rfl, h1, h2⟩ | ⟨rfl, h1⟩ | ⟨rfl, h1, h2, h3⟩
      · have e1 : ((c : Int) == 65533) = true := by simp; omega
        have e2 : ((n : Int) == 1) = true := by simp; omega
        clear h1 h2
        go_wp2_with (go_at_call 53; refine HDc.out.mono ?_; rintro e w3 ⟨rfl, hb3⟩; have HB3 := Lib.hid hb3; clear hb3)
        go_ret
        have h := HStop.out trivial
        rw [HS.out] at h
        exact ⟨ret_int h.symm, HBw.out.trans (HB3.out.mono HBw.out.size)⟩
      · have e1 : ((c : Int) == 65533) = true := by simp; omega
        have e2 : ((n : Int) == 1) = false := by simp; omega
        have e3 : (32 : Int) ≤ (c : Int) := by omega
        have e4 : ((c : Int) == 127) = false := by simp; omega
        clear h1 h2
        go_wp2_with (go_at_call 53; refine HDc.out.mono ?_; rintro e w3 ⟨rfl, hb3⟩; have HB3 := Lib.hid hb3; clear hb3)
        go_roundw
        case rel =>
          have h := HStep.out trivial
          rw [HS.out] at h
          exact ⟨pos + n, fuel, (HB3.out.block _ (lt_of_block HHit.out)).trans HHit.out, HBw.out.trans (HB3.out.mono HBw.out.size), h.symm, by omega⟩
        case measure =>
          rw [iterPos_of ((HB3.out.block _ (lt_of_block HHit.out)).trans HHit.out), HPos.out]
          omega
      · have e1 : ((c : Int) == 65533) = false := by simp; omega
        have e3 : (c : Int) < 32 := by omega
        have e5 : ((c : Int) != 9) = false := by simp; omega
        have e4 : ((c : Int) == 127) = false := by simp; omega
        clear h1
        go_wp2_with (go_at_call 53; refine HDc.out.mono ?_; rintro e w3 ⟨rfl, hb3⟩; have HB3 := Lib.hid hb3; clear hb3)
        go_roundw
        case rel =>
          have h := HStep.out trivial
          rw [HS.out] at h
          exact ⟨pos + n, fuel, (HB3.out.block _ (lt_of_block HHit.out)).trans HHit.out, HBw.out.trans (HB3.out.mono HBw.out.size), h.symm, by omega⟩
        case measure =>
          rw [iterPos_of ((HB3.out.block _ (lt_of_block HHit.out)).trans HHit.out), HPos.out]
          omega
      · have e1 : ((c : Int) == 65533) = false := by simp; omega
        have e3 : (c : Int) < 32 := by omega
        have e5 : ((c : Int) != 9) = true := by simp; omega
        clear h1 h2
        go_wp2_with (go_at_call 53; refine HDc.out.mono ?_; rintro e w3 ⟨rfl, hb3⟩; have HB3 := Lib.hid hb3; clear hb3)
        go_ret
        have h := HStop.out trivial
        rw [HS.out] at h
        exact ⟨ret_int h.symm, HBw.out.trans (HB3.out.mono HBw.out.size)⟩
      · have e1 : ((c : Int) == 65533) = false := by simp; omega
        have e3 : (32 : Int) ≤ (c : Int) := by omega
        have e4 : ((c : Int) == 127) = true := by simp; omega
        clear h1
        go_wp2_with (go_at_call 53; refine HDc.out.mono ?_; rintro e w3 ⟨rfl, hb3⟩; have HB3 := Lib.hid hb3; clear hb3)
        go_ret
        have h := HStop.out trivial
        rw [HS.out] at h
        exact ⟨ret_int h.symm, HBw.out.trans (HB3.out.mono HBw.out.size)⟩
      · have e1 : ((c : Int) == 65533) = false := by simp; omega
        have e3 : (32 : Int) ≤ (c : Int) := by omega
        have e4 : ((c : Int) == 127) = false := by simp; omega
        clear h1 h2 h3
        go_wp2_with (go_at_call 53; refine HDc.out.mono ?_; rintro e w3 ⟨rfl, hb3⟩; have HB3 := Lib.hid hb3; clear hb3)
        go_roundw
        case rel =>
          have h := HStep.out trivial
          rw [HS.out] at h
          exact ⟨pos + n, fuel, (HB3.out.block _ (lt_of_block HHit.out)).trans HHit.out, HBw.out.trans (HB3.out.mono HBw.out.size), h.symm, by omega⟩
        case measure =>
          rw [iterPos_of ((HB3.out.block _ (lt_of_block HHit.out)).trans HHit.out), HPos.out]
          omega
    · have hnx : ∀ ty, (Instr.next (.pointer (some ⟨w.heap.size, 0, none⟩)) true ty).run Tryd.prog wr = _ := fun ty => Lib.run_next_end_at wr w.heap.size s pos ty hit hp
      have e : goodZ s = -1 := by rw [← HS.out]; exact goodFrom_end s fuel pos hp
      have HE := Lib.hid e
      have HBw := Lib.hid hbw
      clear e hbw
      go_wp2
      go_ret
      exact ⟨ret_int HE.out.symm, HBw.out⟩
end Go.Proofs.YtjkaigfpjebfbaaDoor
/- chandlerref4.Good, at, size: they answer what the plain law says. -/
namespace Go.Proofs.YtjkaigfpjebfbaaDoor
open Go.RowKit
set_option linter.unusedVariables false

theorem extract_byte (s : ByteArray) (p j : Nat) (h : p + j < s.size) : byteAt (s.extract p s.size) j = byteAt s (p + j) := by
  rw [byteAt_get _ _ (by simp; omega), byteAt_get _ _ h]
  congr 1
  simp [ByteArray.getElem_extract]
theorem sizeAt_tail (s : ByteArray) (p : Nat) (h : p < s.size) : sizeAt (s.extract p s.size) 0 = sizeAt s p := by
  rw [sizeAt_eq, sizeAt_eq, ← decodeGo_tail s p h]
  have : Lib.decodeGo (s.extract p s.size) = Utf8.decode (s.extract p s.size) 0 := by
    unfold Lib.decodeGo
    rw [if_neg]
    simp; omega
  rw [this]
theorem at_any (s : ByteArray) (i lo hi : Int) (w : World) (hs : s.size ≤ 9223372036854775807) (h0 : 0 ≤ i) (h1 : i ≤ 9223372036854775807) (hl : 0 ≤ lo) (hh : 0 ≤ hi) :
    Calls Tryd.prog 66 #[.string s, .int .i64 i, .int .u8 lo, .int .u8 hi] w fun e w' => e = .returned (.bool (atB s i.toNat lo.toNat hi.toNat)) ∧ w = w' := by
  obtain ⟨i, rfl⟩ := Int.eq_ofNat_of_zero_le h0
  obtain ⟨lo, rfl⟩ := Int.eq_ofNat_of_zero_le hl
  obtain ⟨hi, rfl⟩ := Int.eq_ofNat_of_zero_le hh
  simp only [Int.toNat_natCast]
  by_cases hi1 : i < s.size
  · obtain ⟨x, hx⟩ : ∃ x, x = byteAt s i := ⟨_, rfl⟩
    have hx2 : ((s[i]'hi1).toNat : Nat) = x := by rw [hx, byteAt_get s i hi1]
    by_cases h2 : lo ≤ x
    · by_cases h3 : x ≤ hi
      · have e : atB s i lo hi = true := by unfold atB; rw [← hx]; simp [hi1, h2, h3]
        have HE := Lib.hid e
        clear e hx
        go_enter Tryd.func66, Tryd.ntmps66
        go_wp2
        go_ret
        exact ⟨ret_bool HE.out.symm, rfl⟩
      · have e : atB s i lo hi = false := by unfold atB; rw [← hx]; simp [h3]
        have HE := Lib.hid e
        clear e hx
        go_enter Tryd.func66, Tryd.ntmps66
        go_wp2
        go_ret
        exact ⟨ret_bool HE.out.symm, rfl⟩
    · have e : atB s i lo hi = false := by unfold atB; rw [← hx]; simp [h2]
      have HE := Lib.hid e
      clear e hx
      go_enter Tryd.func66, Tryd.ntmps66
      go_wp2
      go_ret
      exact ⟨ret_bool HE.out.symm, rfl⟩
  · have e : atB s i lo hi = false := by unfold atB; simp [hi1]
    have HE := Lib.hid e
    clear e
    go_enter Tryd.func66, Tryd.ntmps66
    go_wp2
    go_ret
    exact ⟨ret_bool HE.out.symm, rfl⟩
set_option maxRecDepth 100000 in
set_option maxHeartbeats 4000000 in
theorem size_any (s : ByteArray) (w : World) (h0 : 0 < s.size) (hs : s.size ≤ 9223372036854775807) :
    Calls Tryd.prog 56 #[.string s] w fun e w' => e = .returned (.int .i64 (sizeAt s 0 : Int)) ∧ w = w' := by
  have hb8 := byteAt_lt s 0
  have hb1 := byteAt_lt s 1
  have hb2 := byteAt_lt s 2
  have hb3 := byteAt_lt s 3
  obtain ⟨b, hb⟩ : ∃ b, b = byteAt s 0 := ⟨_, rfl⟩
  have hx2 : ((s[0]'h0).toNat : Nat) = b := by rw [hb, byteAt_get s 0 h0]
  rw [← hb] at hb8
  have hcls : b < 128 ∨ (128 ≤ b ∧ b < 194) ∨ (194 ≤ b ∧ b < 224) ∨ b = 224 ∨ (225 ≤ b ∧ b < 237) ∨ b = 237 ∨ (238 ≤ b ∧ b < 240) ∨ b = 240 ∨ (241 ≤ b ∧ b < 244) ∨ b = 244 ∨ 245 ≤ b := by omega
  rcases hcls with hc | hc | hc | hc | hc | hc | hc | hc | hc | hc | hc
  · have e : sizeAt s 0 = 1 := size_ascii s h0 (by rw [← hb]; exact hc)
    clear hb hb1 hb2 hb3
    have q224 : ((b : Int) == 224) = false := by (simp <;> omega)
    have q237 : ((b : Int) == 237) = false := by (simp <;> omega)
    have q240 : ((b : Int) == 240) = false := by (simp <;> omega)
    have q244 : ((b : Int) == 244) = false := by (simp <;> omega)
    have r237 : ((b : Int) != 237) = true := by (simp <;> omega)
    have HE := Lib.hid e
    clear e
    go_enter Tryd.func56, Tryd.ntmps56
    go_wp2_with (go_at_call 66; refine (at_any s _ _ _ _ hs (by omega) (by omega) (by omega) (by omega)).mono ?_; rintro e w' ⟨rfl, rfl⟩)
    go_ret
    exact ⟨by rw [HE.out]; rfl, rfl⟩
  · have e : sizeAt s 0 = 0 := size_bad s h0 (by rw [← hb]; omega)
    clear hb hb1 hb2 hb3
    have q224 : ((b : Int) == 224) = false := by (simp <;> omega)
    have q237 : ((b : Int) == 237) = false := by (simp <;> omega)
    have q240 : ((b : Int) == 240) = false := by (simp <;> omega)
    have q244 : ((b : Int) == 244) = false := by (simp <;> omega)
    have r237 : ((b : Int) != 237) = true := by (simp <;> omega)
    have HE := Lib.hid e
    clear e
    go_enter Tryd.func56, Tryd.ntmps56
    go_wp2_with (go_at_call 66; refine (at_any s _ _ _ _ hs (by omega) (by omega) (by omega) (by omega)).mono ?_; rintro e w' ⟨rfl, rfl⟩)
    go_ret
    exact ⟨by rw [HE.out]; rfl, rfl⟩
  · have e := size_at s 2 128 191 h0 (by omega) (by omega) (Lib.slow_C2 _ _ _ _ _ (by omega) hb1 hb2 hb3 (by rw [← hb]; exact hc))
    clear hb hb1 hb2 hb3
    have q224 : ((b : Int) == 224) = false := by (simp <;> omega)
    have q237 : ((b : Int) == 237) = false := by (simp <;> omega)
    have q240 : ((b : Int) == 240) = false := by (simp <;> omega)
    have q244 : ((b : Int) == 244) = false := by (simp <;> omega)
    have r237 : ((b : Int) != 237) = true := by (simp <;> omega)
    cases a1 : atB s 1 128 191
    · simp [a1] at e
      have HE := Lib.hid e
      clear e
      go_enter Tryd.func56, Tryd.ntmps56
      go_wp2_with (go_at_call 66; refine (at_any s _ _ _ _ hs (by omega) (by omega) (by omega) (by omega)).mono ?_; rintro e w' ⟨rfl, rfl⟩)
      go_ret
      exact ⟨by rw [HE.out]; rfl, rfl⟩
    · simp [a1] at e
      have HE := Lib.hid e
      clear e
      go_enter Tryd.func56, Tryd.ntmps56
      go_wp2_with (go_at_call 66; refine (at_any s _ _ _ _ hs (by omega) (by omega) (by omega) (by omega)).mono ?_; rintro e w' ⟨rfl, rfl⟩)
      go_ret
      exact ⟨by rw [HE.out]; rfl, rfl⟩
  · have e := size_at s 3 160 191 h0 (by omega) (by omega) (Lib.slow_E0 _ _ _ _ _ (by omega) hb1 hb2 hb3 (by rw [← hb]; exact hc))
    clear hb hb1 hb2 hb3
    have q224 : ((b : Int) == 224) = true := by (simp <;> omega)
    have q237 : ((b : Int) == 237) = false := by (simp <;> omega)
    have q240 : ((b : Int) == 240) = false := by (simp <;> omega)
    have q244 : ((b : Int) == 244) = false := by (simp <;> omega)
    have r237 : ((b : Int) != 237) = true := by (simp <;> omega)
    cases a1 : atB s 1 160 191
    · simp [a1] at e
      have HE := Lib.hid e
      clear e
      go_enter Tryd.func56, Tryd.ntmps56
      go_wp2_with (go_at_call 66; refine (at_any s _ _ _ _ hs (by omega) (by omega) (by omega) (by omega)).mono ?_; rintro e w' ⟨rfl, rfl⟩)
      go_ret
      exact ⟨by rw [HE.out]; rfl, rfl⟩
    · cases a2 : atB s 2 128 191
      · simp [a1, a2] at e
        have HE := Lib.hid e
        clear e
        go_enter Tryd.func56, Tryd.ntmps56
        go_wp2_with (go_at_call 66; refine (at_any s _ _ _ _ hs (by omega) (by omega) (by omega) (by omega)).mono ?_; rintro e w' ⟨rfl, rfl⟩)
        go_ret
        exact ⟨by rw [HE.out]; rfl, rfl⟩
      · simp [a1, a2] at e
        have HE := Lib.hid e
        clear e
        go_enter Tryd.func56, Tryd.ntmps56
        go_wp2_with (go_at_call 66; refine (at_any s _ _ _ _ hs (by omega) (by omega) (by omega) (by omega)).mono ?_; rintro e w' ⟨rfl, rfl⟩)
        go_ret
        exact ⟨by rw [HE.out]; rfl, rfl⟩
  · have e := size_at s 3 128 191 h0 (by omega) (by omega) (Lib.slow_E1 _ _ _ _ _ (by omega) hb1 hb2 hb3 (by rw [← hb]; omega))
    clear hb hb1 hb2 hb3
    have q224 : ((b : Int) == 224) = false := by (simp <;> omega)
    have q237 : ((b : Int) == 237) = false := by (simp <;> omega)
    have q240 : ((b : Int) == 240) = false := by (simp <;> omega)
    have q244 : ((b : Int) == 244) = false := by (simp <;> omega)
    have r237 : ((b : Int) != 237) = true := by (simp <;> omega)
    cases a1 : atB s 1 128 191
    · simp [a1] at e
      have HE := Lib.hid e
      clear e
      go_enter Tryd.func56, Tryd.ntmps56
      go_wp2_with (go_at_call 66; refine (at_any s _ _ _ _ hs (by omega) (by omega) (by omega) (by omega)).mono ?_; rintro e w' ⟨rfl, rfl⟩)
      go_ret
      exact ⟨by rw [HE.out]; rfl, rfl⟩
    · cases a2 : atB s 2 128 191
      · simp [a1, a2] at e
        have HE := Lib.hid e
        clear e
        go_enter Tryd.func56, Tryd.ntmps56
        go_wp2_with (go_at_call 66; refine (at_any s _ _ _ _ hs (by omega) (by omega) (by omega) (by omega)).mono ?_; rintro e w' ⟨rfl, rfl⟩)
        go_ret
        exact ⟨by rw [HE.out]; rfl, rfl⟩
      · simp [a1, a2] at e
        have HE := Lib.hid e
        clear e
        go_enter Tryd.func56, Tryd.ntmps56
        go_wp2_with (go_at_call 66; refine (at_any s _ _ _ _ hs (by omega) (by omega) (by omega) (by omega)).mono ?_; rintro e w' ⟨rfl, rfl⟩)
        go_ret
        exact ⟨by rw [HE.out]; rfl, rfl⟩
  · have e := size_at s 3 128 159 h0 (by omega) (by omega) (Lib.slow_ED _ _ _ _ _ (by omega) hb1 hb2 hb3 (by rw [← hb]; exact hc))
    clear hb hb1 hb2 hb3
    have q224 : ((b : Int) == 224) = false := by (simp <;> omega)
    have q237 : ((b : Int) == 237) = true := by (simp <;> omega)
    have q240 : ((b : Int) == 240) = false := by (simp <;> omega)
    have q244 : ((b : Int) == 244) = false := by (simp <;> omega)
    have r237 : ((b : Int) != 237) = false := by (simp <;> omega)
    cases a1 : atB s 1 128 159
    · simp [a1] at e
      have HE := Lib.hid e
      clear e
      go_enter Tryd.func56, Tryd.ntmps56
      go_wp2_with (go_at_call 66; refine (at_any s _ _ _ _ hs (by omega) (by omega) (by omega) (by omega)).mono ?_; rintro e w' ⟨rfl, rfl⟩)
      go_ret
      exact ⟨by rw [HE.out]; rfl, rfl⟩
    · cases a2 : atB s 2 128 191
      · simp [a1, a2] at e
        have HE := Lib.hid e
        clear e
        go_enter Tryd.func56, Tryd.ntmps56
        go_wp2_with (go_at_call 66; refine (at_any s _ _ _ _ hs (by omega) (by omega) (by omega) (by omega)).mono ?_; rintro e w' ⟨rfl, rfl⟩)
        go_ret
        exact ⟨by rw [HE.out]; rfl, rfl⟩
      · simp [a1, a2] at e
        have HE := Lib.hid e
        clear e
        go_enter Tryd.func56, Tryd.ntmps56
        go_wp2_with (go_at_call 66; refine (at_any s _ _ _ _ hs (by omega) (by omega) (by omega) (by omega)).mono ?_; rintro e w' ⟨rfl, rfl⟩)
        go_ret
        exact ⟨by rw [HE.out]; rfl, rfl⟩
  · have e := size_at s 3 128 191 h0 (by omega) (by omega) (Lib.slow_E1 _ _ _ _ _ (by omega) hb1 hb2 hb3 (by rw [← hb]; omega))
    clear hb hb1 hb2 hb3
    have q224 : ((b : Int) == 224) = false := by (simp <;> omega)
    have q237 : ((b : Int) == 237) = false := by (simp <;> omega)
    have q240 : ((b : Int) == 240) = false := by (simp <;> omega)
    have q244 : ((b : Int) == 244) = false := by (simp <;> omega)
    have r237 : ((b : Int) != 237) = true := by (simp <;> omega)
    cases a1 : atB s 1 128 191
    · simp [a1] at e
      have HE := Lib.hid e
      clear e
      go_enter Tryd.func56, Tryd.ntmps56
      go_wp2_with (go_at_call 66; refine (at_any s _ _ _ _ hs (by omega) (by omega) (by omega) (by omega)).mono ?_; rintro e w' ⟨rfl, rfl⟩)
      go_ret
      exact ⟨by rw [HE.out]; rfl, rfl⟩
    · cases a2 : atB s 2 128 191
      · simp [a1, a2] at e
        have HE := Lib.hid e
        clear e
        go_enter Tryd.func56, Tryd.ntmps56
        go_wp2_with (go_at_call 66; refine (at_any s _ _ _ _ hs (by omega) (by omega) (by omega) (by omega)).mono ?_; rintro e w' ⟨rfl, rfl⟩)
        go_ret
        exact ⟨by rw [HE.out]; rfl, rfl⟩
      · simp [a1, a2] at e
        have HE := Lib.hid e
        clear e
        go_enter Tryd.func56, Tryd.ntmps56
        go_wp2_with (go_at_call 66; refine (at_any s _ _ _ _ hs (by omega) (by omega) (by omega) (by omega)).mono ?_; rintro e w' ⟨rfl, rfl⟩)
        go_ret
        exact ⟨by rw [HE.out]; rfl, rfl⟩
  · have e := size_at s 4 144 191 h0 (by omega) (by omega) (Lib.slow_F0 _ _ _ _ _ (by omega) hb1 hb2 hb3 (by rw [← hb]; exact hc))
    clear hb hb1 hb2 hb3
    have q224 : ((b : Int) == 224) = false := by (simp <;> omega)
    have q237 : ((b : Int) == 237) = false := by (simp <;> omega)
    have q240 : ((b : Int) == 240) = true := by (simp <;> omega)
    have q244 : ((b : Int) == 244) = false := by (simp <;> omega)
    have r237 : ((b : Int) != 237) = true := by (simp <;> omega)
    cases a1 : atB s 1 144 191
    · simp [a1] at e
      have HE := Lib.hid e
      clear e
      go_enter Tryd.func56, Tryd.ntmps56
      go_wp2_with (go_at_call 66; refine (at_any s _ _ _ _ hs (by omega) (by omega) (by omega) (by omega)).mono ?_; rintro e w' ⟨rfl, rfl⟩)
      go_ret
      exact ⟨by rw [HE.out]; rfl, rfl⟩
    · cases a2 : atB s 2 128 191
      · simp [a1, a2] at e
        have HE := Lib.hid e
        clear e
        go_enter Tryd.func56, Tryd.ntmps56
        go_wp2_with (go_at_call 66; refine (at_any s _ _ _ _ hs (by omega) (by omega) (by omega) (by omega)).mono ?_; rintro e w' ⟨rfl, rfl⟩)
        go_ret
        exact ⟨by rw [HE.out]; rfl, rfl⟩
      · cases a3 : atB s 3 128 191
        · simp [a1, a2, a3] at e
          have HE := Lib.hid e
          clear e
          go_enter Tryd.func56, Tryd.ntmps56
          go_wp2_with (go_at_call 66; refine (at_any s _ _ _ _ hs (by omega) (by omega) (by omega) (by omega)).mono ?_; rintro e w' ⟨rfl, rfl⟩)
          go_ret
          exact ⟨by rw [HE.out]; rfl, rfl⟩
        · simp [a1, a2, a3] at e
          have HE := Lib.hid e
          clear e
          go_enter Tryd.func56, Tryd.ntmps56
          go_wp2_with (go_at_call 66; refine (at_any s _ _ _ _ hs (by omega) (by omega) (by omega) (by omega)).mono ?_; rintro e w' ⟨rfl, rfl⟩)
          go_ret
          exact ⟨by rw [HE.out]; rfl, rfl⟩
  · have e := size_at s 4 128 191 h0 (by omega) (by omega) (Lib.slow_F1 _ _ _ _ _ (by omega) hb1 hb2 hb3 (by rw [← hb]; exact hc))
    clear hb hb1 hb2 hb3
    have q224 : ((b : Int) == 224) = false := by (simp <;> omega)
    have q237 : ((b : Int) == 237) = false := by (simp <;> omega)
    have q240 : ((b : Int) == 240) = false := by (simp <;> omega)
    have q244 : ((b : Int) == 244) = false := by (simp <;> omega)
    have r237 : ((b : Int) != 237) = true := by (simp <;> omega)
    cases a1 : atB s 1 128 191
    · simp [a1] at e
      have HE := Lib.hid e
      clear e
      go_enter Tryd.func56, Tryd.ntmps56
      go_wp2_with (go_at_call 66; refine (at_any s _ _ _ _ hs (by omega) (by omega) (by omega) (by omega)).mono ?_; rintro e w' ⟨rfl, rfl⟩)
      go_ret
      exact ⟨by rw [HE.out]; rfl, rfl⟩
    · cases a2 : atB s 2 128 191
      · simp [a1, a2] at e
        have HE := Lib.hid e
        clear e
        go_enter Tryd.func56, Tryd.ntmps56
        go_wp2_with (go_at_call 66; refine (at_any s _ _ _ _ hs (by omega) (by omega) (by omega) (by omega)).mono ?_; rintro e w' ⟨rfl, rfl⟩)
        go_ret
        exact ⟨by rw [HE.out]; rfl, rfl⟩
      · cases a3 : atB s 3 128 191
        · simp [a1, a2, a3] at e
          have HE := Lib.hid e
          clear e
          go_enter Tryd.func56, Tryd.ntmps56
          go_wp2_with (go_at_call 66; refine (at_any s _ _ _ _ hs (by omega) (by omega) (by omega) (by omega)).mono ?_; rintro e w' ⟨rfl, rfl⟩)
          go_ret
          exact ⟨by rw [HE.out]; rfl, rfl⟩
        · simp [a1, a2, a3] at e
          have HE := Lib.hid e
          clear e
          go_enter Tryd.func56, Tryd.ntmps56
          go_wp2_with (go_at_call 66; refine (at_any s _ _ _ _ hs (by omega) (by omega) (by omega) (by omega)).mono ?_; rintro e w' ⟨rfl, rfl⟩)
          go_ret
          exact ⟨by rw [HE.out]; rfl, rfl⟩
  · have e := size_at s 4 128 143 h0 (by omega) (by omega) (Lib.slow_F4 _ _ _ _ _ (by omega) hb1 hb2 hb3 (by rw [← hb]; exact hc))
    clear hb hb1 hb2 hb3
    have q224 : ((b : Int) == 224) = false := by (simp <;> omega)
    have q237 : ((b : Int) == 237) = false := by (simp <;> omega)
    have q240 : ((b : Int) == 240) = false := by (simp <;> omega)
    have q244 : ((b : Int) == 244) = true := by (simp <;> omega)
    have r237 : ((b : Int) != 237) = true := by (simp <;> omega)
    cases a1 : atB s 1 128 143
    · simp [a1] at e
      have HE := Lib.hid e
      clear e
      go_enter Tryd.func56, Tryd.ntmps56
      go_wp2_with (go_at_call 66; refine (at_any s _ _ _ _ hs (by omega) (by omega) (by omega) (by omega)).mono ?_; rintro e w' ⟨rfl, rfl⟩)
      go_ret
      exact ⟨by rw [HE.out]; rfl, rfl⟩
    · cases a2 : atB s 2 128 191
      · simp [a1, a2] at e
        have HE := Lib.hid e
        clear e
        go_enter Tryd.func56, Tryd.ntmps56
        go_wp2_with (go_at_call 66; refine (at_any s _ _ _ _ hs (by omega) (by omega) (by omega) (by omega)).mono ?_; rintro e w' ⟨rfl, rfl⟩)
        go_ret
        exact ⟨by rw [HE.out]; rfl, rfl⟩
      · cases a3 : atB s 3 128 191
        · simp [a1, a2, a3] at e
          have HE := Lib.hid e
          clear e
          go_enter Tryd.func56, Tryd.ntmps56
          go_wp2_with (go_at_call 66; refine (at_any s _ _ _ _ hs (by omega) (by omega) (by omega) (by omega)).mono ?_; rintro e w' ⟨rfl, rfl⟩)
          go_ret
          exact ⟨by rw [HE.out]; rfl, rfl⟩
        · simp [a1, a2, a3] at e
          have HE := Lib.hid e
          clear e
          go_enter Tryd.func56, Tryd.ntmps56
          go_wp2_with (go_at_call 66; refine (at_any s _ _ _ _ hs (by omega) (by omega) (by omega) (by omega)).mono ?_; rintro e w' ⟨rfl, rfl⟩)
          go_ret
          exact ⟨by rw [HE.out]; rfl, rfl⟩
  · have e : sizeAt s 0 = 0 := size_bad s h0 (by rw [← hb]; omega)
    clear hb hb1 hb2 hb3
    have q224 : ((b : Int) == 224) = false := by (simp <;> omega)
    have q237 : ((b : Int) == 237) = false := by (simp <;> omega)
    have q240 : ((b : Int) == 240) = false := by (simp <;> omega)
    have q244 : ((b : Int) == 244) = false := by (simp <;> omega)
    have r237 : ((b : Int) != 237) = true := by (simp <;> omega)
    have HE := Lib.hid e
    clear e
    go_enter Tryd.func56, Tryd.ntmps56
    go_wp2_with (go_at_call 66; refine (at_any s _ _ _ _ hs (by omega) (by omega) (by omega) (by omega)).mono ?_; rintro e w' ⟨rfl, rfl⟩)
    go_ret
    exact ⟨by rw [HE.out]; rfl, rfl⟩
end Go.Proofs.YtjkaigfpjebfbaaDoor
/- chandlerref4.Good; names. -/
namespace Go.Proofs.YtjkaigfpjebfbaaDoor
open Go.RowKit
set_option linter.unusedVariables false

theorem stop_ref_ways (s : ByteArray) (i : Nat) (h : i < s.size) : (stop s i = true ∧ sizeAt s i = 0) ∨ (stop s i = true ∧ sizeAt s i ≠ 0 ∧ byteAt s i < 32 ∧ byteAt s i ≠ 9) ∨ (stop s i = true ∧ sizeAt s i ≠ 0 ∧ byteAt s i = 127) ∨
    (stop s i = false ∧ sizeAt s i ≠ 0 ∧ byteAt s i = 9) ∨ (stop s i = false ∧ sizeAt s i ≠ 0 ∧ 32 ≤ byteAt s i ∧ byteAt s i ≠ 127) := by
  have hr := stop_ref s i h
  have hst : stop s i = decide (stopP s i) := rfl
  by_cases hs : stopP s i
  · rw [decide_eq_true hs] at hst
    rw [hst]
    have := hr.1 hs
    simp only [Bool.true_eq_false, false_and, or_false, true_and]
    omega
  · rw [decide_eq_false hs] at hst
    rw [hst]
    have : ¬ _ := fun h2 => hs (hr.2 h2)
    simp only [Bool.false_eq_true, false_and, false_or, true_and]
    omega
set_option maxRecDepth 100000 in
set_option maxHeartbeats 2000000 in
theorem RefGood_any (s : ByteArray) (w : World) (hs : s.size ≤ 9223372036854775807) :
    Calls Tryd.prog 43 #[.string s] w fun e w' => e = .returned (.int .i64 (goodZ s)) ∧ w = w' := by
  go_enter Tryd.func43, Tryd.ntmps43
  go_wp2
  go_loop [3] (fun v => ∃ (pos fuel : Nat), v = .int .i64 pos ∧ Hid (goodFrom s fuel pos = goodZ s) ∧ pos ≤ s.size ∧ s.size ≤ pos + fuel) (fun v => s.size - (intOf v).toNat)
  case atStart => exact ⟨0, s.size, rfl, rfl, by omega, by omega⟩
  case round =>
    obtain ⟨pos, fuel, rfl, HS, hps, hb⟩ := hrel
    by_cases hp : pos < s.size
    · have hwd := Lib.decode_width_pos s pos hp
      have hin := decode_in s pos hp
      obtain ⟨fuel, rfl⟩ : ∃ f', fuel = f' + 1 := ⟨fuel - 1, by omega⟩
      have hsz := size_any (s.extract pos s.size)
      simp only [sizeAt_tail s pos hp] at hsz
      have hx2 : ((s[pos]'hp).toNat : Nat) = byteAt s pos := (byteAt_get s pos hp).symm
      have hways := stop_ref_ways s pos hp
      have hstep : stop s pos = false → sizeAt s pos = (Utf8.decode s pos).2 := sizeAt_step s pos
      have HStep := Lib.hid (fun h => (goodFrom_step s fuel pos hp h).trans (by rw [← hstep h]))
      have HIn := Lib.hid (fun h => by have := hstep h; omega : stop s pos = false → 1 ≤ sizeAt s pos ∧ pos + sizeAt s pos ≤ s.size)
      have HStop := Lib.hid (goodFrom_stop s fuel pos hp)
      clear hstep hwd hin
      obtain ⟨st, hst⟩ : ∃ st, st = stop s pos := ⟨_, rfl⟩
      rw [← hst] at hways HStop HStep HIn
      clear hst
      obtain ⟨n, hn⟩ : ∃ n, n = sizeAt s pos := ⟨_, rfl⟩
      rw [← hn] at hways HStep HIn
      simp only [← hn] at hsz
      obtain ⟨b, hbb⟩ : ∃ b, b = byteAt s pos := ⟨_, rfl⟩
      rw [← hbb] at hx2 hways
      have hb8 : b < 256 := by rw [hbb]; exact byteAt_lt s pos
      have HSz := Lib.hid hsz
      clear hn hbb hsz
      have hp1 : (0 : Int) ≤ (pos : Int) := by omega
      have hp2 : (pos : Int) ≤ (s.size : Int) := by omega
      have hp3 : 0 < (s.extract pos s.size).size := by simp; omega
      have hp4 : (s.extract pos s.size).size ≤ 9223372036854775807 := by simp; omega
      have HP := Lib.hid (And.intro hp3 hp4)
      clear hp3 hp4
      rcases hways with ⟨rfl, h1⟩ | ⟨rfl, h1, h2, h3⟩ | ⟨rfl, h1, h2⟩ | ⟨rfl, h1, h2⟩ | ⟨rfl, h1, h2, h3⟩
      · have e1 : ((n : Int) == 0) = true := by (simp <;> omega)
        clear h1
        go_wp2_with (go_at_call 56; refine (HSz.out _ HP.out.1 HP.out.2).mono ?_; rintro e w3 ⟨rfl, rfl⟩)
        go_ret
        have h := HStop.out trivial
        rw [HS.out] at h
        exact ⟨ret_int h.symm, rfl⟩
      · have e1 : ((n : Int) == 0) = false := by (simp <;> omega)
        have e2 : ((b : Int) != 9) = true := by (simp <;> omega)
        clear h1 h3
        go_wp2_with (go_at_call 56; refine (HSz.out _ HP.out.1 HP.out.2).mono ?_; rintro e w3 ⟨rfl, rfl⟩)
        go_ret
        have h := HStop.out trivial
        rw [HS.out] at h
        exact ⟨ret_int h.symm, rfl⟩
      · have e1 : ((n : Int) == 0) = false := by (simp <;> omega)
        have e2 : ((b : Int) == 127) = true := by (simp <;> omega)
        have h4 : 32 ≤ b := by omega
        clear h1 h2
        go_wp2_with (go_at_call 56; refine (HSz.out _ HP.out.1 HP.out.2).mono ?_; rintro e w3 ⟨rfl, rfl⟩)
        go_ret
        have h := HStop.out trivial
        rw [HS.out] at h
        exact ⟨ret_int h.symm, rfl⟩
      · have e1 : ((n : Int) == 0) = false := by (simp <;> omega)
        have e2 : ((b : Int) == 127) = false := by (simp <;> omega)
        have e3 : ((b : Int) != 9) = false := by (simp <;> omega)
        have h4 : b < 32 := by omega
        clear h1 h2
        have hi := HIn.out rfl
        go_wp2_with (go_at_call 56; refine (HSz.out _ HP.out.1 HP.out.2).mono ?_; rintro e w3 ⟨rfl, rfl⟩)
        go_round
        case rel =>
          have h := HStep.out trivial
          rw [HS.out] at h
          exact ⟨pos + n, fuel, by go_num, h.symm, by omega, by omega⟩
        case measure => simp [intOf]; omega
      · have e1 : ((n : Int) == 0) = false := by (simp <;> omega)
        have e2 : ((b : Int) == 127) = false := by (simp <;> omega)
        clear h1 h3
        have hi := HIn.out rfl
        go_wp2_with (go_at_call 56; refine (HSz.out _ HP.out.1 HP.out.2).mono ?_; rintro e w3 ⟨rfl, rfl⟩)
        go_round
        case rel =>
          have h := HStep.out trivial
          rw [HS.out] at h
          exact ⟨pos + n, fuel, by go_num, h.symm, by omega, by omega⟩
        case measure => simp [intOf]; omega
    · have e : goodZ s = -1 := by rw [← HS.out]; exact goodFrom_end s fuel pos hp
      have HE := Lib.hid e
      clear e
      go_wp2
      go_ret
      exact ⟨ret_int HE.out.symm, rfl⟩
end Go.Proofs.YtjkaigfpjebfbaaDoor
