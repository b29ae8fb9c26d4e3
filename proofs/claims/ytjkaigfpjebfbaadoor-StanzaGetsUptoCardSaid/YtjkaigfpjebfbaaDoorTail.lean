/- chandlerref4.tail, Trim: they answer what the plain law says. -/
import Derived.Test.YtjkaigfpjebfbaaDoorStr
namespace Go.Proofs.YtjkaigfpjebfbaaDoor
open Go.RowKit Go.Shelf Go.Lib
set_option linter.unusedVariables false

theorem hiB_part (s : ByteArray) (i : Nat) (hi : i ≤ s.size) : ∀ k, k ≤ i → hiB (s.extract 0 i) k = hiB s k
  | 0, _ => rfl
  | k + 1, h => by
    unfold hiB
    rw [part_at s i k hi (by omega), hiB_part s i hi k (by omega)]
theorem part_part (s : ByteArray) (i k : Nat) (hi : i ≤ s.size) (hk : k ≤ i) : (s.extract 0 i).extract 0 k = s.extract 0 k := by
  apply ByteArray.ext
  apply Array.toList_inj.1
  rw [part_list, part_list, part_list, List.take_take, Nat.min_eq_left hk]
theorem tail_step (s : ByteArray) (n : Nat) (hn : s.size = n + 1) (h : wB (byteAt s n) = true) : trimR (s.extract 0 n) = trimR s := by
  unfold trimR hi
  rw [part_size s n (by omega), hiB_part s n (by omega) n (Nat.le_refl _), part_part s n _ (by omega) (hiB_le s n), hn]
  congr 1
  show _ = if wB (byteAt s n) = true then _ else _
  rw [if_pos h]
theorem part_all (s : ByteArray) : s.extract 0 s.size = s := by
  apply ByteArray.ext
  apply Array.toList_inj.1
  rw [part_list]
  exact List.take_of_length_le (by simp)
theorem tail_end (s : ByteArray) (n : Nat) (hn : s.size = n + 1) (h : wB (byteAt s n) = false) : trimR s = s := by
  unfold trimR hi
  have e : hiB s s.size = s.size := by
    rw [hn]
    show (if wB (byteAt s n) = true then _ else _) = _
    rw [if_neg (by rw [h]; decide)]
  rw [e, part_all]
theorem tail_nil (s : ByteArray) (hn : s.size = 0) : trimR s = s := by
  unfold trimR hi
  rw [hn]
  show s.extract 0 0 = s
  have := part_all s
  rwa [hn] at this
set_option maxRecDepth 100000 in
set_option maxHeartbeats 4000000 in
theorem tail_any (S : ByteArray) (w : World) (hs : S.size ≤ 9223372036854775807) :
    Calls Tryd.prog 28 #[.string S] w fun e w' => e = .returned (.string (trimR S)) ∧ w = w' := by
  go_enter Tryd.func28, Tryd.ntmps28
  obtain ⟨wo, rfl⟩ : ∃ wo : World, wo = w := ⟨_, rfl⟩
  go_wp2
  go_loopw [0] (fun v wr => ∃ s : ByteArray, v = .string s ∧ wr = wo ∧ Hid (trimR s = trimR S) ∧ s.size ≤ S.size) (fun v _ => match v with | .string s => s.size | _ => 0)
  case atStart => exact ⟨S, rfl, rfl, Lib.hid rfl, Nat.le_refl _⟩
  case round =>
    obtain ⟨s, rfl, rfl, HS, hle⟩ := hrel
    by_cases h0 : s.size = 0
    · have HE := Lib.hid (tail_nil s h0)
      have h00 : ((s.size : Int)) ≤ 0 := by omega
      clear h0
      go_wp2
      go_ret
      exact ⟨by rw [← HS.out, HE.out]; rfl, rfl⟩
    · obtain ⟨n, hn⟩ : ∃ n, s.size = n + 1 := ⟨s.size - 1, by omega⟩
      have hp : (0 : Int) < s.size := by omega
      have hlt : n < s.size := by omega
      cases hb : wB (byteAt s n) with
      | true =>
        have HE := Lib.hid (tail_step s n hn hb)
        have hz := part_size s n (by omega)
        have HW := Lib.hid (byteAt_get s n hlt ▸ hb)
        clear hb h0
        go_wp2_with fail
        refine (refWhite_any (s[n]'hlt).toNat _ (UInt8.toNat_lt _)).mono ?_
        rintro e w1 ⟨rfl, rfl⟩
        rw [HW.out]
        go_wp2
        go_roundw
        case rel => exact ⟨_, rfl, trivial, Lib.hid (HE.out.trans HS.out), by omega⟩
        case measure =>
          show (s.extract 0 n).size < s.size
          omega
      | false =>
        have HE := Lib.hid (tail_end s n hn hb)
        have HW := Lib.hid (byteAt_get s n hlt ▸ hb)
        clear hb h0
        go_wp2_with fail
        refine (refWhite_any (s[n]'hlt).toNat _ (UInt8.toNat_lt _)).mono ?_
        rintro e w1 ⟨rfl, rfl⟩
        rw [HW.out]
        go_wp2
        go_ret
        exact ⟨by rw [← HS.out, HE.out]; rfl, rfl⟩
theorem back_size (s : ByteArray) (n : Nat) (hn : s.size = n + 1) : (s.extract 1 s.size).size = n := by rw [ByteArray.size_extract]; omega
theorem back_at (s : ByteArray) (n : Nat) (hn : s.size = n + 1) (k : Nat) (hk : k < n) : byteAt (s.extract 1 s.size) k = byteAt s (1 + k) := by
  have h := byteAt_right (s.extract 0 1) (s.extract 1 s.size) k
  rw [part_join s 1 (by omega), part_size s 1 (by omega)] at h
  exact h.symm
theorem lo_back (s : ByteArray) (n : Nat) (hn : s.size = n + 1) : ∀ f k, k ≤ n → loB s f (k + 1) = loB (s.extract 1 s.size) f k + 1
  | 0, k, _ => rfl
  | f + 1, k, h => by
    have hz := back_size s n hn
    unfold loB
    by_cases hk : k < n
    · rw [back_at s n hn k hk, Nat.add_comm 1 k]
      by_cases hw : wB (byteAt s (k + 1)) = true
      · rw [if_pos ⟨by omega, hw⟩, if_pos ⟨by omega, hw⟩]
        exact lo_back s n hn f (k + 1) (by omega)
      · rw [if_neg (fun h => hw h.2), if_neg (fun h => hw h.2)]
    · rw [if_neg (fun h => by have := h.1; omega), if_neg (fun h => by have := h.1; omega)]
theorem loB_end (s : ByteArray) (pos : Nat) (h : s.size ≤ pos) : ∀ f, loB s f pos = pos
  | 0 => rfl
  | f + 1 => by unfold loB; rw [if_neg (fun h' => by have := h'.1; omega)]
theorem loB_more (s : ByteArray) : ∀ (f g pos : Nat), s.size ≤ pos + f → s.size ≤ pos + g → loB s f pos = loB s g pos
  | 0, g, pos, h, _ => by rw [loB_end s pos (by omega), loB_end s pos (by omega)]
  | f + 1, 0, pos, _, h => by rw [loB_end s pos (by omega), loB_end s pos (by omega)]
  | f + 1, g + 1, pos, h, h' => by
    unfold loB
    split
    · exact loB_more s f g (pos + 1) (by omega) (by omega)
    · rfl
theorem cut_cut (s : ByteArray) (k : Nat) : (s.extract 1 s.size).extract k (s.extract 1 s.size).size = s.extract (k + 1) s.size := by
  apply ByteArray.ext
  apply Array.toList_inj.1
  rw [Lib.extract_data, Lib.extract_data, Lib.extract_data, ByteArray.size_extract, List.drop_take, List.drop_drop, List.take_take]
  rw [List.take_of_length_le, List.take_of_length_le]
  · rw [Nat.add_comm 1 k]
  · simp
  · simp; omega
theorem head_step (s : ByteArray) (n : Nat) (hn : s.size = n + 1) (h : wB (byteAt s 0) = true) : trimL (s.extract 1 s.size) = trimL s := by
  unfold trimL lo
  rw [cut_cut]
  congr 1
  have e : loB s s.size 0 = loB s n 1 := by
    rw [hn]
    show (if 0 < s.size ∧ wB (byteAt s 0) = true then loB s n (0 + 1) else 0) = _
    rw [if_pos ⟨by omega, h⟩]
  rw [e, lo_back s n hn n 0 (by omega), back_size s n hn]
theorem head_end (s : ByteArray) (n : Nat) (hn : s.size = n + 1) (h : wB (byteAt s 0) = false) : trimL s = s := by
  unfold trimL lo
  have e : loB s s.size 0 = 0 := by
    rw [hn]
    show (if 0 < s.size ∧ wB (byteAt s 0) = true then loB s n (0 + 1) else 0) = _
    rw [if_neg (fun h' => by rw [h] at h'; exact absurd h'.2 (by decide))]
  rw [e, part_all]
theorem head_nil (s : ByteArray) (hn : s.size = 0) : trimL s = s := by
  unfold trimL lo
  have e : loB s s.size 0 = 0 := by rw [hn]; rfl
  rw [e, part_all]
end Go.Proofs.YtjkaigfpjebfbaaDoor
