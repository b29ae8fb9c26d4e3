/- text.Number, chandlerref4.Number: they answer what the plain law says. -/
import Derived.Test.YtdchnllflodmkaaDoorNames
namespace Go.Proofs.YtdchnllflodmkaaDoor
open Go.RowKit
set_option linter.unusedVariables false

theorem pow_nine (p acc : Nat) (hp : p ≤ 9) (h : acc < 10 ^ p) : acc < 1000000000 := Nat.lt_of_lt_of_le h (Nat.pow_le_pow_right (n := 10) (by omega) hp)
theorem pow_step (p acc d : Nat) (h : acc < 10 ^ p) (hd : d ≤ 9) : acc * 10 + d < 10 ^ (p + 1) := by rw [Nat.pow_succ]; omega
def numV (z : Nat × Bool) : Value := .tuple #[.int .i64 (z.1 : Int), .bool z.2]
theorem ret_num {a b : Nat × Bool} (h : a = b) : Ending.returned (numV a) = .returned (numV b) := by rw [h]
theorem numZ_no (s : ByteArray) (h : numFrom s s.size 0 0 = (0, false)) : numZ s = (0, false) := by
  unfold numZ; split
  · rfl
  · exact h
set_option maxRecDepth 100000 in
set_option maxHeartbeats 4000000 in
theorem Number_any (s : ByteArray) (w : World) (hs : s.size ≤ 9223372036854775807) :
    Calls Tryd.prog 15 #[.string s] w fun e w' => e = .returned (numV (numZ s)) ∧ Below w.heap.size w w' := by
  by_cases h0 : s.size = 0
  · have e : numZ s = (0, false) := by unfold numZ; rw [if_pos (.inl h0)]
    have HE := Lib.hid e
    have h00 : ((s.size : Int) == 0) = true := beq_iff_eq.2 (by omega)
    clear e h0
    go_enter Tryd.func15, Tryd.ntmps15
    go_wp2
    go_ret2
    exact ⟨ret_num HE.out.symm, Below.refl _ _⟩
  · have h00 : ((s.size : Int) == 0) = false := beq_eq_false_iff_ne.2 (by omega)
    by_cases h9 : 9 < s.size
    · have e : numZ s = (0, false) := by unfold numZ; rw [if_pos (.inr (.inl h9))]
      have HE := Lib.hid e
      clear e h0
      go_enter Tryd.func15, Tryd.ntmps15
      go_wp2
      go_ret2
      exact ⟨ret_num HE.out.symm, Below.refl _ _⟩
    · have hpos : 0 < s.size := by omega
      obtain ⟨b, hb⟩ : ∃ b, b = byteAt s 0 := ⟨_, rfl⟩
      have hx2 : ((s[0]'hpos).toNat : Nat) = b := by rw [hb, byteAt_get s 0 hpos]
      by_cases h1 : 1 < s.size ∧ b = 48
      · obtain ⟨h1, hb48⟩ := h1
        have e : numZ s = (0, false) := by unfold numZ; rw [if_pos (.inr (.inr ⟨h1, by rw [← hb]; exact hb48⟩))]
        have HE := Lib.hid e
        have q48 : ((b : Int) == 48) = true := by (simp <;> omega)
        clear e h0 hb hb48
        go_enter Tryd.func15, Tryd.ntmps15
        go_wp2
        go_ret2
        exact ⟨ret_num HE.out.symm, Below.refl _ _⟩
      · have e : numZ s = numFrom s s.size 0 0 := by
          unfold numZ
          rw [if_neg]
          rintro (h | h | h)
          · exact h0 h
          · exact h9 h
          · exact h1 ⟨h.1, by rw [hb]; exact h.2⟩
        have HE := Lib.hid e
        have hcs : s.size = 1 ∨ (2 ≤ s.size ∧ b ≠ 48) := by omega
        have hz9 : s.size ≤ 9 := by omega
        clear e h0 hb h1 h9
        rcases hcs with h1 | ⟨h1, h2⟩
        all_goals
          first
            | (have q1 : s.size ≤ 1 := by omega
               clear h1)
            | (have q48 : ((b : Int) == 48) = false := by (simp <;> omega)
               clear h2)
          go_enter Tryd.func15, Tryd.ntmps15
          go_wp2
          go_loopw [4, 6] (fun v _ wr => ∃ (pos fuel acc : Nat), v = .int .i64 acc ∧ wr.heap[w.heap.size]? = some (.stringIter s pos) ∧ Below w.heap.size w wr ∧ Hid (numFrom s fuel pos acc = numZ s) ∧ s.size ≤ pos + fuel ∧ pos ≤ s.size ∧ acc < 10 ^ pos) (fun _ _ wr => s.size - wr.iterPos w.heap.size)
          case atStart => exact ⟨0, s.size, 0, rfl, World.iter_heap w s 0, (Below.refl _ _).alloc (Nat.le_refl _) _, HE.out.symm, by omega, by omega, by simp⟩
          case round =>
            obtain ⟨pos, fuel, acc, rfl, hit, hbw, HS, hb, hps, hacc⟩ := hrel
            have hpos0 := iterPos_of hit
            have hacc9 := pow_nine pos acc (by omega) hacc
            by_cases hp : pos < s.size
            · have hnx : ∀ ty, (Instr.next (.pointer (some ⟨w.heap.size, 0, none⟩)) true ty).run Tryd.prog wr = _ := fun ty => Lib.run_next_any_at wr w.heap.size s pos ty hit hp
              have hwd := Lib.decode_width_pos s pos hp
              obtain ⟨fuel, rfl⟩ : ∃ f', fuel = f' + 1 := ⟨fuel - 1, by omega⟩
              have hit2 := Lib.iterAt_heap wr w.heap.size s pos (pos + (Utf8.decode s pos).2) hit
              have hbw2 := Lib.below_iterAt hbw (k := w.heap.size) (Nat.le_refl _) s (pos + (Utf8.decode s pos).2)
              obtain ⟨W1, hW1⟩ : ∃ W1, W1 = wr.iterAt w.heap.size s (pos + (Utf8.decode s pos).2) := ⟨_, rfl⟩
              rw [← hW1] at hnx hit2 hbw2
              have HHit := Lib.hid hit2
              have HBw := Lib.hid hbw2
              have HPos := Lib.hid hpos0
              have HAcc := Lib.hid hacc
              have hle := rune_le s pos
              have hra := rune_at s pos
              have hno : ¬ (48 ≤ (Utf8.decode s pos).1 ∧ (Utf8.decode s pos).1 ≤ 57) → numFrom s (fuel + 1) pos acc = (0, false) := fun h => numFrom_no s fuel pos acc hp (decide_eq_false (by
                rcases hra with ⟨h1, e⟩ | ⟨h1, h2⟩
                · rw [e] at h; exact h
                · omega))
              have hyes : (48 ≤ (Utf8.decode s pos).1 ∧ (Utf8.decode s pos).1 ≤ 57) → (Utf8.decode s pos).2 = 1 ∧ numFrom s (fuel + 1) pos acc = numFrom s fuel (pos + 1) (acc * 10 + ((Utf8.decode s pos).1 - 48)) := fun h => by
                rcases hra with ⟨h1, e⟩ | ⟨h1, h2⟩
                · rw [e] at h ⊢
                  exact ⟨rfl, numFrom_yes s fuel pos acc hp (decide_eq_true h)⟩
                · omega
              have HNo := Lib.hid hno
              have HYes := Lib.hid hyes
              clear hW1 hit hbw hit2 hbw2 hpos0 hno hyes hra hacc
              obtain ⟨c, hc⟩ : ∃ c, c = (Utf8.decode s pos).1 := ⟨_, rfl⟩
              obtain ⟨n, hn⟩ : ∃ n, n = (Utf8.decode s pos).2 := ⟨_, rfl⟩
              rw [← hc] at hnx hle HNo HYes
              rw [← hn] at hwd HHit HYes
              clear hc hn
              by_cases c1 : 48 ≤ c
              · by_cases c2 : c ≤ 57
                · have hy := HYes.out ⟨c1, c2⟩
                  have HY := Lib.hid hy.2
                  have hn1 := hy.1
                  rw [hn1] at HHit
                  clear hy HYes HNo hn1
                  go_wp2
                  go_roundw
                  case rel =>
                    exact ⟨pos + 1, fuel, acc * 10 + (c - 48), by go_num, HHit.out, HBw.out, by show _ = _; rw [← HS.out]; exact HY.out.symm, by omega, by omega, pow_step pos acc (c - 48) HAcc.out (by omega)⟩
                  case measure =>
                    rw [iterPos_of HHit.out, HPos.out]
                    omega
                · have HF := Lib.hid (HNo.out (by omega))
                  clear HNo HYes
                  go_wp2
                  go_ret2
                  exact ⟨ret_num (a := (0, false)) (by rw [← HS.out]; exact HF.out.symm), HBw.out⟩
              · have HF := Lib.hid (HNo.out (by omega))
                clear HNo HYes
                go_wp2
                go_ret2
                exact ⟨ret_num (a := (0, false)) (by rw [← HS.out]; exact HF.out.symm), HBw.out⟩
            · have hnx : ∀ ty, (Instr.next (.pointer (some ⟨w.heap.size, 0, none⟩)) true ty).run Tryd.prog wr = _ := fun ty => Lib.run_next_end_at wr w.heap.size s pos ty hit hp
              have e : numZ s = (acc, true) := by rw [← HS.out]; exact numFrom_end s fuel pos acc hp
              have HE2 := Lib.hid e
              have HBw := Lib.hid hbw
              clear e hbw
              go_wp2
              go_ret2
              exact ⟨ret_num (a := (acc, true)) HE2.out.symm, HBw.out⟩
end Go.Proofs.YtdchnllflodmkaaDoor
