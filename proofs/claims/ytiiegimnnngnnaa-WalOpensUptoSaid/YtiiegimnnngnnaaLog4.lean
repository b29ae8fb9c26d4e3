/- wal: marks, numbers, areas. -/
import Derived.Test.YtiiegimnnngnnaaLog3
import Derived.BigQuiet
import Derived.Deep.QuietTactic
namespace Go.Proofs.Ytiiegimnnngnnaa
open Go.RowKit
set_option linter.unusedVariables false

theorem bit_is (x t : Nat) (hx : x < 256) : (bits .and .u8 ((x : Int) / 2 ^ t) 1 == 1) = x.testBit t := by
  have e1 : (x : Int) / 2 ^ t = ((x / 2 ^ t : Nat) : Int) := by rw [Int.natCast_ediv]; norm_cast
  have hlt : x / 2 ^ t < 256 := Nat.lt_of_le_of_lt (Nat.div_le_self _ _) hx
  have e2 := u8_and_nat (x / 2 ^ t) 1 hlt (by omega)
  rw [show ((1 : Nat) : Int) = 1 from rfl] at e2
  rw [e1, e2, nat_mask1, Nat.testBit_eq_decide_div_mod_eq]
  by_cases h : x / 2 ^ t % 2 = 1
  · rw [h]; rfl
  · have h2 : x / 2 ^ t % 2 = 0 := by omega
    rw [h2]; rfl
set_option maxRecDepth 100000 in
set_option maxHeartbeats 1000000 in
theorem marked_any (l g cap p : Nat) (L : Wl.Lg) (i : Nat) (w : World) (h : LogAt w l g cap p L) (hi : i ≤ 512) :
    Calls Try.prog 70 #[.pointer (some ⟨l, 0, none⟩), .int .i64 (i : Int)] w fun e w' => e = .returned (.bool (Wl.mk L.m 0 i)) ∧ w = w' := by
  have H := Lib.hid h
  by_cases h5 : i < 512
  · have k1 : w.cell? ⟨l, 3, none⟩ = some (.slice (some ⟨g, 0, none⟩) 64 cap) := h.blk.cell 3
    obtain ⟨q, hq⟩ : ∃ q, q = i / 8 := ⟨_, rfl⟩
    obtain ⟨x, hx⟩ : ∃ x, x = L.m q := ⟨_, rfl⟩
    have hx8 : x < 256 := by rw [hx]; exact h.mlt _
    have k2 : w.cell? ⟨g, i / 8, none⟩ = some (.int .u8 (x : Int)) := by rw [hx, hq]; exact h.marks.cell (by omega)
    have i1 : (0 : Int) ≤ (i : Int) / 8 := by omega
    have i2 : (i : Int) / 8 < 64 := by omega
    clear h
    go_enter Try.func70, Try.ntmps70
    go_wp2_with fail
    go_ret
    refine ⟨ret_bool ?_, rfl⟩
    unfold Wl.mk
    rw [Nat.mul_zero, Nat.zero_add, decide_eq_true h5, Bool.true_and]
    exact bit_is _ _ (H.out.mlt _)
  · obtain rfl : i = 512 := by omega
    have e : Wl.mk L.m 0 512 = false := rfl
    rw [e]
    clear h
    go_enter Try.func70, Try.ntmps70
    go_wp2_with fail
    go_ret
    exact ⟨rfl, rfl⟩
theorem or_add {t a b : Nat} (h : b < 2 ^ t) : a * 2 ^ t ||| b = a * 2 ^ t + b := by
  rw [Nat.mul_comm]
  exact (Nat.two_pow_add_eq_or_of_lt h a).symm
set_option maxRecDepth 100000 in
set_option maxHeartbeats 1000000 in
theorem get32_any (g o n c : Nat) (bs : List Nat) (w : World) (hb : Bytes w (some ⟨g, o, none⟩) n bs) (h4 : 4 ≤ n) :
    Calls Try.prog 77 #[.slice (some ⟨g, o, none⟩) n c] w fun e w' => e = .returned (.int .u32 ((Wl.num (fun k => bs.getD k 0) 0 : Nat) : Int)) ∧ Below w.heap.size w w' := by
  obtain ⟨b, o', e, hbl, hc⟩ := hb.2.2 (by omega)
  cases e
  have c0 : w.cell? ⟨g, o, none⟩ = some (.int .u8 ((bs.getD 0 0 : Nat) : Int)) := hc 0 (by omega)
  have c1 : w.cell? ⟨g, o + 1, none⟩ = some (.int .u8 ((bs.getD 1 0 : Nat) : Int)) := hc 1 (by omega)
  have c2 : w.cell? ⟨g, o + 2, none⟩ = some (.int .u8 ((bs.getD 2 0 : Nat) : Int)) := hc 2 (by omega)
  have c3 : w.cell? ⟨g, o + 3, none⟩ = some (.int .u8 ((bs.getD 3 0 : Nat) : Int)) := hc 3 (by omega)
  simp only [Wl.num, Nat.zero_add]
  have h0 := hb.lt 0
  have h1 := hb.lt 1
  have h2 := hb.lt 2
  have h3 := hb.lt 3
  generalize bs.getD 0 0 = x0 at *
  generalize bs.getD 1 0 = x1 at *
  generalize bs.getD 2 0 = x2 at *
  generalize bs.getD 3 0 = x3 at *
  have i0 : (0 : Int) < (n : Int) := by omega
  have i1 : (1 : Int) < (n : Int) := by omega
  have i2 : (2 : Int) < (n : Int) := by omega
  have i3 : (3 : Int) < (n : Int) := by omega
  clear hc hb hbl
  go_enter Try.func77, Try.ntmps77
  go_wp2_with fail
  go_quiet (fail)
  go_wp2_with fail
  go_ret
  refine ⟨ret_int ?_, ⟨rfl, rfl, rfl, Nat.le_refl _, fun _ _ => rfl⟩⟩
  have e0 : ((x0 : Int) * 16777216) = ((x0 * 16777216 : Nat) : Int) := by omega
  have e1 : ((x1 : Int) * 65536) = ((x1 * 65536 : Nat) : Int) := by omega
  have e2 : ((x2 : Int) * 256) = ((x2 * 256 : Nat) : Int) := by omega
  rw [e0, e1, e2, u32_or_nat _ _ (by omega) (by omega), or_add (t := 24) (a := x0) (b := x1 * 65536) (by omega), u32_or_nat _ _ (by omega) (by omega)]
  rw [show x0 * 2 ^ 24 + x1 * 65536 = (x0 * 256 + x1) * 2 ^ 16 by omega, or_add (t := 16) (by omega), u32_or_nat _ _ (by omega) (by omega)]
  rw [show (x0 * 256 + x1) * 2 ^ 16 + x2 * 256 = ((x0 * 256 + x1) * 256 + x2) * 2 ^ 8 by omega, or_add (t := 8) (by omega)]
end Go.Proofs.Ytiiegimnnngnnaa
