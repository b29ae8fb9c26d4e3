/- The reference's Marked. -/
import Derived.Test.YtiiegimnnngnnaaLog8
import Derived.Test.YtiiegimnnngnnaaWl8
namespace Go.Proofs.Ytiiegimnnngnnaa
open Go.RowKit
set_option linter.unusedVariables false

set_option maxRecDepth 100000 in
set_option maxHeartbeats 1000000 in
theorem RefMarked_any (g o c : Nat) (Q : Nat → Nat) (w : World) (hy : Bytes w (some ⟨g, o, none⟩) 64 (Wl.part Q 0 64)) :
    Calls Try.prog 74 #[.slice (some ⟨g, o, none⟩) 64 c] w fun e w' => (∃ n, Wl.Lead Q n ∧ e = .returned (.int .i64 (n : Int))) ∧ w = w' := by
  obtain ⟨b, o', e, hbl, hc⟩ := hy.2.2 (by omega)
  cases e
  have HC : Hid (∀ i, i < 64 → w.cell? ⟨g, o + i, none⟩ = some (.int .u8 ((Q i : Nat) : Int)) ∧ Q i < 256) := Lib.hid fun i hi => by
    have h1 := hc i hi
    rw [Wl.part_getD _ _ _ _ hi, Nat.zero_add] at h1
    have h2 := hy.lt i
    rw [Wl.part_getD _ _ _ _ hi, Nat.zero_add] at h2
    exact ⟨h1, h2⟩
  clear hc hy hbl
  go_enter Try.func74, Try.ntmps74
  go_wp2_with fail
  go_loopw [3] (fun a wr => ∃ i : Nat, a = .int .i64 (i : Int) ∧ i ≤ 512 ∧ Hid (∀ j, j < i → Wl.mk Q 0 j = true) ∧ w = wr) (fun a _ => 512 - (match a with | .int _ x => x.toNat | _ => 0))
  case atStart => exact ⟨0, rfl, by omega, Lib.hid fun j hj => by omega, rfl⟩
  case round =>
    obtain ⟨i, rfl, hi, HM, rfl⟩ := hrel
    by_cases h5 : i < 512
    · obtain ⟨q, hq⟩ : ∃ q, q = i / 8 := ⟨_, rfl⟩
      obtain ⟨k2, hx8⟩ := HC.out (i / 8) (by omega)
      obtain ⟨x, hx⟩ : ∃ x, x = Q (i / 8) := ⟨_, rfl⟩
      rw [← hx] at k2 hx8
      have i1 : (0 : Int) ≤ (i : Int) / 8 := by omega
      have i2 : (i : Int) / 8 < 64 := by omega
      have i3 : (i : Int) < 512 := by omega
      have hbit := bit_is x (7 - i % 8) hx8
      have hmk : Wl.mk Q 0 i = x.testBit (7 - i % 8) := by
        unfold Wl.mk
        rw [Nat.mul_zero, Nat.zero_add, decide_eq_true h5, Bool.true_and, ← hx]
      rw [← hmk] at hbit
      obtain ⟨bm, hbm⟩ : ∃ bm, bm = Wl.mk Q 0 i := ⟨_, rfl⟩
      rw [← hbm] at hbit
      have HBM := Lib.hid hbm
      clear hmk hbm hx hq
      cases bm with
      | true =>
        go_wp2_with fail
        refine ⟨⟨i + 1, by go_num, by omega, Lib.hid fun j hj => ?_, by first | rfl | trivial⟩, ?_⟩
        · by_cases e : j = i
          · rw [e]; exact HBM.out.symm
          · exact HM.out j (by omega)
        · show 512 - ((i : Int) + 1).toNat < 512 - (i : Int).toNat
          omega
      | false =>
        go_wp2_with fail
        go_ret
        exact ⟨⟨i, ⟨hi, HM.out, HBM.out.symm⟩, rfl⟩, rfl⟩
    · obtain rfl : i = 512 := by omega
      go_wp2_with fail
      go_ret
      exact ⟨⟨512, ⟨Nat.le_refl _, HM.out, rfl⟩, rfl⟩, rfl⟩
theorem i64_or_nat (a b : Nat) (ha : a < 9223372036854775808) (hb : b < 9223372036854775808) : bits .or .i64 (a : Int) (b : Int) = ((a ||| b : Nat) : Int) := by
  have hx : a ||| b < 2 ^ 63 := Nat.or_lt_two_pow (by omega) (by omega)
  have e : ∀ a : Nat, a < 9223372036854775808 → (BitVec.ofInt 64 (a : Int)).toNat = a := fun a ha => by
    rw [BitVec.ofInt_natCast, BitVec.toNat_ofNat]; exact Nat.mod_eq_of_lt (by omega)
  show IntKind.i64.wrap ((BitVec.ofInt 64 (a : Int) ||| BitVec.ofInt 64 (b : Int)).toNat : Int) = _
  rw [BitVec.toNat_or, e a ha, e b hb, IntKind.wrap_i64]
  omega
theorem num_i64 (x0 x1 x2 x3 : Nat) (h0 : x0 < 256) (h1 : x1 < 256) (h2 : x2 < 256) (h3 : x3 < 256) :
    bits .or .i64 (bits .or .i64 (bits .or .i64 ((x0 : Int) * 16777216) ((x1 : Int) * 65536)) ((x2 : Int) * 256)) (x3 : Int) = ((x0 * 16777216 + x1 * 65536 + x2 * 256 + x3 : Nat) : Int) := by
  have e0 : ((x0 : Int) * 16777216) = ((x0 * 16777216 : Nat) : Int) := by omega
  have e1 : ((x1 : Int) * 65536) = ((x1 * 65536 : Nat) : Int) := by omega
  have e2 : ((x2 : Int) * 256) = ((x2 * 256 : Nat) : Int) := by omega
  rw [e0, e1, e2, i64_or_nat _ _ (by omega) (by omega), or_add (t := 24) (a := x0) (b := x1 * 65536) (by omega), i64_or_nat _ _ (by omega) (by omega)]
  rw [show x0 * 2 ^ 24 + x1 * 65536 = (x0 * 256 + x1) * 2 ^ 16 by omega, or_add (t := 16) (by omega), i64_or_nat _ _ (by omega) (by omega)]
  rw [show (x0 * 256 + x1) * 2 ^ 16 + x2 * 256 = ((x0 * 256 + x1) * 256 + x2) * 2 ^ 8 by omega, or_add (t := 8) (by omega)]
end Go.Proofs.Ytiiegimnnngnnaa
