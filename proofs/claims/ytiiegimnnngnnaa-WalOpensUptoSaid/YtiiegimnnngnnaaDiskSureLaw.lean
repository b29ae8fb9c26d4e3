/- DiskSure: the plain law. -/
import Derived.Test.YtiiegimnnngnnaaDiskFusesWalk
namespace Go.Proofs.Ytiiegimnnngnnaa
open Go.RowKit

theorem mix_bit (x y q i : Nat) (hx : x < 256) (hy : y < 256) (hq : q < 256) : (Dk.mix x y q).testBit i = if q.testBit i then x.testBit i else y.testBit i := by
  unfold Dk.mix
  rw [Nat.testBit_or, Nat.testBit_and, Nat.testBit_and, show 255 - q = 2 ^ 8 - (q + 1) by omega, Nat.testBit_two_pow_sub_succ (by omega)]
  by_cases h : i < 8
  · simp only [h, decide_true, Bool.true_and]
    cases q.testBit i <;> simp
  · have hp : 256 ≤ 2 ^ i := Nat.pow_le_pow_right (n := 2) (by omega) (show 8 ≤ i by omega)
    rw [Nat.testBit_lt_two_pow (show x < 2 ^ i by omega), Nat.testBit_lt_two_pow (show y < 2 ^ i by omega)]
    simp
theorem mix_pick (z y q : Nat) (hz : z < 256) (hy : y < 256) (hq : q < 256) : (Dk.mix z y q ^^^ y) &&& (Dk.mix z y q ^^^ z) = 0 := by
  apply Nat.eq_of_testBit_eq
  intro i
  rw [Nat.testBit_and, Nat.testBit_xor, Nat.testBit_xor, mix_bit z y q i hz hy hq, Nat.zero_testBit]
  cases q.testBit i <;> simp
namespace Dk
theorem write_R_other (D : Dk) (a i k : Nat) (L : List Nat) (hk : k < 64) (hi : i ≠ a) : (D.write (a : Int) L).R (64 * i + k) = D.R (64 * i + k) := by
  unfold write
  split
  · dsimp only
    unfold lay
    rw [if_neg]
    rw [Int.toNat_natCast]
    omega
  · rw [tick_R]
theorem crash_other (D : Dk) (a i k : Nat) (L ps : List Nat) (hS : D.S = D.R) (hk : k < 64) (hi : i ≠ a) : ((D.write (a : Int) L).crash ps).R (64 * i + k) = D.R (64 * i + k) := by
  show (D.write (a : Int) L).crashR ps _ = _
  unfold crashR
  have hd : (64 * i + k) / 64 = i := by omega
  rw [hd, if_pos, write_R_other D a i k L hk hi]
  rw [same_iff]
  intro j hj
  rw [write_R_other D a i j L hj hi, write_S, hS]
theorem sector_other (D : Dk) (a i : Nat) (L ps : List Nat) (hS : D.S = D.R) (hi : i ≠ a) : ((D.write (a : Int) L).crash ps).sector i = D.sector i := by
  unfold sector
  apply List.map_congr_left
  intro k hk
  exact crash_other D a i k L ps hS (List.mem_range.1 hk) hi
theorem crash_at (D : Dk) (a k : Nat) (L ps : List Nat) (hok : D.Ok) (hS : D.S = D.R) (hd : D.down = false) (ha : a < D.n) (hL : L.length = 64) (hb : ∀ x ∈ L, x < 256) (hp : ∀ x ∈ ps, x < 256) (hk : k < 64) :
    (((D.write (a : Int) L).crash ps).R (64 * a + k) ^^^ D.R (64 * a + k)) &&& (((D.write (a : Int) L).crash ps).R (64 * a + k) ^^^ L.getD k 0) = 0 := by
  have hR : (D.write (a : Int) L).R (64 * a + k) = L.getD k 0 := by
    unfold write
    rw [if_pos]
    · dsimp only
      unfold lay
      rw [Int.toNat_natCast, if_pos (by omega), show 64 * a + k - 64 * a = k by omega]
    · unfold may; rw [hd, hL]; simp; omega
  have hX : ((D.write (a : Int) L).crash ps).R (64 * a + k) = (D.write (a : Int) L).crashR ps (64 * a + k) := rfl
  rw [hX]
  unfold crashR
  have hdv : (64 * a + k) / 64 = a := by omega
  rw [hdv]
  by_cases hs : (D.write (a : Int) L).same a = true
  · rw [if_pos hs, (same_iff _ _).1 hs k hk, write_S, hS, Nat.xor_self, Nat.zero_and]
  · rw [if_neg hs, write_S, hS, hR]
    exact mix_pick _ _ _ (getD_lt hb k) (hok.R _) (getD_lt hp _)
end Dk
end Go.Proofs.Ytiiegimnnngnnaa
