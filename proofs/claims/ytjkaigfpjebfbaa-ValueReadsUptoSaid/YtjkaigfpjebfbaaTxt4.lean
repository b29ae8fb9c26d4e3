/- A number's decimal string: the plain law. -/
import Derived.Test.YtjkaigfpjebfbaaTxt3
namespace Go.Proofs.Ytjkaigfpjebfbaa
open Go.Lib
set_option linter.unusedVariables false

def Dec (s : ByteArray) (P r : Nat) : Prop := ∀ f acc, s.size ≤ f → numFrom s f 0 acc = (acc * P + r, true)
theorem dec_nil : Dec ByteArray.empty 1 0 := by
  intro f acc _
  rw [numFrom_end _ _ _ _ (by simp)]
  simp
theorem numFrom_shift (b s : ByteArray) (hb : b.size = 1) : ∀ (f i acc : Nat), numFrom (b ++ s) f (i + 1) acc = numFrom s f i acc
  | 0, i, acc => rfl
  | f + 1, i, acc => by
    have e : byteAt (b ++ s) (i + 1) = byteAt s i := by
      have := byteAt_right b s i
      rw [hb, Nat.add_comm] at this
      exact this
    have z : (b ++ s).size = 1 + s.size := by rw [app_size, hb]
    by_cases h : i < s.size
    · have h' : i + 1 < (b ++ s).size := by omega
      cases hd : digB (byteAt s i) with
      | false => rw [numFrom_no _ _ _ _ h hd, numFrom_no _ _ _ _ h' (by rw [e]; exact hd)]
      | true => rw [numFrom_yes _ _ _ _ h hd, numFrom_yes _ _ _ _ h' (by rw [e]; exact hd), e, numFrom_shift b s hb f (i + 1)]
    · rw [numFrom_end _ _ _ _ h, numFrom_end _ _ _ _ (by omega)]
theorem digB_dig (d : Nat) (hd : d ≤ 9) : digB (48 + d) = true := by
  unfold digB
  simp
  omega
theorem dec_cons (b s : ByteArray) (d P r : Nat) (hb : b.size = 1) (h0 : byteAt b 0 = 48 + d) (hd : d ≤ 9) (h : Dec s P r) : Dec (b ++ s) (10 * P) (d * P + r) := by
  intro f acc hf
  have z : (b ++ s).size = 1 + s.size := by rw [app_size, hb]
  obtain ⟨f, rfl⟩ : ∃ f', f = f' + 1 := ⟨f - 1, by omega⟩
  have e : byteAt (b ++ s) 0 = 48 + d := by rw [byteAt_left _ _ _ (by omega), h0]
  rw [numFrom_yes _ _ _ _ (by omega) (by rw [e]; exact digB_dig d hd), e, numFrom_shift b s hb, h _ _ (by omega)]
  have e1 : 48 + d - 48 = d := by omega
  rw [e1, Nat.add_mul, Nat.mul_assoc, Nat.add_assoc]
structure Inv (n k j : Nat) (s : ByteArray) : Prop where
  size : s.size = j
  val : ∃ r, n = k * 10 ^ j + r ∧ Dec s (10 ^ j) r
  nz : j = 0 ∨ 1 ≤ k
theorem Inv.start (n : Nat) : Inv n n 0 ByteArray.empty := ⟨rfl, ⟨0, by simp, by simpa using dec_nil⟩, .inl rfl⟩
theorem Inv.shift {n k j : Nat} {s : ByteArray} (h : Inv n k j s) (b : ByteArray) (hb : b.size = 1) (h0 : byteAt b 0 = 48 + k % 10) :
    ∃ r, n = (k / 10) * 10 ^ (j + 1) + r ∧ Dec (b ++ s) (10 ^ (j + 1)) r := by
  obtain ⟨r, hn, hd⟩ := h.val
  refine ⟨k % 10 * 10 ^ j + r, ?_, ?_⟩
  · rw [hn, ← Nat.add_assoc]
    congr 1
    rw [Nat.pow_succ, Nat.mul_comm (10 ^ j) 10, ← Nat.mul_assoc, ← Nat.add_mul]
    congr 1
    omega
  · rw [Nat.pow_succ, Nat.mul_comm (10 ^ j) 10]
    exact dec_cons b s (k % 10) _ r hb h0 (by omega) hd
theorem Inv.step {n k j : Nat} {s : ByteArray} (h : Inv n k j s) (b : ByteArray) (hb : b.size = 1) (h0 : byteAt b 0 = 48 + k % 10) (hk : 10 ≤ k) : Inv n (k / 10) (j + 1) (b ++ s) :=
  ⟨by rw [app_size, hb, h.size]; omega, h.shift b hb h0, .inr (by omega)⟩
theorem Inv.short {n k j : Nat} {s : ByteArray} (h : Inv n k j s) (hn : n < 1000000000) : j ≤ 8 := by
  obtain ⟨r, e, _⟩ := h.val
  apply Classical.byContradiction
  intro hj
  have h1 : 1 ≤ k := by rcases h.nz with h | h <;> omega
  have h2 : 10 ^ 9 ≤ 10 ^ j := Nat.pow_le_pow_right (by omega) (by omega)
  have h3 : 1 * 10 ^ j ≤ k * 10 ^ j := Nat.mul_le_mul_right _ h1
  omega
theorem Inv.last {n k j : Nat} {s : ByteArray} (h : Inv n k j s) (b : ByteArray) (hb : b.size = 1) (h0 : byteAt b 0 = 48 + k % 10) (hk : k < 10) (hn : n < 1000000000) :
    numZ (b ++ s) = (n, true) ∧ 1 ≤ (b ++ s).size ∧ (b ++ s).size ≤ 9 := by
  have hj := h.short hn
  have z : (b ++ s).size = 1 + j := by rw [app_size, hb, h.size]
  obtain ⟨r, e, hd⟩ := h.shift b hb h0
  have e0 : k / 10 = 0 := by omega
  rw [e0, Nat.zero_mul, Nat.zero_add] at e
  have e1 : byteAt (b ++ s) 0 = 48 + k % 10 := by rw [byteAt_left _ _ _ (by omega), h0]
  refine ⟨?_, by omega, by omega⟩
  unfold numZ
  rw [if_neg, hd _ _ (Nat.le_refl _), Nat.zero_mul, Nat.zero_add, e]
  rintro (h' | h' | ⟨h1, h2⟩)
  · omega
  · omega
  · have := h.nz
    omega
theorem no_zero (s : ByteArray) (h : 1 ≤ s.size) : numZ (ByteArray.mk #[48] ++ s) = (0, false) := by
  have z : (ByteArray.mk #[48] ++ s).size = 1 + s.size := app_size _ _
  unfold numZ
  rw [if_pos]
  refine .inr (.inr ⟨by omega, ?_⟩)
  rw [byteAt_left _ _ _ (by decide)]
  rfl
theorem no_minus (s : ByteArray) (h : 1 ≤ s.size) : numZ (ByteArray.mk #[45] ++ s) = (0, false) := by
  have z : (ByteArray.mk #[45] ++ s).size = 1 + s.size := app_size _ _
  unfold numZ
  split
  · rfl
  · rw [z, Nat.add_comm]
    exact numFrom_no _ _ _ _ (by omega) (by rw [byteAt_left _ _ _ (by decide)]; rfl)
theorem no_long (s : ByteArray) : numZ (s ++ ByteArray.mk #[48, 49, 50, 51, 52, 53, 54, 55, 56, 57]) = (0, false) := by
  have z : (s ++ ByteArray.mk #[48, 49, 50, 51, 52, 53, 54, 55, 56, 57]).size = s.size + 10 := app_size _ _
  unfold numZ
  rw [if_pos (.inr (.inl (by omega)))]
end Go.Proofs.Ytjkaigfpjebfbaa
