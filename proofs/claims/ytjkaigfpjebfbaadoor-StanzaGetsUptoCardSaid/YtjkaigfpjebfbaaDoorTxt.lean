/- Texts: the plain law. No program is named here. -/
import Derived.Lib.DecodeN
import Derived.Lib.RuneCount
import Derived.Lib.FieldsU
import Derived.Lib.QuoteLoop
namespace Go.Proofs.YtjkaigfpjebfbaaDoor
open Go.Lib
set_option linter.unusedVariables false

def byteAt (s : ByteArray) (i : Nat) : Nat := (s.get! i).toNat
theorem byteAt_lt (s : ByteArray) (i : Nat) : byteAt s i < 256 := (s.get! i).toNat_lt
theorem byteAt_get (s : ByteArray) (i : Nat) (h : i < s.size) : byteAt s i = (s[i]'h).toNat := by
  cases s with
  | mk bs =>
    have hb : i < bs.size := h
    show (bs[i]!).toNat = (bs[i]'hb).toNat
    rw [getElem!_pos bs i hb]
theorem byteAt_out (s : ByteArray) (i : Nat) (h : ¬ i < s.size) : byteAt s i = 0 := by
  cases s with
  | mk bs =>
    have h' : ¬ i < bs.size := h
    show (bs[i]!).toNat = 0
    rw [getElem!_neg bs i h']; rfl
/-- Is there no good character at a place? -/
def stopP (s : ByteArray) (i : Nat) : Prop := ((Utf8.decode s i).1 = 65533 ∧ (Utf8.decode s i).2 = 1) ∨ ((Utf8.decode s i).1 < 32 ∧ (Utf8.decode s i).1 ≠ 9) ∨ (Utf8.decode s i).1 = 127
instance (s : ByteArray) (i : Nat) : Decidable (stopP s i) := by unfold stopP; infer_instance
def stop (s : ByteArray) (i : Nat) : Bool := decide (stopP s i)
def goodFrom (s : ByteArray) : Nat → Nat → Int
  | 0, _ => -1
  | f + 1, i => if i < s.size then (if stop s i then (i : Int) else goodFrom s f (i + (Utf8.decode s i).2)) else -1
def goodZ (s : ByteArray) : Int := goodFrom s s.size 0
theorem goodFrom_end (s : ByteArray) (f i : Nat) (h : ¬ i < s.size) : goodFrom s f i = -1 := by cases f <;> simp [goodFrom, h]
/-- How wide the character at a place is, by its shortest form; 0: none. -/
def sizeN (n b0 b1 b2 b3 : Nat) : Nat := if (decodeN n b0 b1 b2 b3).1 = 65533 ∧ (decodeN n b0 b1 b2 b3).2 = 1 then 0 else (decodeN n b0 b1 b2 b3).2
def sizeAt (s : ByteArray) (i : Nat) : Nat := sizeN (s.size - i) (byteAt s i) (byteAt s (i + 1)) (byteAt s (i + 2)) (byteAt s (i + 3))
theorem sizeAt_eq (s : ByteArray) (i : Nat) : sizeAt s i = if (Utf8.decode s i).1 = 65533 ∧ (Utf8.decode s i).2 = 1 then 0 else (Utf8.decode s i).2 := by
  unfold sizeAt sizeN
  rw [decode_at]
  rfl
def atB (s : ByteArray) (i lo hi : Nat) : Bool := decide (i < s.size) && decide (lo ≤ byteAt s i) && decide (byteAt s i ≤ hi)
set_option maxHeartbeats 4000000 in
set_option maxRecDepth 100000 in
theorem decodeN_low (n b0 b1 b2 b3 : Nat) (h : (decodeN n b0 b1 b2 b3).1 < 128) : b0 < 128 := by
  unfold decodeN at h
  repeat' split at h
  all_goals (simp only at h; omega)
theorem decodeN_ascii (n b0 b1 b2 b3 : Nat) (h : b0 < 128) : decodeN n b0 b1 b2 b3 = (b0, 1) := by
  unfold decodeN; rw [if_pos h]
/-- The reference's test is the same. -/
theorem stop_ref (s : ByteArray) (i : Nat) (h : i < s.size) : stopP s i ↔ (sizeAt s i = 0 ∨ (byteAt s i < 32 ∧ byteAt s i ≠ 9) ∨ byteAt s i = 127) := by
  have hd : Utf8.decode s i = decodeN (s.size - i) (byteAt s i) (byteAt s (i + 1)) (byteAt s (i + 2)) (byteAt s (i + 3)) := decode_at s i
  have hw : 1 ≤ (Utf8.decode s i).2 := decode_width_pos s i h
  rw [sizeAt_eq]
  unfold stopP
  by_cases hb : byteAt s i < 128
  · have e : Utf8.decode s i = (byteAt s i, 1) := by rw [hd, decodeN_ascii _ _ _ _ _ hb]
    rw [e, if_neg (by simp only; omega)]
    simp only
    omega
  · have h1 : ¬ (Utf8.decode s i).1 < 128 := fun hh => hb (decodeN_low _ _ _ _ _ (hd ▸ hh))
    by_cases hbad : (Utf8.decode s i).1 = 65533 ∧ (Utf8.decode s i).2 = 1
    · rw [if_pos hbad]; simp [hbad.1, hbad.2]
    · rw [if_neg hbad]
      omega
theorem sizeAt_step (s : ByteArray) (i : Nat) (h : stop s i = false) : sizeAt s i = (Utf8.decode s i).2 := by
  rw [sizeAt_eq, if_neg]
  intro h1
  unfold stop at h
  exact of_decide_eq_false h (.inl h1)
set_option maxHeartbeats 4000000 in
set_option maxRecDepth 100000 in
theorem sizeN_slow (n b0 b1 b2 b3 sz lo hi : Nat) (hsz : 2 ≤ sz ∧ sz ≤ 4) (h : slowN n b0 b1 b2 b3 sz lo hi = decodeN n b0 b1 b2 b3) :
    sizeN n b0 b1 b2 b3 = if sz ≤ n ∧ lo ≤ b1 ∧ b1 ≤ hi ∧ (sz ≤ 2 ∨ (128 ≤ b2 ∧ b2 ≤ 191)) ∧ (sz ≤ 3 ∨ (128 ≤ b3 ∧ b3 ≤ 191)) then sz else 0 := by
  unfold sizeN
  rw [← h]
  unfold slowN
  by_cases h1 : n < sz
  · rw [if_pos h1, if_pos ⟨rfl, rfl⟩, if_neg (by omega)]
  · rw [if_neg h1]
    by_cases h2 : b1 < lo ∨ hi < b1
    · rw [if_pos h2, if_pos ⟨rfl, rfl⟩, if_neg (by omega)]
    · rw [if_neg h2]
      by_cases h3 : sz ≤ 2
      · rw [if_pos h3, if_neg (by simp), if_pos (by omega)]
        simp only; omega
      · rw [if_neg h3]
        by_cases h4 : b2 < 128 ∨ 191 < b2
        · rw [if_pos h4, if_pos ⟨rfl, rfl⟩, if_neg (by omega)]
        · rw [if_neg h4]
          by_cases h5 : sz ≤ 3
          · rw [if_pos h5, if_neg (by simp), if_pos (by omega)]
            simp only; omega
          · rw [if_neg h5]
            by_cases h6 : b3 < 128 ∨ 191 < b3
            · rw [if_pos h6, if_pos ⟨rfl, rfl⟩, if_neg (by omega)]
            · rw [if_neg h6, if_neg (by simp), if_pos (by omega)]
              simp only; omega
theorem size_at (s : ByteArray) (sz lo hi : Nat) (hs : 0 < s.size) (hsz : 2 ≤ sz ∧ sz ≤ 4) (hlo : 1 ≤ lo) (h : slowN s.size (byteAt s 0) (byteAt s 1) (byteAt s 2) (byteAt s 3) sz lo hi = decodeN s.size (byteAt s 0) (byteAt s 1) (byteAt s 2) (byteAt s 3)) :
    sizeAt s 0 = if (atB s 1 lo hi && (decide (sz ≤ 2) || atB s 2 128 191) && (decide (sz ≤ 3) || atB s 3 128 191)) = true then sz else 0 := by
  unfold sizeAt
  rw [Nat.sub_zero, Nat.zero_add, Nat.zero_add, Nat.zero_add, sizeN_slow _ _ _ _ _ _ _ _ hsz h]
  have o1 := byteAt_out s 1
  have o2 := byteAt_out s 2
  have o3 := byteAt_out s 3
  unfold atB
  simp only [Bool.and_eq_true, Bool.or_eq_true, decide_eq_true_eq]
  generalize byteAt s 1 = b1 at *
  generalize byteAt s 2 = b2 at *
  generalize byteAt s 3 = b3 at *
  apply ite_congr _ (fun _ => rfl) (fun _ => rfl)
  apply propext
  omega
theorem size_bad (s : ByteArray) (hs : 0 < s.size) (h : (128 ≤ byteAt s 0 ∧ byteAt s 0 < 194) ∨ 245 ≤ byteAt s 0) : sizeAt s 0 = 0 := by
  have h3 := byteAt_lt s 0
  have h4 := byteAt_lt s 1
  have h5 := byteAt_lt s 2
  have h6 := byteAt_lt s 3
  unfold sizeAt sizeN
  rw [Nat.sub_zero, Nat.zero_add, Nat.zero_add, Nat.zero_add, if_pos]
  generalize byteAt s 0 = b0 at *
  generalize byteAt s 1 = b1 at *
  generalize byteAt s 2 = b2 at *
  generalize byteAt s 3 = b3 at *
  have e : decodeN s.size b0 b1 b2 b3 = (65533, 1) := by
    unfold decodeN
    repeat' split
    all_goals first | rfl | (exfalso; omega)
  rw [e]; exact ⟨rfl, rfl⟩
theorem size_ascii (s : ByteArray) (hs : 0 < s.size) (h : byteAt s 0 < 128) : sizeAt s 0 = 1 := by
  unfold sizeAt sizeN
  rw [Nat.sub_zero, decodeN_ascii _ _ _ _ _ h, if_neg]
  simp only; omega
theorem decode_in (s : ByteArray) (i : Nat) (h : i < s.size) : i + (Utf8.decode s i).2 ≤ s.size := by
  rw [decode_at]
  have := decodeN_width_le (s.size - i) (s.get! i).toNat (s.get! (i + 1)).toNat (s.get! (i + 2)).toNat (s.get! (i + 3)).toNat (by omega)
  omega
end Go.Proofs.YtjkaigfpjebfbaaDoor
