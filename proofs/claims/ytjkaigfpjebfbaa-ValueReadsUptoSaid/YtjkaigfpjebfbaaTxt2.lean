/- Names and numbers: the plain law. -/
import Derived.Test.YtjkaigfpjebfbaaTxt
namespace Go.Proofs.Ytjkaigfpjebfbaa
open Go.Lib
set_option linter.unusedVariables false

def nameOkP (i b : Nat) : Prop := (97 ≤ b ∧ b ≤ 122) ∨ (48 ≤ b ∧ b ≤ 57) ∨ (0 < i ∧ (b = 43 ∨ b = 45 ∨ b = 46))
instance (i b : Nat) : Decidable (nameOkP i b) := by unfold nameOkP; infer_instance
def nameOk (i b : Nat) : Bool := decide (nameOkP i b)
def nameFrom (s : ByteArray) : Nat → Nat → Bool
  | 0, _ => true
  | f + 1, i => if i < s.size then (nameOk i (byteAt s i) && nameFrom s f (i + 1)) else true
def nameB (s : ByteArray) : Bool := decide (2 ≤ s.size) && decide (s.size ≤ 24) && nameFrom s s.size 0
theorem nameFrom_end (s : ByteArray) (f i : Nat) (h : ¬ i < s.size) : nameFrom s f i = true := by cases f <;> simp [nameFrom, h]
theorem nameFrom_no (s : ByteArray) (f i : Nat) (h : i < s.size) (hn : nameOk i (byteAt s i) = false) : nameFrom s (f + 1) i = false := by simp [nameFrom, h, hn]
theorem nameFrom_yes (s : ByteArray) (f i : Nat) (h : i < s.size) (hn : nameOk i (byteAt s i) = true) : nameFrom s (f + 1) i = nameFrom s f (i + 1) := by simp [nameFrom, h, hn]
def digB (b : Nat) : Bool := decide (48 ≤ b ∧ b ≤ 57)
/-- The decimals from a place on, behind the number acc. -/
def numFrom (s : ByteArray) : Nat → Nat → Nat → Nat × Bool
  | 0, _, acc => (acc, true)
  | f + 1, i, acc => if i < s.size then (if digB (byteAt s i) then numFrom s f (i + 1) (acc * 10 + (byteAt s i - 48)) else (0, false)) else (acc, true)
def numZ (s : ByteArray) : Nat × Bool := if s.size = 0 ∨ 9 < s.size ∨ (1 < s.size ∧ byteAt s 0 = 48) then (0, false) else numFrom s s.size 0 0
theorem numFrom_end (s : ByteArray) (f i acc : Nat) (h : ¬ i < s.size) : numFrom s f i acc = (acc, true) := by cases f <;> simp [numFrom, h]
theorem numFrom_no (s : ByteArray) (f i acc : Nat) (h : i < s.size) (hn : digB (byteAt s i) = false) : numFrom s (f + 1) i acc = (0, false) := by simp [numFrom, h, hn]
theorem numFrom_yes (s : ByteArray) (f i acc : Nat) (h : i < s.size) (hn : digB (byteAt s i) = true) : numFrom s (f + 1) i acc = numFrom s f (i + 1) (acc * 10 + (byteAt s i - 48)) := by simp [numFrom, h, hn]
/-- The rune at a place: the byte, where it is an ASCII one; else nothing that a name or a number has. -/
theorem rune_at (s : ByteArray) (i : Nat) : (byteAt s i < 128 ∧ Utf8.decode s i = (byteAt s i, 1)) ∨ (128 ≤ byteAt s i ∧ 128 ≤ (Utf8.decode s i).1) := by
  have hd : Utf8.decode s i = decodeN (s.size - i) (byteAt s i) (byteAt s (i + 1)) (byteAt s (i + 2)) (byteAt s (i + 3)) := decode_at s i
  by_cases hb : byteAt s i < 128
  · exact .inl ⟨hb, by rw [hd, decodeN_ascii _ _ _ _ _ hb]⟩
  · refine .inr ⟨by omega, ?_⟩
    rcases Nat.lt_or_ge (Utf8.decode s i).1 128 with h | h
    · exact absurd (decodeN_low _ _ _ _ _ (hd ▸ h)) hb
    · exact h
theorem rune_le (s : ByteArray) (i : Nat) : (Utf8.decode s i).1 ≤ 1114111 := by
  have hd : Utf8.decode s i = decodeN (s.size - i) (byteAt s i) (byteAt s (i + 1)) (byteAt s (i + 2)) (byteAt s (i + 3)) := decode_at s i
  rw [hd]
  have := decodeN_valid (s.size - i) (byteAt s i) (byteAt s (i + 1)) (byteAt s (i + 2)) (byteAt s (i + 3)) (byteAt_lt s i)
  omega
/-- A rune of a name. -/
theorem name_rune (s : ByteArray) (i : Nat) : nameOk i (byteAt s i) = decide (nameOkP i (Utf8.decode s i).1) := by
  unfold nameOk
  rcases rune_at s i with ⟨h, e⟩ | ⟨h1, h2⟩
  · rw [e]
  · rw [decide_eq_false, decide_eq_false]
    · unfold nameOkP; omega
    · unfold nameOkP; omega
end Go.Proofs.Ytjkaigfpjebfbaa
