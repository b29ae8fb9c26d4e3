/- Words: the plain law: Go's spans by runes are the spans by bytes. -/
import Derived.Test.YtjkaigfpjebfbaaTxt4
import Derived.Lib.FieldsP
namespace Go.Proofs.Ytjkaigfpjebfbaa
open Go.Lib
set_option linter.unusedVariables false

def wB (c : Nat) : Bool := c == 32 || c == 9
theorem wB_yes {c : Nat} (h : c = 32 ∨ c = 9) : wB c = true := by unfold wB; rcases h with rfl | rfl <;> rfl
theorem wB_no {c : Nat} (h : c ≠ 32 ∧ c ≠ 9) : wB c = false := by unfold wB; simp [h.1, h.2]
theorem wB_high {c : Nat} (h : 128 ≤ c) : wB c = false := wB_no (by omega)
def bspans (s : ByteArray) : Nat → Nat → Option Nat → List (Nat × Nat) → List (Nat × Nat) × Option Nat
  | 0, _, st, acc => (acc, st)
  | f + 1, pos, st, acc =>
    if wB (byteAt s pos) then
      (match st with
       | some a => bspans s f (pos + 1) none (acc ++ [(a, pos)])
       | none => bspans s f (pos + 1) none acc)
    else bspans s f (pos + 1) (some (st.getD pos)) acc
/-- The spans from a place on. -/
def W (s : ByteArray) (pos : Nat) (st : Option Nat) (acc : List (Nat × Nat)) : List (Nat × Nat) × Option Nat := bspans s (s.size - pos) pos st acc
theorem W_end (s : ByteArray) (pos : Nat) (st : Option Nat) (acc : List (Nat × Nat)) (h : s.size ≤ pos) : W s pos st acc = (acc, st) := by
  unfold W
  rw [show s.size - pos = 0 by omega]
  rfl
theorem W_step (s : ByteArray) (pos : Nat) (st : Option Nat) (acc : List (Nat × Nat)) (h : pos < s.size) :
    W s pos st acc = if wB (byteAt s pos) then (match st with
       | some a => W s (pos + 1) none (acc ++ [(a, pos)])
       | none => W s (pos + 1) none acc)
    else W s (pos + 1) (some (st.getD pos)) acc := by
  unfold W
  obtain ⟨f, hf⟩ : ∃ f, s.size - pos = f + 1 := ⟨s.size - pos - 1, by omega⟩
  have hf' : s.size - (pos + 1) = f := by omega
  rw [hf, hf']
  rfl
theorem W_white_none (s : ByteArray) (pos : Nat) (acc : List (Nat × Nat)) (h : pos < s.size) (hw : wB (byteAt s pos) = true) : W s pos none acc = W s (pos + 1) none acc := by
  rw [W_step _ _ _ _ h, if_pos hw]
theorem W_white_some (s : ByteArray) (pos a : Nat) (acc : List (Nat × Nat)) (h : pos < s.size) (hw : wB (byteAt s pos) = true) : W s pos (some a) acc = W s (pos + 1) none (acc ++ [(a, pos)]) := by
  rw [W_step _ _ _ _ h, if_pos hw]
theorem W_ink (s : ByteArray) (pos : Nat) (st : Option Nat) (acc : List (Nat × Nat)) (h : pos < s.size) (hw : wB (byteAt s pos) = false) : W s pos st acc = W s (pos + 1) (some (st.getD pos)) acc := by
  rw [W_step _ _ _ _ h, hw]
  rfl
theorem W_skip (s : ByteArray) (a : Nat) (acc : List (Nat × Nat)) : ∀ (n pos : Nat), (∀ j, j < n → pos + j < s.size ∧ 128 ≤ byteAt s (pos + j)) → W s pos (some a) acc = W s (pos + n) (some a) acc
  | 0, pos, _ => rfl
  | n + 1, pos, h => by
    have h0 := h 0 (by omega)
    rw [Nat.add_zero] at h0
    rw [W_ink _ _ _ _ h0.1 (wB_high h0.2)]
    show W s (pos + 1) (some a) acc = _
    rw [W_skip s a acc n (pos + 1) (fun j hj => by have := h (j + 1) (by omega); rwa [show pos + (j + 1) = pos + 1 + j by omega] at this)]
    congr 1
    omega
set_option maxHeartbeats 4000000 in
set_option maxRecDepth 100000 in
theorem decodeN_tail (n b0 b1 b2 b3 : Nat) : (decodeN n b0 b1 b2 b3).2 ≤ 4 ∧ (1 < (decodeN n b0 b1 b2 b3).2 → 128 ≤ b1) ∧ (2 < (decodeN n b0 b1 b2 b3).2 → 128 ≤ b2) ∧ (3 < (decodeN n b0 b1 b2 b3).2 → 128 ≤ b3) := by
  unfold decodeN
  repeat' split
  all_goals (simp only; omega)
theorem decode_tail (s : ByteArray) (pos j : Nat) (h : j + 1 < (Utf8.decode s pos).2) : 128 ≤ byteAt s (pos + 1 + j) := by
  have hd : Utf8.decode s pos = decodeN (s.size - pos) (byteAt s pos) (byteAt s (pos + 1)) (byteAt s (pos + 2)) (byteAt s (pos + 3)) := decode_at s pos
  obtain ⟨h4, h1, h2, h3⟩ := decodeN_tail (s.size - pos) (byteAt s pos) (byteAt s (pos + 1)) (byteAt s (pos + 2)) (byteAt s (pos + 3))
  rw [← hd] at h4 h1 h2 h3
  have : j = 0 ∨ j = 1 ∨ j = 2 := by omega
  rcases this with rfl | rfl | rfl
  · exact h1 (by omega)
  · exact h2 (by omega)
  · exact h3 (by omega)
theorem spans_W (s : ByteArray) : ∀ (f pos : Nat) (st : Option Nat) (acc : List (Nat × Nat)), s.size ≤ pos + f → spansFromP wB s f pos st acc = W s pos st acc
  | 0, pos, st, acc, h => by rw [W_end _ _ _ _ (by omega)]; rfl
  | f + 1, pos, st, acc, h => by
    by_cases hp : pos < s.size
    · have hw1 := decode_width_pos s pos hp
      have hin := decode_in s pos hp
      unfold spansFromP
      rw [if_pos hp]
      rcases rune_at s pos with ⟨h1, e⟩ | ⟨h1, h2⟩
      · rw [e]
        simp only
        cases hb : wB (byteAt s pos) with
        | true =>
          rw [if_pos rfl]
          cases st with
          | none => rw [W_white_none _ _ _ hp hb]; exact spans_W s f (pos + 1) none acc (by omega)
          | some a => rw [W_white_some _ _ _ _ hp hb]; exact spans_W s f (pos + 1) none _ (by omega)
        | false =>
          rw [if_neg (by decide), W_ink _ _ _ _ hp hb]
          cases st with
          | none => exact spans_W s f (pos + 1) (some pos) acc (by omega)
          | some a => exact spans_W s f (pos + 1) (some a) acc (by omega)
      · have hno : wB (Utf8.decode s pos).1 = false := wB_high h2
        rw [hno, if_neg (by decide), W_ink _ _ _ _ hp (wB_high h1)]
        have key : ∀ a, W s (pos + 1) (some a) acc = W s (pos + (Utf8.decode s pos).2) (some a) acc := fun a => by
          rw [W_skip s a acc ((Utf8.decode s pos).2 - 1) (pos + 1) (fun j hj => ⟨by omega, decode_tail s pos j (by omega)⟩)]
          congr 1
          omega
        cases st with
        | none => exact (spans_W s f _ (some pos) acc (by omega)).trans (key pos).symm
        | some a => exact (spans_W s f _ (some a) acc (by omega)).trans (key a).symm
    · rw [W_end _ _ _ _ (by omega), spansFromP_end _ _ _ _ _ _ hp]
/-- A text's words. -/
def wordsOf (s : ByteArray) : List ByteArray := (closeSpans s (W s 0 none [])).map fun x => s.extract x.1 x.2
theorem fields_words (s : ByteArray) : goFieldsP wB s = wordsOf s := by
  unfold goFieldsP spansOfP wordsOf
  rw [spans_W s s.size 0 none [] (by omega)]
end Go.Proofs.Ytjkaigfpjebfbaa
