/- Relation: names and versions are words. -/
import Derived.Test.YtjkaigfpjebfbaaRb
namespace Go.Proofs.Ytjkaigfpjebfbaa
open Go.RowKit
set_option linter.unusedVariables false

/-- A byte of a word, as names and versions have them. -/
def WdP (b : Nat) : Prop := (97 ≤ b ∧ b ≤ 122) ∨ (65 ≤ b ∧ b ≤ 90) ∨ (48 ≤ b ∧ b ≤ 57) ∨ b = 43 ∨ b = 45 ∨ b = 46 ∨ b = 126 ∨ b = 58
theorem cls_wd {b : UInt8} (h : WdP b.toNat) : Rl.cls b = 0 := by
  have e : ∀ n : UInt8, b = n → b.toNat = n.toNat := fun n h => by rw [h]
  unfold WdP at h
  unfold Rl.cls
  rw [if_neg, if_neg, if_neg]
  · rintro (h9 | h9 | h9) <;> (have := e _ h9; simp at this; omega)
  · rintro (h9 | h9 | h9 | h9) <;> (have := e _ h9; simp at this; omega)
  · rintro (h9 | h9) <;> (have := e _ h9; simp at this; omega)
theorem byteAt_ext (s : ByteArray) (a b j : Nat) (hb : b ≤ s.size) (hj : a + j < b) : byteAt (s.extract a b) j = byteAt s (a + j) := by
  have h1 : j < (s.extract a b).size := by rw [ByteArray.size_extract]; omega
  rw [byteAt_get _ _ h1, byteAt_get s (a + j) (by omega), ByteArray.getElem_extract]
theorem allF_all (p : Nat → Bool) (s : ByteArray) : ∀ (f i : Nat), s.size ≤ i + f → allF p s f i = true → ∀ j, i ≤ j → j < s.size → p (byteAt s j) = true
  | 0, i, hf, h, j, h1, h2 => by omega
  | f + 1, i, hf, h, j, h1, h2 => by
    have hi : i < s.size := by omega
    cases hp : p (byteAt s i) with
    | false => rw [allF_no p s f i hi hp] at h; cases h
    | true =>
      rw [allF_yes p s f i hi hp] at h
      by_cases e : j = i
      · rw [e]; exact hp
      · exact allF_all p s f (i + 1) (by omega) h j (by omega) h2
theorem allB_all {p : Nat → Bool} {s : ByteArray} (h : allB p s = true) {j : Nat} (hj : j < s.size) : p (byteAt s j) = true := allF_all p s s.size 0 (by omega) h j (Nat.zero_le _) hj
theorem nameFrom_all (s : ByteArray) : ∀ (f i : Nat), s.size ≤ i + f → nameFrom s f i = true → ∀ j, i ≤ j → j < s.size → WdP (byteAt s j)
  | 0, i, hf, h, j, h1, h2 => by omega
  | f + 1, i, hf, h, j, h1, h2 => by
    have hi : i < s.size := by omega
    cases hp : nameOk i (byteAt s i) with
    | false => rw [nameFrom_no s f i hi hp] at h; cases h
    | true =>
      rw [nameFrom_yes s f i hi hp] at h
      by_cases e : j = i
      · rw [e]
        have h9 : nameOkP i (byteAt s i) := of_decide_eq_true hp
        unfold nameOkP at h9
        unfold WdP
        omega
      · exact nameFrom_all s f (i + 1) (by omega) h j (by omega) h2
theorem idxF_at {s : ByteArray} {c : Nat} : ∀ (f i k : Nat), idxF s c f i = (k : Int) → byteAt s k = c
  | 0, i, k, h => by
    have h : (-1 : Int) = k := h
    omega
  | f + 1, i, k, h => by
    by_cases hi : i < s.size
    · by_cases hc : byteAt s i = c
      · rw [idxF_yes s c f i hi hc] at h
        have : k = i := by omega
        rw [this]; exact hc
      · rw [idxF_no s c f i hi hc] at h
        exact idxF_at f (i + 1) k h
    · rw [idxF_end s c _ i hi] at h; omega
theorem lasF_at {s : ByteArray} {c : Nat} : ∀ (i k : Nat), lasF s c i = (k : Int) → byteAt s k = c
  | 0, k, h => by
    have h : (-1 : Int) = k := h
    omega
  | i + 1, k, h => by
    unfold lasF at h
    split at h
    · next hc =>
      have : k = i := by omega
      rw [this]; exact hc
    · exact lasF_at i k h
theorem dig_wd {b : Nat} (h : digB b = true) : WdP b := by
  have h9 : 48 ≤ b ∧ b ≤ 57 := of_decide_eq_true h
  unfold WdP
  omega
theorem of_wd {be : ByteArray} (hbe : be = be3 ∨ be = be5) {b : Nat} (h : ofB be b = true) : WdP b := by
  unfold ofB at h
  rw [Bool.or_eq_true, Bool.or_eq_true] at h
  rcases h with (h | h) | h
  · exact dig_wd h
  · unfold letB at h
    rw [Bool.or_eq_true, decide_eq_true_eq, decide_eq_true_eq] at h
    unfold WdP
    omega
  · have h0 := of_decide_eq_true h
    by_cases hw : WdP b
    · exact hw
    · exfalso
      have : idx be b = -1 := by
        unfold WdP at hw
        rcases hbe with rfl | rfl
        · exact idx_none _ _ (fun j hj => by
            have : j = 0 ∨ j = 1 ∨ j = 2 := by have : be3.size = 3 := rfl; omega
            rcases this with rfl | rfl | rfl
            · show (43 : Nat) ≠ b; omega
            · show (46 : Nat) ≠ b; omega
            · show (126 : Nat) ≠ b; omega)
        · exact idx_none _ _ (fun j hj => by
            have : j = 0 ∨ j = 1 ∨ j = 2 ∨ j = 3 ∨ j = 4 := by have : be5.size = 5 := rfl; omega
            rcases this with rfl | rfl | rfl | rfl | rfl
            · show (43 : Nat) ≠ b; omega
            · show (46 : Nat) ≠ b; omega
            · show (126 : Nat) ≠ b; omega
            · show (45 : Nat) ≠ b; omega
            · show (58 : Nat) ≠ b; omega)
      omega
theorem rest_wd {r : ByteArray} (hu : allB (ofB be5) (upOf r) = true) (hv : allB (ofB be3) (revOf r) = true) : ∀ j, j < r.size → WdP (byteAt r j) := by
  intro j hj
  unfold upOf at hu
  unfold revOf at hv
  rcases las_range r 45 with h | ⟨k, h, hk⟩
  · rw [h, if_neg (by omega)] at hu
    exact of_wd (.inr rfl) (allB_all hu hj)
  · rw [h, if_pos (by omega), Int.toNat_natCast] at hu hv
    rcases Nat.lt_trichotomy j k with h1 | h1 | h1
    · have := allB_all hu (j := j) (by rw [ByteArray.size_extract]; omega)
      rw [byteAt_ext r 0 k j (by omega) (by omega), Nat.zero_add] at this
      exact of_wd (.inr rfl) this
    · rw [h1, show byteAt r k = 45 from lasF_at _ _ h]
      unfold WdP; omega
    · have := allB_all hv (j := j - (k + 1)) (by rw [ByteArray.size_extract]; omega)
      rw [byteAt_ext r (k + 1) r.size _ (by omega) (by omega)] at this
      rw [show k + 1 + (j - (k + 1)) = j by omega] at this
      exact of_wd (.inl rfl) this
theorem ver_wd {s : ByteArray} (h : verB s = true) : ∀ j, j < s.size → WdP (byteAt s j) := by
  intro j hj
  unfold verB verP at h
  simp only [Bool.and_eq_true] at h
  obtain ⟨_, ⟨⟨⟨he, hv⟩, _⟩, _⟩, hu⟩ := h
  have hr := rest_wd hu hv
  unfold epOf at he
  unfold restOf at hr
  rcases idx_range s 58 with h9 | ⟨k, h9, hk⟩
  · rw [h9, if_neg (by omega)] at hr
    exact hr j hj
  · rw [h9, if_pos (by omega), Int.toNat_natCast] at he hr
    rcases Nat.lt_trichotomy j k with h1 | h1 | h1
    · unfold epB at he
      rw [Bool.and_eq_true] at he
      have := allB_all he.2 (j := j) (by rw [ByteArray.size_extract]; omega)
      rw [byteAt_ext s 0 k j (by omega) (by omega), Nat.zero_add] at this
      exact dig_wd this
    · rw [h1, show byteAt s k = 58 from idxF_at _ _ _ h9]
      unfold WdP; omega
    · have := hr (j - (k + 1)) (by rw [ByteArray.size_extract]; omega)
      rw [byteAt_ext s (k + 1) s.size _ (by omega) (by omega)] at this
      rw [show k + 1 + (j - (k + 1)) = j by omega] at this
      exact this
theorem mem_wd {l : Rl.Bs} (h : ∀ j, j < (Rl.tob l).size → WdP (byteAt (Rl.tob l) j)) : ∀ b ∈ l, Rl.cls b = 0 := by
  intro b hb
  obtain ⟨j, hj, rfl⟩ := List.mem_iff_getElem.1 hb
  have := h j hj
  rw [byteAt_get _ _ hj] at this
  exact cls_wd this
theorem plain_nm : Rl.Plain nmL where
  ne := rfl
  word := fun t h => mem_wd (by
    have h : nameB (Rl.tob t) = true := h
    unfold nameB at h
    rw [Bool.and_eq_true] at h
    exact fun j hj => nameFrom_all _ _ 0 (by omega) h.2 j (Nat.zero_le _) hj)
theorem plain_ver : Rl.Plain verL where
  ne := rfl
  word := fun t h => mem_wd (ver_wd h)
end Go.Proofs.Ytjkaigfpjebfbaa
