/- SatHolds: the plain law. -/
import Derived.Test.YtghfelfljblkbaaCnt1
import Derived.Test.YtghfelfljblkbaaCore1
namespace Go.Proofs.Ytghfelfljblkbaa
open Go.RowKit Go.Sort
set_option linter.unusedVariables false

theorem cnt_mono {P Q : Nat → Bool} (h : ∀ i, P i = true → Q i = true) (lo : Nat) : ∀ m, Ct.cnt P lo m ≤ Ct.cnt Q lo m
  | 0 => Nat.le_refl _
  | m + 1 => by
    have h1 := cnt_mono h lo m
    show Ct.cnt P lo m + _ ≤ Ct.cnt Q lo m + _
    cases hp : P (lo + m) with
    | false => rw [if_neg Bool.false_ne_true]; split <;> omega
    | true => rw [h _ hp]; omega
theorem holds_more {bs : List Bool} {n : Nat} {L : List (List Int)} {zs : List Int} (h : holdsL bs (addL n L zs) = true) : holdsL bs L = true := by
  unfold addL at h
  split at h
  · cases ht : Cf.tidy zs with
    | none => rw [ht] at h; exact h
    | some r =>
      rw [ht] at h
      unfold holdsL at *
      rw [List.all_append] at h
      exact ((Bool.and_eq_true _ _).mp h).1
  · exact h
theorem cnt_more (n : Nat) (L : List (List Int)) (zs : List Int) : Ct.cnt (fun k => holdsL (vec n k) (addL n L zs)) 0 (2 ^ n) ≤ Ct.cnt (fun k => holdsL (vec n k) L) 0 (2 ^ n) :=
  cnt_mono (fun _ h => holds_more h) 0 _
theorem can_less {n : Nat} {L : List (List Int)} {zs ys : List Int} (h : canS n L zs = true) (hs : ∀ y ∈ ys, y ∈ zs) : canS n L ys = true := by
  unfold canS at *
  rw [Bool.and_eq_true] at h ⊢
  obtain ⟨h1, h2⟩ := h
  refine ⟨?_, ?_⟩
  · rw [Bool.not_eq_true', List.any_eq_false] at h1 ⊢
    exact fun y hy => h1 y (hs y hy)
  · rw [List.any_eq_true] at h2 ⊢
    obtain ⟨k, hk, hm⟩ := h2
    refine ⟨k, hk, ?_⟩
    unfold mod at *
    rw [Bool.and_eq_true] at hm ⊢
    refine ⟨hm.1, ?_⟩
    have := hm.2
    rw [List.all_eq_true] at this ⊢
    exact fun y hy => this y (hs y hy)
theorem erase_sub {c : List Int} {i j : Nat} (h : j < i) : ∀ y ∈ (c.eraseIdx i).eraseIdx j, y ∈ c.eraseIdx j := by
  intro y hy
  rw [List.mem_eraseIdx_iff_getElem?] at hy ⊢
  obtain ⟨t, ht, he⟩ := hy
  rw [List.getElem?_eraseIdx] at he
  by_cases hti : t < i
  · rw [if_pos hti] at he
    exact ⟨t, ht, he⟩
  · rw [if_neg hti] at he
    exact ⟨t + 1, by omega, he⟩
theorem coreGo_bad {p : List Int → Bool} : ∀ (d : Nat) (c : List Int) (i : Nat), p c = false → p (coreGo p d c i) = false
  | 0, c, i, h => h
  | d + 1, c, i, h => by
    unfold coreGo
    split
    · exact coreGo_bad d c (i + 1) h
    · next h2 => exact coreGo_bad d _ i (by simpa using h2)
theorem coreGo_min {p : List Int → Bool} (hp : ∀ zs ys, p zs = true → (∀ y ∈ ys, y ∈ zs) → p ys = true) : ∀ (d : Nat) (c : List Int) (i : Nat), c.length ≤ i + d → (∀ j, j < i → p (c.eraseIdx j) = true) → ∀ j, j < (coreGo p d c i).length → p ((coreGo p d c i).eraseIdx j) = true
  | 0, c, i, hl, h => fun j hj => by
    have hj' : j < c.length := hj
    exact h j (by omega)
  | d + 1, c, i, hl, h => by
    unfold coreGo
    split
    · next h2 =>
      refine coreGo_min hp d c (i + 1) (by omega) (fun j hj => ?_)
      by_cases e : j = i
      · rw [e]; exact h2
      · exact h j (by omega)
    · by_cases hi : i < c.length
      · refine coreGo_min hp d _ i ?_ (fun j hj => hp _ _ (h j hj) (erase_sub hj))
        rw [List.length_eraseIdx, if_pos hi]; omega
      · refine coreGo_min hp d _ i ?_ (fun j hj => hp _ _ (h j hj) (erase_sub hj))
        rw [List.length_eraseIdx, if_neg hi]; omega
theorem core_some (n : Nat) (L : List (List Int)) (zs : List Int) : (coreR n L zs).isSome = !canS n L zs := by
  unfold coreR
  cases hf : zs.find? (offL n) with
  | some a =>
    have h1 : zs.any (offL n) = true := List.any_eq_true.2 ⟨a, List.mem_of_find?_eq_some hf, List.find?_some hf⟩
    unfold canS
    rw [h1]; rfl
  | none =>
    cases hc : canS n L zs with
    | true => simp
    | false => simp
theorem core_bad {n : Nat} {L : List (List Int)} {zs : List Int} (h : canS n L zs = false) : canS n L ((coreR n L zs).getD []) = false := by
  unfold coreR
  cases hf : zs.find? (offL n) with
  | some a =>
    have h1 := List.find?_some hf
    unfold canS
    simp [h1]
  | none =>
    rw [h]
    simp only [Bool.false_eq_true, if_false, Option.getD_some]
    exact coreGo_bad _ _ _ h
theorem core_min (n : Nat) (L : List (List Int)) (zs : List Int) (i : Nat) (hi : i < ((coreR n L zs).getD []).length) (h1 : 1 < ((coreR n L zs).getD []).length) : canS n L (((coreR n L zs).getD []).eraseIdx i) = true := by
  revert hi h1
  unfold coreR
  cases hf : zs.find? (offL n) with
  | some a => intro hi h1; simp at h1
  | none =>
    cases hc : canS n L zs with
    | true => intro hi h1; simp at hi
    | false =>
      simp only [Bool.false_eq_true, if_false, Option.getD_some]
      intro hi h1
      exact coreGo_min (fun zs ys h hs => can_less h hs) zs.length zs 0 (by omega) (fun j hj => absurd hj (by omega)) i hi
theorem core_len (n : Nat) (L : List (List Int)) (zs : List Int) : ((coreR n L zs).getD []).length ≤ zs.length := by
  unfold coreR
  cases hf : zs.find? (offL n) with
  | some a =>
    have := List.length_pos_of_mem (List.mem_of_find?_eq_some hf)
    simp; omega
  | none =>
    cases hc : canS n L zs with
    | true => simp
    | false => simp only [Bool.false_eq_true, if_false, Option.getD_some]; exact coreGo_len _ _ _
end Go.Proofs.Ytghfelfljblkbaa
