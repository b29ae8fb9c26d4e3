/- Records of an area, counted by its marks: the plain law. No program is named here. -/
import Derived.Test.YtiiegimnnngnnaaWl
namespace Go.Proofs.Ytiiegimnnngnnaa
set_option linter.unusedVariables false
namespace Wl

/-- So many records from a sector on. -/
def recs (R : Nat → Nat) (to : Nat) : Nat → Nat → Option (List (List Nat) × Nat)
  | 0, p => some ([], p)
  | k + 1, p => match recAt R p to with
    | none => none
    | some b => match recs R to k (p + need b.length) with
      | none => none
      | some q => some (b :: q.1, q.2)
/-- How many marks are set from the first on. -/
def Lead (R : Nat → Nat) (n : Nat) : Prop := n ≤ 512 ∧ (∀ j, j < n → mk R 0 j = true) ∧ mk R 0 n = false
theorem go_recs {R Q : Nat → Nat} {to fr n : Nat} (hm : ∀ j, mk Q 0 j = mk R fr j) (h : Lead Q n) : ∀ (k i p : Nat), i + k = n → go R to fr (512 - i) i p = recs R to k p
  | 0, i, p, hi => by
    obtain rfl : i = n := by omega
    rcases Nat.lt_or_ge i 512 with h5 | h5
    · obtain ⟨f, hf⟩ : ∃ f, 512 - i = f + 1 := ⟨511 - i, by omega⟩
      rw [hf]
      unfold go
      rw [if_neg (by rw [← hm, h.2.2]; decide)]; rfl
    · rw [show 512 - i = 0 by omega]; rfl
  | k + 1, i, p, hi => by
    have h1 := h.1
    obtain ⟨f, hf⟩ : ∃ f, 512 - i = f + 1 := ⟨511 - i, by omega⟩
    rw [hf]
    unfold go recs
    rw [if_pos (by rw [← hm, h.2.1 i (by omega)])]
    cases recAt R p to with
    | none => rfl
    | some b =>
      have ih := go_recs (to := to) hm h k (i + 1) (p + need b.length) (by omega)
      rw [show 512 - (i + 1) = f by omega] at ih
      dsimp only
      rw [ih]
      cases recs R to k (p + need b.length) <;> rfl
theorem opens_recs {R Q : Nat → Nat} {fr to n : Nat} (hm : ∀ j, mk Q 0 j = mk R fr j) (h : Lead Q n) : opens R fr to = recs R to n (fr + 1) :=
  go_recs hm h n 0 (fr + 1) (by omega)
theorem part_shift (R : Nat → Nat) (a i k : Nat) : part R (a + i) k = part (fun j => R (a + j)) i k := by
  unfold part
  refine List.map_congr_left fun j _ => ?_
  show R (a + i + j) = R (a + (i + j))
  rw [Nat.add_assoc]
theorem num_shift (R : Nat → Nat) (a i : Nat) : num R (a + i) = num (fun j => R (a + j)) i := by
  unfold num
  simp only [Nat.add_assoc]
theorem recAt_shift (R : Nat → Nat) (fr p to : Nat) (h : fr ≤ to) : recAt R (fr + p) to = recAt (fun j => R (64 * fr + j)) p (to - fr) := by
  unfold recAt
  rw [show 64 * (fr + p) = 64 * fr + 64 * p by omega, num_shift, show 64 * fr + 64 * p + 8 = 64 * fr + (64 * p + 8) by omega, part_shift R (64 * fr) (64 * p + 8), part_shift R (64 * fr) (64 * p)]
  rw [show to - (fr + p) = to - fr - p by omega]
  by_cases hp : to ≤ fr + p
  · rw [if_pos hp, if_pos (by omega)]
  · rw [if_neg hp, if_neg (c := to - fr ≤ p) (by omega)]
def shift (fr : Nat) : Option (List (List Nat) × Nat) → Option (List (List Nat) × Nat)
  | none => none
  | some q => some (q.1, fr + q.2)
theorem recs_shift (R : Nat → Nat) (fr to : Nat) (h : fr ≤ to) : ∀ (k p : Nat), recs R to k (fr + p) = shift fr (recs (fun j => R (64 * fr + j)) (to - fr) k p)
  | 0, p => rfl
  | k + 1, p => by
    unfold recs
    rw [recAt_shift R fr p to h]
    cases recAt (fun j => R (64 * fr + j)) p (to - fr) with
    | none => rfl
    | some b =>
      dsimp only
      rw [Nat.add_assoc, recs_shift R fr to h k (p + need b.length)]
      cases recs (fun j => R (64 * fr + j)) (to - fr) k (p + need b.length) <;> rfl
theorem mk_shift (R : Nat → Nat) (fr j : Nat) : mk (fun k => R (64 * fr + k)) 0 j = mk R fr j := by
  unfold mk
  simp only [Nat.mul_zero, Nat.zero_add]
theorem opens_shift {R : Nat → Nat} {fr to n : Nat} (h : fr ≤ to) (hl : Lead (fun k => R (64 * fr + k)) n) : opens R fr to = shift fr (recs (fun j => R (64 * fr + j)) (to - fr) n 1) := by
  rw [opens_recs (mk_shift R fr) hl, recs_shift R fr to h]
theorem recs_some {R : Nat → Nat} {to : Nat} : ∀ {k p : Nat} {q : List (List Nat) × Nat}, recs R to k p = some q → p ≤ to → q.1.length = k ∧ p ≤ q.2 ∧ q.2 ≤ to
  | 0, p, q, h, hp => by
    unfold recs at h
    obtain rfl := Option.some.inj h
    exact ⟨rfl, Nat.le_refl _, hp⟩
  | k + 1, p, q, h, hp => by
    unfold recs at h
    split at h
    · cases h
    · rename_i b hb
      have h3 := (recAt_some hb).2.2
      split at h
      · cases h
      · rename_i q2 hq
        obtain rfl := Option.some.inj h
        have ih := recs_some hq h3
        simp only [List.length_cons]
        omega
end Wl
end Go.Proofs.Ytiiegimnnngnnaa
