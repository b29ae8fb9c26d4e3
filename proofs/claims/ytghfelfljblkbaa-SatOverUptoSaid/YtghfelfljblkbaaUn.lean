/- CnfOne: more of the plain law. -/
import Derived.Test.YtghfelfljblkbaaOneLaw
namespace Go.Proofs.Ytghfelfljblkbaa
open Go.RowKit Go.Sort
set_option linter.unusedVariables false

/-- y or its opposite is among us. -/
def inU (y : Int) (us : List Int) : Bool := us.any fun q => (y == q) || (y == -q)
theorem take_one {us : List Int} {k : Nat} (hk : k < us.length) : us.take (k + 1) = us.take k ++ [us.getD k 0] := by
  rw [List.take_add_one, List.getElem?_eq_getElem hk, List.getD_eq_getElem?_getD, List.getElem?_eq_getElem hk]; rfl
theorem inU_succ {y : Int} {us : List Int} {k : Nat} (hk : k < us.length) : inU y (us.take (k + 1)) = (inU y (us.take k) || ((y == us.getD k 0) || (y == -(us.getD k 0)))) := by
  unfold inU
  rw [take_one hk, List.any_append, List.any_cons, List.any_nil, Bool.or_false]
theorem Un.snoc {n : Nat} {us : List Int} {y : Int} (h : Un n us) (hy : 1 ≤ Cf.va y ∧ Cf.va y ≤ n) (hi : inU y us = false) : Un n (us ++ [y]) := by
  refine ⟨fun z hz => ?_, ?_⟩
  · rcases List.mem_append.1 hz with h1 | h1
    · exact h.in_ z h1
    · rw [List.mem_singleton.1 h1]; exact hy
  · rw [List.pairwise_append]
    refine ⟨h.pw, List.pairwise_singleton _ _, fun a ha b hb => ?_⟩
    rw [List.mem_singleton.1 hb]
    intro he
    unfold inU at hi
    rw [List.any_eq_false] at hi
    have := hi a ha
    rcases Cf.va_cases he.symm with h1 | h1
    · rw [h1] at this; simp at this
    · rw [h1] at this; simp at this
theorem Un.nil (n : Nat) : Un n [] := ⟨by simp, List.Pairwise.nil⟩
theorem cnt_snoc (bs : List Bool) (us : List Int) (y : Int) : cnt bs (us ++ [y]) = if hv bs y then cnt bs us + 1 else cnt bs us := by
  unfold cnt
  rw [List.filter_append, List.length_append, List.filter_cons]
  split <;> simp
theorem cnt_le (bs : List Bool) (us : List Int) : cnt bs us ≤ us.length := List.length_filter_le _ _
theorem Un.ok {n : Nat} {us : List Int} (h : Un n us) (hn : n ≤ 200) : ∀ z ∈ us, -200 ≤ z ∧ z ≤ 200 := fun z hz => by
  have := h.in_ z hz
  unfold Cf.va at this
  omega
theorem hv_of {bs : List Bool} {x : Int} {v : Nat} (hv1 : Cf.va x = v) (h1 : 1 ≤ v) (h2 : v ≤ 200) : hv bs x = ((decide (v ≤ bs.length) && bs.getD (v - 1) false) == decide (0 < x)) := by
  have hs := sg_hv (bs := bs) h1 h2
  have hsg : sg bs v = if v ≤ bs.length ∧ bs.getD (v - 1) false = true then (v : Int) else -(v : Int) := rfl
  have hb : (decide (v ≤ bs.length) && bs.getD (v - 1) false) = decide (v ≤ bs.length ∧ bs.getD (v - 1) false = true) := by
    cases bs.getD (v - 1) false <;> simp
  rw [hb]
  by_cases hc : v ≤ bs.length ∧ bs.getD (v - 1) false = true
  · rw [if_pos hc] at hsg
    rw [hsg] at hs
    rw [decide_eq_true hc]
    rcases (show x = (v : Int) ∨ x = -(v : Int) by unfold Cf.va at hv1; omega) with rfl | rfl
    · rw [hs.1, decide_eq_true (by omega)]; rfl
    · rw [hs.2, decide_eq_false (by omega)]; rfl
  · rw [if_neg hc] at hsg
    rw [hsg] at hs
    rw [decide_eq_false hc]
    rcases (show x = (v : Int) ∨ x = -(v : Int) by unfold Cf.va at hv1; omega) with rfl | rfl
    · have := hs.2
      rw [Int.neg_neg] at this
      rw [this, decide_eq_true (by omega)]; rfl
    · rw [hs.1, decide_eq_false (by omega)]; rfl
theorem take_rev_succ {us : List Int} {k : Nat} (hk : k < us.length) : us.reverse.take (k + 1) = us.reverse.take k ++ [us.getD (us.length - 1 - k) 0] := by
  rw [take_one (by rw [List.length_reverse]; exact hk)]
  congr 2
  rw [List.getD_eq_getElem?_getD, List.getD_eq_getElem?_getD, List.getElem?_reverse hk]
theorem mod_un (z : Int) {n : Nat} (hn : 1 ≤ n) : ∃ r : Nat, r < n ∧ (IntKind.u64.wrap z).tmod (n : Int) = (r : Int) := by
  rw [u64_w, Int.tmod_eq_emod_of_nonneg (Int.emod_nonneg _ (by decide))]
  have a0 := Int.emod_nonneg (z % 18446744073709551616) (b := (n : Int)) (by omega)
  have a1 := Int.emod_lt_of_pos (z % 18446744073709551616) (b := (n : Int)) (by omega)
  generalize z % 18446744073709551616 % (n : Int) = y at *
  exact ⟨y.toNat, by omega, by omega⟩
end Go.Proofs.Ytghfelfljblkbaa
