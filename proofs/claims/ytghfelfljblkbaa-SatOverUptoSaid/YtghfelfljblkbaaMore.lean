/- CnfMore: the plain law. -/
import Derived.Test.YtghfelfljblkbaaBoth
namespace Go.Proofs.Ytghfelfljblkbaa
open Go.RowKit Go.Sort
set_option linter.unusedVariables false

theorem holds_add {bs : List Bool} {n : Nat} {L : List (List Int)} {zs : List Int} (h : holdsL bs (addL n L zs) = true) : holdsL bs L = true := by
  unfold addL at h
  split at h
  · cases ht : Cf.tidy zs with
    | none => rw [ht] at h; exact h
    | some r =>
      rw [ht] at h
      unfold holdsL at *
      rw [List.all_append] at h
      exact ((Bool.and_eq_true _ _).mp h).1
  · exact h
/-- A variable's own sign in a model. -/
def sg (bs : List Bool) (v : Nat) : Int := if v ≤ bs.length ∧ bs.getD (v - 1) false = true then (v : Int) else -(v : Int)
theorem sg_va (bs : List Bool) (v : Nat) : Cf.va (sg bs v) = v := by
  unfold sg Cf.va
  split <;> omega
theorem sg_hv {bs : List Bool} {v : Nat} (h : 1 ≤ v) (h2 : v ≤ 200) : hv bs (sg bs v) = true ∧ hv bs (-(sg bs v)) = false := by
  have ho : Ok (sg bs v) := by
    have := sg_va bs v
    unfold Cf.va at this
    exact ⟨by omega, by omega⟩
  have ho2 : Ok (-(sg bs v)) := by
    have := sg_va bs v
    unfold Cf.va at this
    exact ⟨by omega, by omega⟩
  have a1 : atw (sg bs v) = ((v - 1 : Nat) : Int) := by
    unfold atw
    rw [vw_ok ho, sg_va, u64_w]; omega
  have a2 : atw (-(sg bs v)) = ((v - 1 : Nat) : Int) := by
    unfold atw
    rw [vw_ok ho2, Cf.va_neg, sg_va, u64_w]; omega
  unfold hv
  rw [a1, a2, Int.toNat_natCast]
  unfold sg
  by_cases hc : v ≤ bs.length ∧ bs.getD (v - 1) false = true
  · rw [if_pos hc, hc.2, decide_eq_true (show ((v - 1 : Nat) : Int) < (bs.length : Int) by omega), decide_eq_true (show (0 : Int) < (v : Int) by omega), decide_eq_false (show ¬ (0 : Int) < -(v : Int) by omega)]
    exact ⟨rfl, rfl⟩
  · rw [if_neg hc, decide_eq_false (show ¬ (0 : Int) < -(v : Int) by omega), decide_eq_true (show (0 : Int) < - -(v : Int) by omega)]
    have : (decide (((v - 1 : Nat) : Int) < (bs.length : Int)) && bs.getD (v - 1) false) = false := by
      by_cases h3 : v ≤ bs.length
      · have : bs.getD (v - 1) false = false := by
          cases hb : bs.getD (v - 1) false with
          | false => rfl
          | true => exact absurd ⟨h3, hb⟩ hc
        rw [this, Bool.and_false]
      · rw [decide_eq_false (by omega), Bool.false_and]
    rw [this]
    exact ⟨rfl, rfl⟩
def ownS (bs : List Bool) (k : Nat) : List Int := (List.range k).map fun j => sg bs (j + 1)
def othS (bs : List Bool) (k : Nat) : List Int := (List.range k).map fun j => -(sg bs (j + 1))
theorem ownS_succ (bs : List Bool) (k : Nat) : ownS bs (k + 1) = ownS bs k ++ [sg bs (k + 1)] := by
  unfold ownS; rw [List.range_succ, List.map_append]; rfl
theorem othS_succ (bs : List Bool) (k : Nat) : othS bs (k + 1) = othS bs k ++ [-(sg bs (k + 1))] := by
  unfold othS; rw [List.range_succ, List.map_append]; rfl
theorem good_of {n : Nat} (f : Nat → Int) (hf : ∀ j, Cf.va (f j) = j + 1) : Cf.tidy ((List.range n).map f) = some ((List.range n).map f) := by
  refine Cf.tidy_of_good ⟨?_, fun x => Iff.rfl, fun h => ?_⟩
  · unfold Cf.Sd
    rw [List.pairwise_map]
    exact List.pairwise_lt_range.imp fun h => by rw [hf, hf]; omega
  · obtain ⟨j, _, h0⟩ := List.mem_map.1 h
    have := hf j
    rw [h0] at this
    cases this
theorem may_of {n : Nat} {L : List (List Int)} (f : Nat → Int) (hf : ∀ j, Cf.va (f j) = j + 1) (hn : n ≤ 200) (hL : L.length < 5000) : mayL n L ((List.range n).map f) = true := by
  unfold mayL
  have : ((List.range n).map f).any (offL n) = false := by
    rw [List.any_eq_false]
    intro x hx
    obtain ⟨j, hj, rfl⟩ := List.mem_map.1 hx
    have hj' := List.mem_range.1 hj
    have hv := hf j
    have hok : Ok (f j) := by unfold Cf.va at hv; exact ⟨by omega, by omega⟩
    unfold offL
    rw [vw_ok hok, hv]
    have h0 : f j ≠ 0 := fun e => by rw [e] at hv; cases hv
    rw [decide_eq_false h0, decide_eq_false (by omega)]
    decide
  rw [this, decide_eq_true hL]; rfl
theorem own_f (bs : List Bool) (j : Nat) : Cf.va (sg bs (j + 1)) = j + 1 := sg_va bs (j + 1)
theorem oth_f (bs : List Bool) (j : Nat) : Cf.va (-(sg bs (j + 1))) = j + 1 := by rw [Cf.va_neg]; exact sg_va bs (j + 1)
theorem add_own (bs : List Bool) {n : Nat} (hn : n ≤ 200) : addL n [] (ownS bs n) = [ownS bs n] := by
  unfold addL ownS
  rw [may_of _ (own_f bs) hn (by simp), if_pos rfl, good_of _ (own_f bs)]; rfl
theorem add_oth (bs : List Bool) {n : Nat} (hn : n ≤ 200) (L : List (List Int)) (hL : L.length < 5000) : addL n L (othS bs n) = L ++ [othS bs n] := by
  unfold addL othS
  rw [may_of _ (oth_f bs) hn hL, if_pos rfl, good_of _ (oth_f bs)]
theorem holds_own (bs : List Bool) {n : Nat} (h1 : 1 ≤ n) (hn : n ≤ 200) : holdsL bs [ownS bs n] = true := by
  unfold holdsL
  rw [List.all_cons, List.all_nil, Bool.and_true, List.any_eq_true]
  refine ⟨sg bs 1, ?_, (sg_hv (by omega) (by omega)).1⟩
  exact List.mem_map.2 ⟨0, List.mem_range.2 h1, rfl⟩
theorem holds_oth (bs : List Bool) {n : Nat} (hn : n ≤ 200) : holdsL bs ([ownS bs n] ++ [othS bs n]) = false := by
  unfold holdsL
  rw [List.all_append, List.all_cons (a := othS bs n), List.all_nil, Bool.and_true]
  have : (othS bs n).any (hv bs) = false := by
    rw [List.any_eq_false]
    intro x hx
    obtain ⟨j, hj, rfl⟩ := List.mem_map.1 hx
    have hj' := List.mem_range.1 hj
    rw [(sg_hv (bs := bs) (v := j + 1) (by omega) (by omega)).2]
    decide
  rw [this, Bool.and_false]
theorem sg_ok (bs : List Bool) {v : Nat} (h : v ≤ 300) : Ok (sg bs v) ∧ Ok (-(sg bs v)) := by
  have := sg_va bs v
  unfold Cf.va at this
  exact ⟨⟨by omega, by omega⟩, ⟨by omega, by omega⟩⟩
end Go.Proofs.Ytghfelfljblkbaa
