/- RelationParses. -/
import Derived.Test.YtdchnllflodmkaaRj
import Derived.Test.YtdchnllflodmkaaRt
namespace Go.Proofs.Ytdchnllflodmkaa
open Go.RowKit
set_option linter.unusedVariables false

/-- A region that draws its order, whose operations read and whose calls only make memory and answer one value each: walked once. -/
theorem wp_region_below {P : Program} {B id : Nat} {Q : Exit → Act → World → Prop} {a : Act} {w0 w : World} {l : List Oper} (hw : Below B w0 w) (hm : P.follows .mixedOrders = true) (hB : Region.lexB .any l.toArray = true)
    (h : wpQuiet P l.toArray (fun w' => Below B w0 w') (fun a' => ∀ w', Below B w0 w' → Q .normal a' w') l a) : (Code.region id l.toArray true).wp P Q a w :=
  wp_region_quiet (C := fun w' => Below B w0 w') hm hB ⟨hw.os, hw.tape, hw.output, hw.size, hw.block⟩ (by simpa using h)
theorem parseP_more {mf : Rl.Atm → Bool} {one : Bool} : ∀ (d : Nat) {T : List Rl.Bs} {L0 L : List (List Rl.Atm)}, Rl.parseP nmL verL mf one d T L0 = .ok L → L0.length < L.length
  | 0, T, L0, L, h => by cases h
  | d + 1, T, L0, L, h => by
    unfold Rl.parseP at h
    cases hc : Rl.clauseP nmL verL mf one 6 T [] with
    | many => rw [hc] at h; cases h
    | form => rw [hc] at h; cases h
    | ok x =>
      obtain ⟨c, T1⟩ := x
      rw [hc] at h
      simp only at h
      split at h
      · injection h with h; subst h; rw [List.length_append]; simp
      · cases hi : Rl.isT [44] T1 with
        | none => rw [hi] at h; cases h
        | some T2 =>
          rw [hi] at h
          have := parseP_more d h
          rw [List.length_append] at this
          simp at this
          omega
theorem one_way (l : Rl.Bs) : (∃ a, oneP (Rl.toks l) = some a ∧ Rl.allP nmL verL anyF false l = .ok [[a]]) ∨ (oneP (Rl.toks l) = none ∧ ∀ a, Rl.allP nmL verL anyF false l ≠ .ok [[a]]) := by
  unfold Rl.allP oneP
  generalize Rl.toks l = T
  by_cases hT : T = []
  · subst hT
    refine .inr ⟨rfl, fun a h => ?_⟩
    rw [if_pos rfl] at h
    injection h with h; cases h
  rw [if_neg hT]
  have hpa : Rl.parseP nmL verL anyF false 12 T [] = match Rl.clauseP nmL verL anyF false 6 T [] with | .many => .many | .form => .form | .ok (c, T1) => if T1 = [] then .ok ([] ++ [c]) else match Rl.isT [44] T1 with | none => .form | some T2 => Rl.parseP nmL verL anyF false 11 T2 ([] ++ [c]) := rfl
  have hcl : Rl.clauseP nmL verL anyF false 6 T [] = match Rl.atomP nmL verL T with | (none, _) => .form | (some a, T1) => match Rl.isT [124] T1 with | none => .ok ([] ++ [a], T1) | some T2 => Rl.clauseP nmL verL anyF false 5 T2 ([] ++ [a]) := rfl
  rw [hpa, hcl]
  cases hap : Rl.atomP nmL verL T with
  | mk o T1 =>
    cases o with
    | none => exact .inr ⟨rfl, fun a h => by cases h⟩
    | some a =>
      cases T1 with
      | nil => exact .inl ⟨a, rfl, rfl⟩
      | cons x r =>
        refine .inr ⟨rfl, fun b h => ?_⟩
        simp only at h
        cases hi : Rl.isT [124] (x :: r) with
        | none =>
          rw [hi] at h
          simp only at h
          rw [if_neg (by simp)] at h
          cases hj : Rl.isT [44] (x :: r) with
          | none => rw [hj] at h; cases h
          | some T2 =>
            rw [hj] at h
            have := parseP_more 11 h
            simp at this
        | some T2 =>
          rw [hi] at h
          simp only at h
          cases hc : Rl.clauseP nmL verL anyF false 5 T2 ([] ++ [a]) with
          | many => rw [hc] at h; cases h
          | form => rw [hc] at h; cases h
          | ok y =>
            obtain ⟨c, T3⟩ := y
            rw [hc] at h
            simp only at h
            have hl := (clauseP_len 5 hc).1
            split at h
            · injection h with h
              have : c = [b] := by simpa using h
              rw [this] at hl; simp at hl
            · cases hj : Rl.isT [44] T3 with
              | none => rw [hj] at h; cases h
              | some T4 =>
                rw [hj] at h
                have := parseP_more 11 h
                simp at this
end Go.Proofs.Ytdchnllflodmkaa
