/- '==' between two arrays of bytes, run. -/
import Derived.Test.YtiiegimnnngnnaaDisk6
namespace Go.Proofs.Ytiiegimnnngnnaa
open Go.RowKit Go.Sort
set_option linter.unusedVariables false

def rowA (n : Nat) (f : Nat → Nat) : Array Value := ((List.range n).map fun i => Value.int .u8 ((f i : Nat) : Int)).toArray
theorem rowA_get (n : Nat) (f : Nat → Nat) (i : Nat) (h : i < n) : (rowA n f)[i]? = some (.int .u8 ((f i : Nat) : Int)) := by
  unfold rowA
  rw [List.getElem?_toArray, List.getElem?_map, List.getElem?_range h]; rfl
theorem rowA_size (n : Nat) (f : Nat → Nat) : (rowA n f).size = n := by simp [rowA]

section
variable {P : Program} (w : World)
theorem run_eq_bytes (d : Nat) (t e : TypeId) (n : Nat) (f g : Nat → Nat) (ht : P.underlying t = some (.array n e)) (he : P.underlying e = some (.int .u8)) (hs : (P.info? e).map (·.size) = some 1) :
    (Op.equalIn (d + 2) t (.agg (rowA n f)) (.agg (rowA n g))).run P w = .ok ((List.range n).all fun k => f k == g k) w := by
  have hsz : (sizeOf e).run P w = .ok 1 w := by
    cases hq : P.info? e with
    | none => simp [hq] at hs
    | some i =>
      have hi : i.size = 1 := by simpa [hq] using hs
      simp [sizeOf, typeInfo, hq, hi]
  have hag : (isAgg e).run P w = .ok false w := by
    unfold isAgg
    rw [Sem.run_bind, run_underlying he w]
    rfl
  have hpart : ∀ (f : Nat → Nat) (k : Nat), k < n → (part e (rowA n f) k).run P w = .ok (.int .u8 ((f k : Nat) : Int)) w := fun f k hk => by
    unfold part
    rw [Sem.run_bind, hag]
    simp only [Result.andThen_ok, Bool.false_eq_true, if_false, rowA_get n f k hk]
    rfl
  rw [show Op.equalIn (d + 2) t (.agg (rowA n f)) (.agg (rowA n g)) = _ from by rw [Op.equalIn]]
  simp only [Sem.run_bind, run_underlying ht, Result.andThen_ok, hsz, Std.Legacy.Range.forIn_eq_forIn_range', Std.Legacy.Range.size, Nat.sub_zero, Nat.add_sub_cancel, Nat.div_one]
  have key : ∀ (m s : Nat), s + m = n → ((forIn (List.range' s m) (none, ()) (fun i (r : Option Bool × Unit) => do
      let a ← part e (rowA n f) (i * 1)
      let b ← part e (rowA n g) (i * 1)
      let q ← Op.equalIn (d + 1) e a b
      if (!q) = true then pure (ForInStep.done (some false, ())) else pure (ForInStep.yield (none, ()))) : Sem (Option Bool × Unit))).run P w = .ok (if (List.range' s m).all fun k => f k == g k then (none, ()) else (some false, ())) w := by
    intro m
    induction m with
    | zero => intro s _; rfl
    | succ m ih =>
      intro s hs
      rw [List.range'_succ, List.forIn_cons]
      simp only [Sem.run_bind, Nat.mul_one, hpart f s (by omega), hpart g s (by omega), Result.andThen_ok, run_equalIn_int w d e .u8 .u8 _ _ he]
      have hb : (((f s : Nat) : Int) == ((g s : Nat) : Int)) = (f s == g s) := by
        rw [Bool.eq_iff_iff, beq_iff_eq, beq_iff_eq]; omega
      rw [hb]
      cases hq : (f s == g s)
      · simp [hq, Sem.run_pure]
      · have := ih (s + 1) (by omega)
        simp only [Nat.mul_one] at this
        simp only [Bool.not_true, Bool.false_eq_true, if_false, Sem.run_pure, Result.andThen_ok, List.all_cons, hq, Bool.true_and]
        exact this
  rw [key n 0 (by omega), List.range_eq_range']
  cases (List.range' 0 n).all fun k => f k == g k <;> simp [Sem.run_pure]
end
end Go.Proofs.Ytiiegimnnngnnaa
