/- Assumptions as clauses of one literal: the plain law. -/
import Derived.Test.YtghfelfljblkbaaSat1
import Derived.Test.YtghfelfljblkbaaMk
import Derived.Test.YtghfelfljblkbaaCopyC
namespace Go.Proofs.Ytghfelfljblkbaa
open Go.RowKit Go.Sort
set_option linter.unusedVariables false

/-- The clauses of one literal each. -/
def units (zs : List Int) : List (List Int) := zs.map fun z => [z]
theorem holds_app (bs : List Bool) (L M : List (List Int)) : holdsL bs (L ++ M) = (holdsL bs L && holdsL bs M) := by unfold holdsL; rw [List.all_append]
theorem holds_units (bs : List Bool) (zs : List Int) : holdsL bs (units zs) = zs.all (hv bs) := by
  unfold holdsL units
  rw [List.all_map]
  congr 1
  funext z
  simp
theorem mod_units (L : List (List Int)) (zs : List Int) (bs : List Bool) : mod (L ++ units zs) [] bs = mod L zs bs := by
  unfold mod
  rw [holds_app, holds_units]; simp
theorem first_units {n : Nat} {L : List (List Int)} {zs : List Int} {r : Option (List Bool)} (hz : zs.any (offL n) = false) (h : FirstIs n (L ++ units zs) [] r) : FirstIs n L zs r := by
  cases r with
  | none =>
    rcases h with h | h
    · cases h
    · exact .inr fun k hk => by rw [← mod_units]; exact h k hk
  | some bs =>
    obtain ⟨_, k, hk, e, hm, hf⟩ := h
    exact ⟨hz, k, hk, e, by rw [← mod_units]; exact hm, fun j hj => by rw [← mod_units]; exact hf j hj⟩
theorem first_off {n : Nat} {L : List (List Int)} {zs : List Int} {r : Option (List Bool)} (hz : zs.any (offL n) = true) (h : FirstIs n L zs r) : r = none := by
  cases r with
  | none => rfl
  | some bs => have := h.1; rw [hz] at this; cases this
theorem may_unit {n : Nat} {L : List (List Int)} (h : L.length < 5000) (z : Int) : mayL n L [z] = !offL n z := by
  unfold mayL
  rw [decide_eq_true h]; simp
theorem add_unit {n : Nat} {L : List (List Int)} (h : L.length < 5000) {z : Int} (hz : offL n z = false) : addL n L [z] = L ++ [[z]] := by
  have h0 : z ≠ 0 := fun h0 => by unfold offL at hz; simp [h0] at hz
  have ht : Cf.tidy [z] = some [z] := by
    show Cf.step (some []) z = some [z]
    unfold Cf.step
    simp only [if_neg h0]; rfl
  unfold addL
  rw [may_unit h, hz, ht]
  rfl
theorem addL_len {n : Nat} {L : List (List Int)} {zs : List Int} : (addL n L zs).length ≤ L.length + 1 := by
  unfold addL
  split
  · cases Cf.tidy zs with
    | none => exact Nat.le_succ _
    | some r => simp
  · exact Nat.le_succ _
theorem bothQ_len (lim mx n : Nat) : ∀ (Z : List (List Int)) (i : Nat) (acc : List (List Int)), (bothQ lim mx n Z i acc).length ≤ acc.length + (lim - i)
  | [], i, acc => by unfold bothQ; omega
  | c :: r, i, acc => by
    unfold bothQ
    have := bothQ_len lim mx n r (i + 1) (if i < lim ∧ c.length ≤ mx then addL n acc c else acc)
    split at this
    · next h =>
      rw [if_pos h]
      have := addL_len (n := n) (L := acc) (zs := c)
      omega
    · next h =>
      rw [if_neg h]
      omega
theorem one_lit (w : World) (a : Int) (ha : Ok a) : Lits (w.alloc (.cells #[.int .i64 a] 37)) (some ⟨w.heap.size, 0, none⟩) 1 [a] :=
  ⟨rfl, fun z hz => by
      simp only [List.mem_cons, List.not_mem_nil, or_false] at hz
      rcases hz with rfl
      exact ha, fun _ => ⟨w.heap.size, 0, rfl, (Blk.new _ _ _).lt, fun k hk => by
      rw [Nat.zero_add, (Blk.new w 37 #[.int .i64 a]).cell]
      obtain rfl : k = 0 := by omega
      rfl⟩⟩
theorem cl_units {n : Nat} {L : List (List Int)} {zs : List Int} (hL : Pr.Cl n L) (hok : ∀ z ∈ zs, Ok z) (hz : zs.any (offL n) = false) : Pr.Cl n (L ++ units zs) := by
  intro c hc y hy
  rcases List.mem_append.1 hc with h | h
  · exact hL c h y hy
  · unfold units at h
    obtain ⟨z, hz2, rfl⟩ := List.mem_map.1 h
    rw [List.mem_singleton] at hy
    subst hy
    rw [List.any_eq_false] at hz
    exact Sr.off_va (hok _ hz2) (by simpa using hz _ hz2)
theorem cl_ok {n : Nat} {L : List (List Int)} (h : Pr.Cl n L) (hn : n ≤ 200) : ∀ c ∈ L, ∀ z ∈ c, Ok z := fun c hc z hz => by
  have := h c hc z hz
  unfold Cf.va at this
  unfold Ok
  omega
theorem units_take {zs : List Int} {i : Nat} (h : i < zs.length) : units (zs.take (i + 1)) = units (zs.take i) ++ [[zs.getD i 0]] := by
  unfold units
  rw [take_one h, List.map_append]; rfl
/-- SameBools of one list, twice, in any later world. -/
theorem same_later {w : World} {A B : Option Addr} {n m c d : Nat} {bs : List Bool} (h1 : Bools w A n bs) (h2 : Bools w B m bs) (hn : n ≤ 281474976710656) :
    ∀ W, Below w.heap.size w W → Calls Try.prog 56 #[.slice A n c, .slice B m d] W fun e w' => e = .returned (.bool true) ∧ Below w.heap.size w w' := fun W hW => by
  have := SameBools_any A B n m c d bs bs W (h1.below hW) (h2.below hW) hn
  rw [decide_eq_true rfl] at this
  exact this.mono fun e w' ⟨he, hb⟩ => ⟨he, hW.trans (hb.mono hW.size)⟩
theorem awake_later {w : World} : ∀ W, Below w.heap.size w W → Calls Try.prog 57 #[] W fun e w' => e = .returned (.bool true) ∧ Below w.heap.size w w' := fun W hW =>
  (awakeS_any W).mono fun e w' ⟨he, hb⟩ => ⟨he, hW.trans (hb.mono hW.size)⟩
end Go.Proofs.Ytghfelfljblkbaa
