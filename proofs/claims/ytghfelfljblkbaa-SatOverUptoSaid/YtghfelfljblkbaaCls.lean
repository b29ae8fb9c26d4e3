/- Arguments that are rows of clauses, of Booleans, opened. -/
import Derived.Test.YtghfelfljblkbaaLit
namespace Go.Proofs.Ytghfelfljblkbaa
open Go.ChangeShapes Go.WideShapes Go.ChangeAt Go.RowKit
set_option linter.unusedVariables false

/-- A slice of clauses. -/
def ClsAt (w : World) (v : Value) (L : List (List Int)) : Prop :=
  ∃ A cap, v = .slice A L.length cap ∧ L.length ≤ cap ∧ cap ≤ maxLen ∧ ∀ j (h : j < L.length), ∃ g o Aj cj, A = some ⟨g, o, none⟩ ∧ w.cell? ⟨g, o + j, none⟩ = some (.slice Aj (L[j]).length cj) ∧ (L[j]).length ≤ cj ∧ cj ≤ maxLen ∧ Lits w Aj (L[j]).length L[j]
theorem ClsAt.nil (w : World) : ClsAt w (.slice none 0 0) [] := ⟨none, 0, rfl, Nat.le_refl _, Nat.zero_le _, fun j h => absurd h (by simp)⟩
theorem ClsAt.below {w w' : World} {v : Value} {L : List (List Int)} (h : ClsAt w v L) (hb : Below w.heap.size w w') : ClsAt w' v L := by
  obtain ⟨A, cap, rfl, h1, h2, h3⟩ := h
  refine ⟨A, cap, rfl, h1, h2, fun j hj => ?_⟩
  obtain ⟨g, o, Aj, cj, rfl, k1, k2, k3, k4⟩ := h3 j hj
  exact ⟨g, o, Aj, cj, rfl, by rw [hb.cell (World.block_lt_of_cell? w _ k1)]; exact k1, k2, k3, k4.below hb⟩
theorem list_of {α : Type} [Inhabited α] (n : Nat) (Q : Nat → α → Prop) (h : ∀ i, i < n → ∃ b, Q i b) : ∃ L : List α, L.length = n ∧ ∀ i (hi : i < L.length), Q i L[i] := by
  induction n with
  | zero => exact ⟨[], rfl, fun i hi => absurd hi (by simp)⟩
  | succ n ih =>
    obtain ⟨L, h1, h2⟩ := ih fun i hi => h i (by omega)
    obtain ⟨b, hb⟩ := h n (by omega)
    refine ⟨L ++ [b], by rw [List.length_append, h1]; rfl, fun i hi => ?_⟩
    rw [List.length_append, h1] at hi
    by_cases e : i < L.length
    · rw [List.getElem_append_left e]; exact h2 i e
    · have e2 : i = n := by simp at hi; omega
      subst e2
      rw [List.getElem_append_right (by omega)]
      simp [h1]
      exact hb
section
variable {H : Type} {enc : TypeId × Value → H} {W : World} {base : Nat}
theorem bulk_mem {d : DataW H} {l : List (DataW H)} (h : d ∈ l) : Rows.uptoBulk d ≤ Rows.uptoBulkAll l := by
  induction l with
  | nil => cases h
  | cons x r ih =>
    simp only [Rows.uptoBulkAll]
    cases h with
    | head => omega
    | tail _ h => have := ih h; omega
set_option maxRecDepth 100000 in
theorem one_row {n : Nat} {c : Value} {y : DataW H × List MemPlace} (hf : DataW.trod enc Try.prog W 0 (fun _ => true) true n 22 [c] = some y) :
    ∃ A cp bs, c = .slice A bs.length cp ∧ Lits W A bs.length bs ∧ bs.length ≤ cp ∧ cp ≤ maxLen ∧ bs.length ≤ Rows.uptoBulk y.1 := by
  rcases open_ints Try.underlying22 Try.underlying37 (by kernel_rfl) hf with ⟨hcs, hx⟩ | ⟨x, l, cp, zs, hcs, _, hl, hm, hz, hx, hcell, hwz⟩
  · obtain rfl := List.cons.inj hcs |>.1
    exact ⟨none, 0, [], rfl, Lits.nil W none, Nat.le_refl _, Nat.zero_le _, Nat.zero_le _⟩
  · obtain rfl := List.cons.inj hcs |>.1
    have hzl : zs.length = cp := by simpa using hz
    have hlen : (zs.take l).length = l := by rw [List.length_take]; omega
    refine ⟨_, cp, zs.take l, by rw [hlen], ?_, by omega, hm, ?_⟩
    · rw [hlen]
      refine ⟨hlen, fun z hz => ?_, fun h0 => ?_⟩
      · have := hwz z (List.mem_of_mem_take hz)
        simpa [Ok, Lit.wf, IntKind.min, IntKind.max, IntKind.signed, IntKind.bits] using this
      · obtain ⟨b, off, spot⟩ := x
        have hc0 := hcell 0 (by omega)
        have hspot : spot = none := by simpa [Addr.add] using World.cell?_spot hc0
        subst hspot
        refine ⟨b, off, rfl, World.block_lt_of_cell? W _ (by simpa [Addr.add] using hc0), fun k hk => ?_⟩
        have hck := hcell k (by omega)
        rw [addL_none] at hck
        rw [hck]
        simp [List.getD, show k < zs.length by omega, hk]
    · rw [hlen, hx]
      simp only [Rows.uptoBulk]
      have := bulkL_length (H := H) (lits .i64 (zs.take l))
      have e3 : (lits (H := H) .i64 (zs.take l)).length = l := by simp [lits]; omega
      rw [e3] at this
      omega
set_option maxRecDepth 100000 in
theorem open_cls {v : Value} {d : DataW H} {p : List MemPlace} (h : DataW.Trod enc Try.prog W 0 (fun _ => true) true 28 v d p) (o : Value.okWide Try.prog W .any base 28 v) :
    ∃ L, ClsAt W v L ∧ L.length ≤ Rows.uptoBulk d ∧ ∀ b ∈ L, b.length ≤ Rows.uptoBulk d := by
  obtain ⟨a0, len0, cap0, rfl⟩ := okWide_slice Try.underlying28 o
  obtain ⟨fuel, hf⟩ := h
  have hone : Try.prog.cellsOf 22 = 1 := by kernel_rfl
  rcases DataW.trod_slice Try.underlying28 hf with ⟨hcs, hx⟩ | ⟨a, len, cap, elems, rest, n, _, hcs, hx, hb, hl, hm, hlen, hel, hsp, hns⟩
  · simp [Value.cells] at hcs
    obtain ⟨rfl, rfl, rfl⟩ := hcs
    exact ⟨[], ClsAt.nil W, Nat.zero_le _, fun b hb => by cases hb⟩
  · simp [Value.cells] at hcs
    obtain ⟨rfl, rfl, rfl⟩ := hcs
    have e := congrArg Prod.fst hx
    simp only at e
    have hall : elems.length ≤ Rows.uptoBulk d := by
      rw [e]; simp only [Rows.uptoBulk]
      have := bulkL_length (elems.map (·.1))
      rw [List.length_map] at this
      omega
    have key : ∀ i, i < len0 → ∃ b : List Int, (∃ g o Aj cj, a = ⟨g, o, none⟩ ∧ W.cell? ⟨g, o + i, none⟩ = some (.slice Aj b.length cj) ∧ b.length ≤ cj ∧ cj ≤ maxLen ∧ Lits W Aj b.length b) ∧ b.length ≤ Rows.uptoBulk d := by
      intro i hi
      have h1 := hel i hi
      have hi2 : i < elems.length := by omega
      rw [List.getElem?_eq_getElem hi2, hone, Nat.mul_one, Option.bind_eq_some_iff] at h1
      obtain ⟨c1, hc1, hy1⟩ := h1
      obtain ⟨c, rfl⟩ : ∃ c, c1 = [c] := by
        have := (World.cells?_some hc1).2.1
        match c1, this with
        | [c], _ => exact ⟨c, rfl⟩
      have hcell := cell_of_cells?_one hc1
      obtain ⟨Aj, cj, b, rfl, h2, h3, h4, h5⟩ := one_row hy1
      obtain ⟨g, off, spot⟩ := a
      have hspot : spot = none := by
        obtain ⟨z, hz⟩ : ∃ z, z = 0 := ⟨_, rfl⟩
        have h0 := hel z (by omega)
        have hi0 : z < elems.length := by omega
        rw [List.getElem?_eq_getElem hi0, hone, Nat.mul_one, Option.bind_eq_some_iff] at h0
        obtain ⟨c1, hc1, _⟩ := h0
        obtain ⟨c, rfl⟩ : ∃ c, c1 = [c] := by
          have := (World.cells?_some hc1).2.1
          match c1, this with
          | [c], _ => exact ⟨c, rfl⟩
        have h9 := cell_of_cells?_one hc1
        subst hz
        simpa [Addr.add] using World.cell?_spot h9
      subst hspot
      rw [addL_none] at hcell
      refine ⟨b, ⟨g, off, Aj, cj, rfl, hcell, h3, h4, h2⟩, Nat.le_trans h5 ?_⟩
      rw [e]; simp only [Rows.uptoBulk]
      have := bulk_mem (List.mem_map_of_mem (f := (·.1)) (List.getElem_mem hi2))
      omega
    obtain ⟨L, hL, hq⟩ := list_of len0 _ key
    refine ⟨L, ⟨some a, cap0, by rw [hL], by omega, hm, fun j hj => ?_⟩, by omega, fun b hb2 => ?_⟩
    · obtain ⟨⟨g, o, Aj, cj, k0, k1, k2, k3, k4⟩, _⟩ := hq j hj
      exact ⟨g, o, Aj, cj, by rw [k0], k1, k2, k3, k4⟩
    · obtain ⟨j, hj, rfl⟩ := List.mem_iff_getElem.1 hb2
      exact (hq j hj).2
end
end Go.Proofs.Ytghfelfljblkbaa
