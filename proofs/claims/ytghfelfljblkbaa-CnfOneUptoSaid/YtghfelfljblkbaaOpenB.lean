/- Arguments that are rows of Booleans. -/
import Derived.Test.YtghfelfljblkbaaHolds
import Derived.Deep.Grids
namespace Go.Proofs.Ytghfelfljblkbaa
open Go.RowKit
set_option linter.unusedVariables false

section
open Go.ChangeShapes Go.WideShapes Go.ChangeAt
variable {H : Type} {enc : TypeId × Value → H} {W : World} {base : Nat}
set_option maxRecDepth 100000 in
theorem open_bs {v : Value} {d : DataW H} {p : List MemPlace} (h : DataW.Trod enc Try.prog W 0 (fun _ => true) true 29 v d p) (o : Value.okWide Try.prog W .any base 29 v) :
    ∃ A n c bs, v = .slice A n c ∧ Bools W A n bs ∧ n ≤ c ∧ c ≤ maxLen := by
  obtain ⟨a0, len0, cap0, rfl⟩ := okWide_slice Try.underlying29 o
  obtain ⟨fuel, hf⟩ := h
  rcases Go.Deep.open_bools Try.underlying29 Try.underlying4 (by kernel_rfl) hf with ⟨hcs, hx⟩ | ⟨x, l, c, B, hcs, _, hl, hm, hx, hcell⟩
  · simp [Value.cells] at hcs
    obtain ⟨rfl, rfl, rfl⟩ := hcs
    exact ⟨none, 0, 0, [], rfl, Bools.nil W none, Nat.le_refl _, Nat.zero_le _⟩
  · simp [Value.cells] at hcs
    obtain ⟨rfl, rfl, rfl⟩ := hcs
    refine ⟨_, len0, cap0, (List.range len0).map B, rfl, ⟨by simp, fun h0 => ?_⟩, hl, hm⟩
    obtain ⟨b, off, spot⟩ := x
    have hc0 := hcell 0 (by omega)
    have hspot : spot = none := by simpa [Addr.add] using World.cell?_spot hc0
    subst hspot
    refine ⟨b, off, rfl, World.block_lt_of_cell? W _ (by simpa [Addr.add] using hc0), fun k hk => ?_⟩
    have hck := hcell k (by omega)
    rw [addL_none] at hck
    rw [hck]
    simp [List.getD, hk]
end
end Go.Proofs.Ytghfelfljblkbaa
