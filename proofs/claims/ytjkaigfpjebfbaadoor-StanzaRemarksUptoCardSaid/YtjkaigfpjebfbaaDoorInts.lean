/- Arguments that are rows of numbers. -/
import Derived.Test.YtjkaigfpjebfbaaDoorOpen
namespace Go.Proofs.YtjkaigfpjebfbaaDoor
open Go.ChangeShapes Go.WideShapes Go.ChangeAt Go.RowKit
set_option linter.unusedVariables false

def IntsAt (w : World) (v : Value) (zs : List Int) : Prop :=
  ∃ A cap, v = .slice A zs.length cap ∧ ∀ j (h : j < zs.length), ∃ g o, A = some ⟨g, o, none⟩ ∧ w.cell? ⟨g, o + j, none⟩ = some (.int .i64 zs[j])
theorem IntsAt.below {w w' : World} {v : Value} {zs : List Int} (h : IntsAt w v zs) (hb : Below w.heap.size w w') : IntsAt w' v zs := by
  obtain ⟨A, cap, rfl, h3⟩ := h
  refine ⟨A, cap, rfl, fun j hj => ?_⟩
  obtain ⟨g, o, rfl, k1⟩ := h3 j hj
  exact ⟨g, o, rfl, by rw [hb.cell (World.block_lt_of_cell? w _ k1)]; exact k1⟩
section
variable {H : Type} {enc : TypeId × Value → H} {W : World} {base : Nat}
set_option maxRecDepth 100000 in
theorem open_nums {v : Value} {d : DataW H} {p : List MemPlace} (h : DataW.Trod enc Tryd.prog W 0 (fun _ => true) true 46 v d p) (o : Value.okWide Tryd.prog W .any base 46 v) :
    ∃ zs, IntsAt W v zs ∧ zs.length ≤ Rows.uptoBulk d := by
  obtain ⟨a0, len0, cap0, rfl⟩ := okWide_slice Tryd.underlying46 o
  obtain ⟨fuel, hf⟩ := h
  rcases open_ints Tryd.underlying46 Tryd.underlying3 (by kernel_rfl) hf with ⟨hcs, hx⟩ | ⟨x, l, c, zs, hcs, _, hl, hm, hz, hx, hcell, hwz⟩
  · simp [Value.cells] at hcs
    obtain ⟨rfl, rfl, rfl⟩ := hcs
    exact ⟨[], ⟨none, 0, rfl, fun j hj => absurd hj (by simp)⟩, Nat.zero_le _⟩
  · simp [Value.cells] at hcs
    obtain ⟨rfl, rfl, rfl⟩ := hcs
    have hzl : zs.length = cap0 := by simpa using hz
    have hlen : (zs.take len0).length = len0 := by rw [List.length_take]; omega
    refine ⟨zs.take len0, ⟨_, cap0, by rw [hlen], fun j hj => ?_⟩, ?_⟩
    · rw [hlen] at hj
      obtain ⟨b, off, spot⟩ := x
      have hc0 := hcell 0 (by omega)
      have hspot : spot = none := by simpa [Addr.add] using World.cell?_spot hc0
      subst hspot
      have hck := hcell j (by omega)
      rw [add_none] at hck
      refine ⟨b, off, rfl, ?_⟩
      rw [hck]
      simp [List.getD, show j < zs.length by omega]
    · have e := congrArg Prod.fst hx
      simp only at e
      rw [e, hlen]
      simp only [Rows.uptoBulk]
      have := bulk_length (H := H) (lits .i64 (zs.take len0))
      have e3 : (lits (H := H) .i64 (zs.take len0)).length = len0 := by simp [lits]; omega
      rw [e3] at this
      omega
end
end Go.Proofs.YtjkaigfpjebfbaaDoor
