/- Rows of texts. -/
import Derived.Test.YtjkaigfpjebfbaaDoorTail2
import Derived.Test.YtjkaigfpjebfbaaDoorTxt7
import Derived.Test.YtjkaigfpjebfbaaDoorWords
import Derived.BigQuiet
import Derived.Deep.QuietTactic
namespace Go.Proofs.YtjkaigfpjebfbaaDoor
open Go.RowKit Go.Shelf Go.Lib
set_option linter.unusedVariables false

def TextsAt (w : World) (v : Value) (l : List ByteArray) : Prop :=
  ∃ ao cap, v = .slice ao l.length cap ∧ ∀ j (h : j < l.length), ∃ g, ao = some ⟨g, 0, none⟩ ∧ w.cell? ⟨g, j, none⟩ = some (.string l[j])
theorem TextsAt.of {w : World} {k : Nat} {v : Value} {l : List ByteArray} (h : w.ownsRow k 9 1 v l.length (l.map Value.string)) : TextsAt w v l := by
  rcases h.2 with ⟨rfl, hn⟩ | ⟨g, cap, cur, rfl, _⟩
  · exact ⟨none, 0, by rw [hn], fun j hj => by omega⟩
  · refine ⟨_, cap, rfl, fun j hj => ⟨g, rfl, ?_⟩⟩
    rw [h.cellAt j (by omega)]
    simp [hj]
theorem TextsAt.later {w w' : World} {v : Value} {l : List ByteArray} (h : TextsAt w v l) (hb : Below w.heap.size w w') : TextsAt w' v l := by
  obtain ⟨ao, cap, rfl, hc⟩ := h
  refine ⟨ao, cap, rfl, fun j hj => ?_⟩
  obtain ⟨g, e, hg⟩ := hc j hj
  exact ⟨g, e, by rw [hb.cell (World.block_lt_of_cell? w _ hg)]; exact hg⟩
theorem small_k (m : Int) (c : Nat) (hc : 0 < c) (hc2 : c ≤ 9223372036854775807) : ∃ N : Nat, (IntKind.u64.wrap m).tmod (c : Int) = (N : Int) ∧ N < c := by
  obtain ⟨z, hz⟩ : ∃ z, z = IntKind.u64.wrap m := ⟨_, rfl⟩
  have e : IntKind.u64.wrap m = m % 18446744073709551616 := rfl
  have h0 : 0 ≤ z := by rw [hz, e]; omega
  rw [← hz, Int.tmod_eq_emod_of_nonneg h0]
  have h1 := Int.emod_nonneg z (b := (c : Int)) (by omega)
  have h2 := Int.emod_lt_of_pos z (b := (c : Int)) (by omega)
  exact ⟨(z % (c : Int)).toNat, by omega, by omega⟩
end Go.Proofs.YtjkaigfpjebfbaaDoor
