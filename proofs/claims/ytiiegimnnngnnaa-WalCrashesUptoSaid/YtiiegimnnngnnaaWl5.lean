/- Two areas side by side; a log that is not touched. No program is named here. -/
import Derived.Test.YtiiegimnnngnnaaWl4
namespace Go.Proofs.Ytiiegimnnngnnaa
set_option linter.unusedVariables false
namespace Wl

theorem Area.keep {D D' : Dk} {fr to nx : Nat} {rs : List (List Nat)} (h : Area D fr to nx rs) (hup : D'.down = false) (hn : D'.n = D.n) (hj : ∀ j, 64 * fr ≤ j → j < 64 * to → D'.R j = D.R j ∧ (D'.S j = D.S j ∨ D'.S j = D.R j)) : Area D' fr to nx rs := by
  have hle := h.laid.le
  have hnx := h.nx
  have hlt := h.lt
  refine ⟨hup, by rw [hn]; exact h.fit, h.lt, h.laid.congr fun k h1 h2 => (hj k (by omega) (by omega)).1.symm, h.nx, h.few, fun j h5 => ?_, fun k h1 h2 => ?_⟩
  · rw [← h.marks j h5]
    exact mk_congr fun k hk => (hj _ (by omega) (by omega)).1
  · obtain ⟨a1, a2⟩ := hj k h1 h2
    rw [a1]
    rcases a2 with a2 | a2
    · rw [a2]; exact h.sure k h1 h2
    · exact a2
theorem Holds.keep {D D' : Dk} {L : Lg} {rs : List (List Nat)} (h : Holds D L rs) (hup : D'.down = false) (hn : D'.n = D.n) (hj : ∀ j, 64 * L.fr ≤ j → j < 64 * L.to → D'.R j = D.R j ∧ (D'.S j = D.S j ∨ D'.S j = D.R j)) : Holds D' L rs := by
  have hlt := h.area.lt
  exact ⟨h.area.keep hup hn hj, h.n, h.fine, fun k hk => by rw [(hj _ (by omega) (by omega)).1]; exact h.m k hk⟩
end Wl
end Go.Proofs.Ytiiegimnnngnnaa
