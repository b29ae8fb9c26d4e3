/- prop: marks of levels. -/
import Derived.Test.YtghfelfljblkbaaPr
import Derived.Test.YtghfelfljblkbaaTr
import Derived.Test.YtghfelfljblkbaaRSet
import Derived.Test.YtghfelfljblkbaaRHolds
namespace Go.Proofs.Ytghfelfljblkbaa
open Go.RowKit Go.Sort
set_option linter.unusedVariables false

/-- Marks of levels: each level has begun behind the last. -/
def MkOk (M : List Nat) (T : List Int) : Prop := M.Pairwise (· < ·) ∧ ∀ m ∈ M, m < T.length
theorem MkOk.nil (T : List Int) : MkOk [] T := ⟨List.Pairwise.nil, by simp⟩
theorem MkOk.push {M : List Nat} {T R : List Int} {x : Int} (h : MkOk M T) (hR : (T ++ [x]) <+: R) : MkOk (M ++ [T.length]) R := by
  have hl := hR.length_le
  rw [List.length_append, List.length_singleton] at hl
  refine ⟨?_, fun m hm => ?_⟩
  · rw [List.pairwise_append]
    exact ⟨h.1, by simp, fun a ha b hb => by rw [List.mem_singleton.1 hb]; exact h.2 a ha⟩
  · rcases List.mem_append.1 hm with h1 | h1
    · have := h.2 m h1; omega
    · rw [List.mem_singleton.1 h1]; omega
theorem MkOk.pop {M : List Nat} {T : List Int} {m : Nat} (h : MkOk (M ++ [m]) T) : m < T.length ∧ MkOk M (T.take m) := by
  have h1 := h.2 m (by simp)
  refine ⟨h1, (List.pairwise_append.1 h.1).1, fun a ha => ?_⟩
  have := (List.pairwise_append.1 h.1).2.2 a ha m (by simp)
  rw [List.length_take]
  omega
theorem RSetAt.clsK {w : World} {q cb n : Nat} {B : Option Addr} {L : List (List Int)} (h : RSetAt w q B cb n L) : ClsK w (fun i => i < w.heap.size) B L := by
  refine ⟨fun i hi => hi, fun h0 => ?_⟩
  obtain ⟨xs, ho, hi⟩ := h.row
  obtain ⟨g, _, _, hA, _, _⟩ := row_cell ho hi (j := 0) h0
  refine ⟨g, hA, (ho.lt g (by rw [hA]; rfl)).2, fun j hj => ?_⟩
  obtain ⟨Aj, cj, h1, h2, h3⟩ := hi.2 j hj
  subst hA
  exact ⟨Aj, cj, by rw [ho.cellAt j (by omega)]; exact h1, h2, fun g o e => (h3 g o e).lt⟩
theorem fol_pre {n : Nat} {L : List (List Int)} {T R : List Int} (h : Pr.Fol L T R) (hL : Pr.Cl n L) (hT : Un n T) : T <+: R := (Pr.fol_un h hL hT).2
end Go.Proofs.Ytghfelfljblkbaa
