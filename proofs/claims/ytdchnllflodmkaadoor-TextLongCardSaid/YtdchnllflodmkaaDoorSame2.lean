/- Rows of texts later on; how many words there are. -/
import Derived.Test.YtdchnllflodmkaaDoorSame
import Derived.Test.YtdchnllflodmkaaDoorTxt7
namespace Go.Proofs.YtdchnllflodmkaaDoor
open Go.RowKit Go.Shelf Go.Lib
set_option linter.unusedVariables false

theorem TextsAt.later {w w' : World} {v : Value} {l : List ByteArray} (h : TextsAt w v l) (hb : Below w.heap.size w w') : TextsAt w' v l := by
  obtain ⟨ao, cap, rfl, hc⟩ := h
  refine ⟨ao, cap, rfl, fun j hj => ?_⟩
  obtain ⟨g, e, hg⟩ := hc j hj
  exact ⟨g, e, by rw [hb.cell (World.block_lt_of_cell? w _ hg)]; exact hg⟩
theorem W_len (s : ByteArray) : ∀ (n pos : Nat) (st : Option Nat) (acc : List (Nat × Nat)), s.size - pos = n → (W s pos st acc).1.length ≤ acc.length + n
  | 0, pos, st, acc, h => by rw [W_end _ _ _ _ (by omega)]; exact Nat.le_refl _
  | n + 1, pos, st, acc, h => by
    rw [W_step _ _ _ _ (by omega)]
    split
    · split
      · refine Nat.le_trans (W_len s n (pos + 1) none _ (by omega)) ?_
        rw [List.length_append]
        show acc.length + 1 + n ≤ _
        omega
      · exact Nat.le_trans (W_len s n (pos + 1) none acc (by omega)) (by omega)
    · exact Nat.le_trans (W_len s n (pos + 1) _ acc (by omega)) (by omega)
theorem words_len (s : ByteArray) : (wordsOf s).length ≤ s.size + 1 := by
  unfold wordsOf closeSpans
  rw [List.length_map]
  have := W_len s s.size 0 none [] rfl
  simp only [List.length_nil] at this
  split
  · rw [List.length_append]
    show _ + 1 ≤ _
    omega
  · omega
theorem Texts.at {k : Nat} {w : World} {v : Value} {l : List ByteArray} (h : Texts k w v l) : TextsAt w v l := by
  obtain ⟨_, _, _, ho⟩ := h
  exact TextsAt.of ho
theorem same_text (t : ByteArray) : (t.toList == t.toList) = true := beq_self_eq_true _
theorem small_k (m : Int) (c : Nat) (hc : 0 < c) (hc2 : c ≤ 9223372036854775807) : ∃ N : Nat, (IntKind.u64.wrap m).tmod (c : Int) = (N : Int) ∧ N < c := by
  obtain ⟨z, hz⟩ : ∃ z, z = IntKind.u64.wrap m := ⟨_, rfl⟩
  have e : IntKind.u64.wrap m = m % 18446744073709551616 := rfl
  have h0 : 0 ≤ z := by rw [hz, e]; omega
  rw [← hz, Int.tmod_eq_emod_of_nonneg h0]
  have h1 := Int.emod_nonneg z (b := (c : Int)) (by omega)
  have h2 := Int.emod_lt_of_pos z (b := (c : Int)) (by omega)
  exact ⟨(z % (c : Int)).toNat, by omega, by omega⟩
end Go.Proofs.YtdchnllflodmkaaDoor
