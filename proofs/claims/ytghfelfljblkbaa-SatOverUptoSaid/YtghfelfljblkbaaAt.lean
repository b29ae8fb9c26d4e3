/- cnf: At. -/
import Derived.Test.YtghfelfljblkbaaCopyC
namespace Go.Proofs.Ytghfelfljblkbaa
open Go.RowKit Go.Sort
set_option linter.unusedVariables false

set_option maxRecDepth 100000 in
set_option maxHeartbeats 1000000 in
theorem At_any (p cap n : Nat) (A : Option Addr) (L : List (List Int)) (i : Int) (w : World) (h : SetAt w p A cap n L) (hL : ∀ r ∈ L, r.length ≤ 1048576) :
    Calls Try.prog 38 #[.pointer (some ⟨p, 0, none⟩), .int .i64 i] w fun e w' => ∃ v, e = .returned v ∧ OwnL w' w.heap.size v (if 0 ≤ i then L.getD i.toNat [] else []) ∧ Below w.heap.size w w' := by
  have k1 : w.cell? ⟨p, 1, none⟩ = some (.slice A L.length cap) := h.blk.cell 1
  have HLN := Lib.hid (Len_any p cap n A L w h)
  by_cases h0 : 0 ≤ i
  · rw [if_pos h0]
    have h0' : decide (i < 0) = false := decide_eq_false (by omega)
    obtain ⟨k, rfl⟩ : ∃ k : Nat, i = (k : Int) := ⟨i.toNat, by omega⟩
    rw [Int.toNat_natCast]
    by_cases hk : k < L.length
    · have hk' : decide ((L.length : Int) ≤ (k : Int)) = false := decide_eq_false (by omega)
      have hk2 : (k : Int) < (L.length : Int) := by omega
      obtain ⟨xs, hox, hix⟩ := h.row
      obtain ⟨g, Aj, cj, hA, kg, hlj⟩ := row_cell hox hix hk
      subst hA
      have hg : L.getD k [] = L[k] := by rw [List.getD_eq_getElem?_getD, List.getElem?_eq_getElem hk]; rfl
      rw [hg]
      obtain ⟨r, hr⟩ : ∃ r, r = L[k] := ⟨_, rfl⟩
      have hrl : r.length ≤ 1048576 := by rw [hr]; exact hL _ (List.getElem_mem hk)
      rw [← hr] at kg hlj ⊢
      obtain ⟨q, hq⟩ : ∃ q, q = r.length := ⟨_, rfl⟩
      have HCL := Lib.hid (clone_any Aj q cj r w (by rw [hq]; exact hlj) (by rw [hq]; exact hrl))
      rw [← hq] at kg
      clear hox hix hlj hr hrl hq hg h hL
      go_enter Try.func38, Try.ntmps38
      go_wp2_with (first
        | (go_at_call 32; refine HLN.out.mono ?_; rintro e w1 ⟨rfl, rfl⟩)
        | (go_at_call 62; refine HCL.out.mono ?_; rintro e w1 ⟨v, rfl, ho, hb⟩))
      go_ret
      exact ⟨v, rfl, ho, hb⟩
    · have hk' : decide ((L.length : Int) ≤ (k : Int)) = true := decide_eq_true (by omega)
      have hg : L.getD k [] = [] := by rw [List.getD_eq_getElem?_getD, List.getElem?_eq_none (by omega)]; rfl
      rw [hg]
      clear h hL hg
      go_enter Try.func38, Try.ntmps38
      go_wp2_with (go_at_call 32; refine HLN.out.mono ?_; rintro e w1 ⟨rfl, rfl⟩)
      go_ret
      exact ⟨_, rfl, World.ownsRow_nil _ _ _ _, Below.refl _ _⟩
  · rw [if_neg h0]
    have h0' : decide (i < 0) = true := decide_eq_true (by omega)
    clear h hL
    go_enter Try.func38, Try.ntmps38
    go_wp2_with fail
    go_ret
    exact ⟨_, rfl, World.ownsRow_nil _ _ _ _, Below.refl _ _⟩
end Go.Proofs.Ytghfelfljblkbaa
