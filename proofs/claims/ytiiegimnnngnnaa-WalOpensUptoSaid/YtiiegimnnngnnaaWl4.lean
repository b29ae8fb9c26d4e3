/- Records on sectors: Format; an Append's answer on a disk with power. No program is named here. -/
import Derived.Test.YtiiegimnnngnnaaWl3
namespace Go.Proofs.Ytiiegimnnngnnaa
set_option linter.unusedVariables false
namespace Wl

theorem fmt {D : Dk} {fr to : Nat} (hd : D.down = false) (hf : D.fuse = 0) (h1 : fr < to) (h2 : to ≤ D.n) :
    ∃ D', wrs D fr (fun _ => 0) 1 0 = (D', 0) ∧ Area D' fr to (fr + 1) [] ∧ D'.n = D.n ∧ D'.fuse = 0 ∧ D'.calls = D.calls + 2 ∧ (∀ j, D'.R j = if 64 * fr ≤ j ∧ j < 64 * fr + 64 then 0 else D.R j) ∧ D'.S = D'.R := by
  have w := wrs_wrote fr (fun _ => 0) 1 0 D hd (by omega)
  obtain ⟨D', e, hq⟩ : ∃ D' e, wrs D fr (fun _ => 0) 1 0 = (D', e) := ⟨_, _, rfl⟩
  rw [hq] at w
  simp only at w
  obtain ⟨n1, c1, f1, o1, z1⟩ := w
  obtain ⟨z2, z3⟩ := z1 hf
  subst z2
  rcases o1 with ⟨_, d1, r1, s1, k1⟩ | ⟨e1, _⟩
  · have r2 : ∀ j, D'.R j = if 64 * fr ≤ j ∧ j < 64 * fr + 64 then 0 else D.R j := fun j => by
      rw [r1]
      by_cases q : 64 * fr ≤ j ∧ j < 64 * fr + 64
      · rw [if_pos (by omega), if_pos q]
      · rw [if_neg (by omega), if_neg q]
    refine ⟨D', hq, ⟨d1, by omega, h1, rfl, by omega, Nat.zero_le _, fun j hj => ?_, fun k _ _ => by rw [s1]⟩, n1, z3, k1, r2, s1⟩
    unfold mk
    rw [r2, if_pos (by omega)]
    simp
  · cases e1
/-- What an Append answers where the disk has power. -/
def appOut (L : Lg) (b : List Nat) : Int := if 8192 < b.length then 2 else if L.n = 512 ∨ L.to - L.next < need b.length then 6 else 0
structure Done (D : Dk) (L : Lg) (rs : List (List Nat)) (b : List Nat) (D' : Dk) (L' : Lg) : Prop where
  holds : Holds D' L' (rs ++ [b])
  sure : D'.S = D'.R
  calls : D'.calls = D.calls + need b.length + 3
  n : L'.n = L.n + 1
  next : L'.next = L.next + need b.length
  R : ∀ j, D'.R j = if 64 * L.next ≤ j ∧ j < 64 * (L.next + need b.length) then (bin b).getD (j - 64 * L.next) 0 else if 64 * L.fr ≤ j ∧ j < 64 * L.fr + 64 then setMark L.m L.n (j - 64 * L.fr) else D.R j
theorem append_good {D : Dk} {L : Lg} {rs : List (List Nat)} {b : List Nat} (h : Holds D L rs) (hf : D.fuse = 0) :
    ∃ D' L', append D L b = (D', L', appOut L b) ∧ D'.n = D.n ∧ D'.fuse = 0 ∧ L'.fr = L.fr ∧ L'.to = L.to ∧ D'.calls ≤ D.calls + 200 ∧ (∀ j, ¬ (64 * L.fr ≤ j ∧ j < 64 * L.to) → D'.R j = D.R j ∧ (D'.S j = D.S j ∨ D'.S j = D.R j)) ∧
      (appOut L b ≠ 0 → D' = D ∧ L' = L) ∧ (appOut L b = 0 → Done D L rs b D' L') := by
  unfold appOut
  by_cases c1 : 8192 < b.length
  · rw [if_pos c1]
    exact ⟨D, L, Holds.append_long c1, rfl, hf, rfl, rfl, by omega, fun j _ => ⟨rfl, .inl rfl⟩, fun _ => ⟨rfl, rfl⟩, fun e => by cases e⟩
  · rw [if_neg c1]
    by_cases c2 : L.n = 512 ∨ L.to - L.next < need b.length
    · rw [if_pos c2]
      exact ⟨D, L, Holds.append_room (by omega) c2, rfl, hf, rfl, rfl, by omega, fun j _ => ⟨rfl, .inl rfl⟩, fun _ => ⟨rfl, rfl⟩, fun e => by cases e⟩
    · rw [if_neg c2]
      have hx := h.area.nx
      obtain ⟨D', L', e, h1, h2, h3, h4, h5, h6, h7, h8, h9⟩ := h.append (b := b) (by omega) (by omega) (by omega)
      obtain ⟨h10, h11⟩ := h5 hf
      subst h10
      rcases h9 with ⟨_, a1, a2, a3, a4, a5, a6⟩ | ⟨e1, _⟩
      · have := need_ge (show b.length ≤ 8192 by omega)
        exact ⟨D', L', h1, h2, h11, h7, h8, by omega, h6, fun e => absurd rfl e, fun _ => ⟨a1, a2, a3, a4, a5, a6⟩⟩
      · cases e1
end Wl
end Go.Proofs.Ytiiegimnnngnnaa
