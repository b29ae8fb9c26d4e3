/- An Append on any disk that holds; what a crash behind it leaves. No program is named here. -/
import Derived.Test.YtiiegimnnngnnaaWl5
namespace Go.Proofs.Ytiiegimnnngnnaa
set_option linter.unusedVariables false
namespace Wl

/-- Whatever a crash picks, an area is there. -/
def Heals (D : Dk) (fr to : Nat) (Q : List (List Nat) → Prop) : Prop := D.Ok → ∀ picks : List Nat, (∀ x ∈ picks, x < 256) → ∃ rs nx, Q rs ∧ Area (D.crash picks) fr to nx rs
theorem Area.heals {D : Dk} {fr to nx : Nat} {rs : List (List Nat)} (h : Area D fr to nx rs) : Heals D fr to (fun r => r = rs) := fun ok picks hp => ⟨rs, nx, rfl, crash_a h rfl ok hp fun j _ _ => ⟨rfl, .inl rfl⟩⟩
theorem Heals.weak {D : Dk} {fr to : Nat} {Q Q' : List (List Nat) → Prop} (h : Heals D fr to Q) (hq : ∀ r, Q r → Q' r) : Heals D fr to Q' := fun ok picks hp => by
  obtain ⟨rs, nx, h1, h2⟩ := h ok picks hp
  exact ⟨rs, nx, hq _ h1, h2⟩
theorem Area.setFuse {D : Dk} {fr to nx : Nat} {rs : List (List Nat)} (h : Area D fr to nx rs) (i : Int) : Area (D.setFuse i) fr to nx rs := ⟨h.up, h.fit, h.lt, h.laid, h.nx, h.few, h.marks, h.sure⟩
theorem Holds.setFuse {D : Dk} {L : Lg} {rs : List (List Nat)} (h : Holds D L rs) (i : Int) : Holds (D.setFuse i) L rs := ⟨h.area.setFuse i, h.n, h.fine, h.m⟩
theorem append_all {D : Dk} {L : Lg} {rs : List (List Nat)} {b : List Nat} (h : Holds D L rs) :
    ∃ D' L' e, append D L b = (D', L', e) ∧ D'.n = D.n ∧ D'.calls ≤ D.calls + 200 ∧ L'.fr = L.fr ∧ L'.to = L.to ∧ L'.next ≤ L'.to ∧ L'.n ≤ L.n + 1 ∧
      ((e = 2 ∧ 8192 < b.length ∧ D' = D ∧ L' = L) ∨ (e = 6 ∧ D' = D ∧ L' = L) ∨ (e = 0 ∧ Holds D' L' (rs ++ [b])) ∨
       (e = 7 ∧ L'.failed = true ∧ Heals D' L.fr L.to (fun r => r = rs ∨ r = rs ++ [b]))) := by
  have hx := h.area.nx
  by_cases c1 : 8192 < b.length
  · exact ⟨D, L, 2, Holds.append_long c1, rfl, by omega, rfl, rfl, hx, by omega, .inl ⟨rfl, c1, rfl, rfl⟩⟩
  · by_cases c2 : L.n = 512 ∨ L.to - L.next < need b.length
    · exact ⟨D, L, 6, Holds.append_room (by omega) c2, rfl, by omega, rfl, rfl, hx, by omega, .inr (.inl ⟨rfl, rfl, rfl⟩)⟩
    · have hroom : L.next + need b.length ≤ L.to := by omega
      have hnd := need_ge (show b.length ≤ 8192 by omega)
      obtain ⟨D', L', e, h1, h2, h3, _, _, _, h7, h8, h9⟩ := h.append (b := b) (by omega) (by omega) hroom
      rcases h9 with ⟨e0, a1, a2, a3, a4, a5, a6⟩ | ⟨e7, a1, a2, a3, a4, a5⟩
      · exact ⟨D', L', e, h1, h2, by omega, h7, h8, a1.area.nx, by omega, .inr (.inr (.inl ⟨e0, a1⟩))⟩
      · refine ⟨D', L', e, h1, h2, by omega, h7, h8, by rw [a4, h8]; exact hx, by omega, .inr (.inr (.inr ⟨e7, a2, fun ok picks hp => ?_⟩))⟩
        rcases a5 with a5 | ⟨M, b1, b2, b3, b4⟩
        · exact ⟨rs, L.next, .inl rfl, crash_a h.area h2 ok hp fun j _ _ => a5 j⟩
        · exact crash_b h h2 ok hp (by omega) hroom b1 b2 b3 b4
/-- A log that the disk has refused takes none. -/
theorem append_failed {D : Dk} {L : Lg} {b : List Nat} (hf : L.failed = true) (hn : L.n ≠ 512) : append D L b = (D, L, if 8192 < b.length then 2 else if L.to - L.next < need b.length then 6 else 13) := by
  unfold append
  by_cases c1 : 8192 < b.length
  · rw [if_pos c1, if_pos c1]
  · rw [if_neg c1, if_neg c1]
    by_cases c2 : L.to - L.next < need b.length
    · rw [if_pos (.inr c2), if_pos c2]
    · rw [if_neg (by omega), if_neg c2, if_pos hf]
end Wl
end Go.Proofs.Ytiiegimnnngnnaa
