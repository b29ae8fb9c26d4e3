/- Both sets, one step each. -/
import Derived.Test.YtghfelfljblkbaaRAtMost
import Derived.Test.YtghfelfljblkbaaAtMost
namespace Go.Proofs.Ytghfelfljblkbaa
open Go.RowKit Go.Sort
set_option linter.unusedVariables false

/-- The one set has gone a step ahead. -/
structure Half (w0 w : World) (p q : Nat) (A B : Option Addr) (ca cb n : Nat) (L L2 : List (List Int)) : Prop where
  s : SetAt w p A ca n L2
  r : RSetAt w q B cb n L
  bel : Below w0.heap.size w0 w
  lo : ∀ k, sF p A k ∨ sF q B k → w0.heap.size ≤ k
  ne : ∀ k, sF p A k → ¬ sF q B k
theorem Two.fst {w0 w w' : World} {p q ca cb ca' n : Nat} {A A' B : Option Addr} {L L' : List (List Int)} (h : Two w0 w p q A B ca cb n L) (hu : Upd (sF p A) w w') (hs : SetAt w' p A' ca' n L') (hf : ∀ k, sF p A' k → sF p A k ∨ w.heap.size ≤ k) : Half w0 w' p q A' B ca' cb n L L' := by
  refine ⟨hs, h.r.upd hu (fun k hk hT => h.ne k hT hk) h.s.notL, h.bel.trans (hu.below (fun k hk => h.lo k (.inl hk)) h.bel.size), fun k hk => ?_, fun k h1 h2 => ?_⟩
  · rcases hk with hk | hk
    · rcases hf k hk with h9 | h9
      · exact h.lo k (.inl h9)
      · exact Nat.le_trans h.bel.size h9
    · exact h.lo k (.inr hk)
  · rcases hf k h1 with h9 | h9
    · exact h.ne k h9 h2
    · have := h.r.lt k h2; omega
theorem Half.snd {w0 w w' : World} {p q ca cb cb' n : Nat} {A B B' : Option Addr} {L L' : List (List Int)} (h : Half w0 w p q A B ca cb n L L') (hu : Upd (sF q B) w w') (hr : RSetAt w' q B' cb' n L') (hf : ∀ k, sF q B' k → sF q B k ∨ w.heap.size ≤ k) (hsh : ∀ c ∈ L', c.length ≤ 30) : Two w0 w' p q A B' ca cb' n L' := by
  refine ⟨h.s.upd hu (fun k hk hT => h.ne k hk hT) h.r.notL, hr, h.bel.trans (hu.below (fun k hk => h.lo k (.inr hk)) h.bel.size), fun k hk => ?_, fun k h1 h2 => ?_, hsh⟩
  · rcases hk with hk | hk
    · exact h.lo k (.inl hk)
    · rcases hf k hk with h9 | h9
      · exact h.lo k (.inr h9)
      · exact Nat.le_trans h.bel.size h9
  · rcases hf k h2 with h9 | h9
    · exact h.ne k h1 h9
    · have := h.s.lt k h1; omega
theorem inn_mem {n : Nat} {a : Int} {c : List Int} : ∀ {us : List Int} {L : List (List Int)}, c ∈ (inn n a us L).2 → c ∈ L ∨ c.length ≤ 2
  | [], L, h => .inl h
  | b :: r, L, h => by
    unfold inn at h
    split at h
    · rcases inn_mem h with h | h
      · rcases addL_mem h with h | h
        · exact .inl h
        · exact .inr (by simpa using h)
      · exact .inr h
    · exact .inl h
theorem outr_mem {n : Nat} {c : List Int} : ∀ {us : List Int} {L : List (List Int)}, c ∈ (outr n us L).2 → c ∈ L ∨ c.length ≤ 2
  | [], L, h => .inl h
  | a :: r, L, h => by
    unfold outr at h
    split at h
    · rcases outr_mem h with h | h
      · exact inn_mem h
      · exact .inr h
    · exact inn_mem h
theorem atL_mem {n : Nat} {L : List (List Int)} {zs c : List Int} (h : c ∈ (atL n L zs).2) : c ∈ L ∨ c.length ≤ 2 := by
  unfold atL at h
  split at h
  · exact outr_mem h
  · exact .inl h
end Go.Proofs.Ytghfelfljblkbaa
