/- A region that draws its order, over whatever order of worlds: XMono's laws; the order in which new blocks of one type may be filled in. -/
import Derived.Test.YtjkaigfpjebfbaaGreatDoorMono
import Derived.Test.YtjkaigfpjebfbaaGreatDoorHeap
namespace Go.Proofs.YtjkaigfpjebfbaaGreatDoor
open Go.RowKit
set_option linter.unusedVariables false

structure Pre (R : World → World → Prop) : Prop where
  refl : ∀ a, R a a
  trans : ∀ a b c, R a b → R b c → R a c
section
variable {P : Program} {ops : Array Oper} {Q : Exit → Act → World → Prop} {R : World → World → Prop}
theorem takeR (hp : Pre R) (i : Nat) {oi : Oper} {fuel : Nat} {listed : Array Bool} {a : Act} {w : World} (hi : ops[i]? = some oi)
    (hs : Region.noSelect ops = true) (hf : Region.free .any ops listed i = true) (hrd : (Region.ready .any ops listed).contains i = true)
    (hQ : ∀ c d v a w, Q (.panic c) (Act.put a d v) w → Q (.panic c) a w)
    (h : ∀ K : Act → Prop, (∀ a, wpAnyM P .any ops Q R fuel (listed.setIfInBounds i true) a w → K a) → if Region.wanted oi (yielded ops a.tmps) then (∃ v, (∀ w1, R w w1 → oi.quietAt P a (R w1) w1 v) ∧ K (a.put oi.dst v)) else K (a.put oi.dst undef)) : wpAnyM P .any ops Q R (fuel + 1) listed a w := by
  have h1 := h (fun a => wpAnyM P .any ops Q R fuel (listed.setIfInBounds i true) a w) (fun _ h => h)
  by_cases hw : Region.wanted oi (yielded ops a.tmps) = true
  · rw [if_pos hw] at h1
    obtain ⟨v, h2, h3⟩ := h1
    exact wpAnyM_first hp.refl hp.trans hi (Region.noSelect_spec hs) hQ fuel listed a w (Region.free_spec hi hf) (by simpa using hrd) (.inl ⟨hw, h2⟩) h3
  · rw [if_neg hw] at h1
    exact wpAnyM_first hp.refl hp.trans hi (Region.noSelect_spec hs) hQ fuel listed a w (Region.free_spec hi hf) (by simpa using hrd) (.inr ⟨by simpa using hw, rfl⟩) h1
theorem soloR (i : Nat) {oi : Oper} {fuel : Nat} {listed : Array Bool} {a : Act} {w : World} (hi : ops[i]? = some oi) (hrd : Region.ready .any ops listed = [i])
    (h : ∀ w1, R w w1 → ∀ K : Act → World → Prop, (∀ a w', R w1 w' → wpAnyM P .any ops Q R fuel (listed.setIfInBounds i true) a w' → K a w') → if Region.wanted oi (yielded ops a.tmps) then Oper.wp P oi a w1 K Q else K (a.put oi.dst undef) w1) : wpAnyM P .any ops Q R (fuel + 1) listed a w := by
  intro w1 hw1
  refine ⟨fun h0 => (by rw [h0] at hrd; cases hrd), fun j hj => ?_⟩
  rw [hrd, List.mem_singleton] at hj
  subst hj
  have h1 := h w1 hw1 (fun a' w' => R w1 w' ∧ wpAnyM P .any ops Q R fuel (listed.setIfInBounds j true) a' w') (fun _ _ a b => ⟨a, b⟩)
  unfold wpOp
  simp only [hi]
  split
  · next hw => rw [if_pos hw] at h1; exact .inl h1
  · next hw => rw [if_neg hw] at h1; exact h1
theorem twoR (i j : Nat) {oi oj : Oper} {fuel : Nat} {listed : Array Bool} {a : Act} {w : World} (hi : ops[i]? = some oi) (hj : ops[j]? = some oj) (hrd : Region.ready .any ops listed = [i, j])
    (h : ∀ w1, R w w1 → ∀ K : Act → World → Prop, (∀ a w', R w1 w' → wpAnyM P .any ops Q R fuel (listed.setIfInBounds i true) a w' → K a w') → if Region.wanted oi (yielded ops a.tmps) then Oper.wp P oi a w1 K Q else K (a.put oi.dst undef) w1)
    (h' : ∀ w1, R w w1 → ∀ K : Act → World → Prop, (∀ a w', R w1 w' → wpAnyM P .any ops Q R fuel (listed.setIfInBounds j true) a w' → K a w') → if Region.wanted oj (yielded ops a.tmps) then Oper.wp P oj a w1 K Q else K (a.put oj.dst undef) w1) : wpAnyM P .any ops Q R (fuel + 1) listed a w := by
  intro w1 hw1
  refine ⟨fun h0 => (by rw [h0] at hrd; cases hrd), fun k hk => ?_⟩
  rw [hrd] at hk
  rcases List.mem_cons.1 hk with rfl | hk
  · have h1 := h w1 hw1 (fun a' w' => R w1 w' ∧ wpAnyM P .any ops Q R fuel (listed.setIfInBounds k true) a' w') (fun _ _ a b => ⟨a, b⟩)
    unfold wpOp
    simp only [hi]
    split
    · next hw => rw [if_pos hw] at h1; exact .inl h1
    · next hw => rw [if_neg hw] at h1; exact h1
  · rw [List.mem_singleton] at hk
    subst hk
    have h1 := h' w1 hw1 (fun a' w' => R w1 w' ∧ wpAnyM P .any ops Q R fuel (listed.setIfInBounds k true) a' w') (fun _ _ a b => ⟨a, b⟩)
    unfold wpOp
    simp only [hj]
    split
    · next hw => rw [if_pos hw] at h1; exact .inl h1
    · next hw => rw [if_neg hw] at h1; exact h1
theorem doneR {listed : Array Bool} {a : Act} {w : World} (hr : Region.ready .any ops listed = []) (h : ∀ w1, R w w1 → Q .normal a w1) :
    ∀ fuel, wpAnyM P .any ops Q R fuel listed a w
  | 0 => fun w1 hw1 => ⟨hr, h w1 hw1⟩
  | _ + 1 => fun w1 hw1 => ⟨fun _ => h w1 hw1, by rw [hr]; simp⟩
theorem regionR (hp : Pre R) {id : Nat} {a : Act} {w : World} (hm : P.follows .mixedOrders = true)
    (h : wpAnyM P .any ops (NoPanic Q) R ops.size (Array.replicate ops.size false) a w.drew) : (Code.region id ops true).wp P Q a w :=
  wp_region_noPanic (wp_region_any hm (wpAny_of_M hp.refl _ _ _ _ h))
end
/-- Later: blocks of type t from number B on may be filled in, all else that was there stands. -/
structure Soft (B : Nat) (t : TypeId) (w w' : World) : Prop where
  os : w'.os = w.os
  tape : w'.tape = w.tape
  output : w'.output = w.output
  size : w.heap.size ≤ w'.heap.size
  block : ∀ k, k < w.heap.size → w'.heap[k]? = w.heap[k]? ∨ (B ≤ k ∧ ∃ cs cs' : Array Value, w.heap[k]? = some (.cells cs t (0, 0)) ∧ w'.heap[k]? = some (.cells cs' t (0, 0)) ∧ cs'.size = cs.size)
namespace Soft
variable {B : Nat} {t : TypeId} {w w' w'' : World}
theorem refl (w : World) : Soft B t w w := ⟨rfl, rfl, rfl, Nat.le_refl _, fun _ _ => .inl rfl⟩
theorem trans (h : Soft B t w w') (h' : Soft B t w' w'') : Soft B t w w'' :=
  ⟨h'.os.trans h.os, h'.tape.trans h.tape, h'.output.trans h.output, Nat.le_trans h.size h'.size, fun k hk => by
    rcases h.block k hk with h1 | ⟨h1, cs, cs', a1, a2, a3⟩
    · rcases h'.block k (Nat.lt_of_lt_of_le hk h.size) with h2 | ⟨h2, ds, ds', b1, b2, b3⟩
      · exact .inl (h2.trans h1)
      · exact .inr ⟨h2, ds, ds', h1.symm.trans b1, b2, b3⟩
    · rcases h'.block k (Nat.lt_of_lt_of_le hk h.size) with h2 | ⟨h2, ds, ds', b1, b2, b3⟩
      · exact .inr ⟨h1, cs, cs', a1, h2.trans a2, a3⟩
      · rw [a2] at b1
        injection b1 with b1
        injection b1 with b1 _ _
        subst b1
        exact .inr ⟨h1, cs, ds', a1, b2, b3.trans a3⟩⟩
theorem pre (B : Nat) (t : TypeId) : Pre (Soft B t) := ⟨refl, fun _ _ _ => trans⟩
theorem of_below (h : Below w.heap.size w w') : Soft B t w w' := ⟨h.os, h.tape, h.output, h.size, fun k hk => .inl (h.block k hk)⟩
theorem below (h : Soft B t w w') (hB : B ≤ w.heap.size) : Below B w w' := ⟨h.os, h.tape, h.output, h.size, fun k hk => by
  rcases h.block k (by omega) with h1 | ⟨h1, _⟩
  · exact h1
  · omega⟩
theorem drew (w : World) : Soft B t w w.drew := ⟨rfl, rfl, rfl, Nat.le_refl _, fun _ _ => .inl rfl⟩
theorem other {k : Nat} {t' : TypeId} {C : Array Value} (h : Soft B t w w') (hb : Blk w k t' C) (ht : t' ≠ t) : Blk w' k t' C := by
  rcases h.block k hb.lt with h1 | ⟨_, cs, cs', a1, _⟩
  · exact h1.trans hb
  · unfold Blk at hb
    rw [hb] at a1
    injection a1 with a1
    injection a1 with _ a1 _
    exact absurd a1 ht
theorem same {k : Nat} {C : Array Value} (h : Soft B t w w') (hb : Blk w k t C) : ∃ C', Blk w' k t C' ∧ C'.size = C.size := by
  rcases h.block k hb.lt with h1 | ⟨_, cs, cs', a1, a2, a3⟩
  · exact ⟨C, h1.trans hb, rfl⟩
  · unfold Blk at hb
    rw [hb] at a1
    injection a1 with a1
    injection a1 with a1 _ _
    subst a1
    exact ⟨cs', a2, a3⟩
theorem alloc (w : World) (o : Obj) : Soft B t w (w.alloc o) := of_below ((Below.refl _ _).alloc (Nat.le_refl _) _)
theorem set_ {k : Nat} {C : Array Value} (hb : Blk w k t C) (hk : B ≤ k) (i : Nat) (u : Value) : Soft B t w (w.setCell ⟨k, i, none⟩ u) := by
  refine ⟨rfl, rfl, rfl, by simp [World.setCell], fun j hj => ?_⟩
  by_cases e : j = k
  · subst e
    exact .inr ⟨hk, C, _, hb, hb.set_ i u, by simp⟩
  · exact .inl (Below.heap_setCell w _ u j e)
end Soft
end Go.Proofs.YtjkaigfpjebfbaaGreatDoor
