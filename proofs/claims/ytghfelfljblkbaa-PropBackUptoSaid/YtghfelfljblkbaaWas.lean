/- PropBack: rows of literals kept beside a trail. -/
import Derived.Test.YtghfelfljblkbaaAwakeP
import Derived.Test.YtghfelfljblkbaaMk
import Derived.Test.YtghfelfljblkbaaBothP
import Derived.Test.YtghfelfljblkbaaSameL
namespace Go.Proofs.Ytghfelfljblkbaa
open Go.RowKit Go.Sort
set_option linter.unusedVariables false

/-- A row of rows of literals, none of which lies in a trail's blocks. -/
structure WasAt (w : World) (base : Nat) (A : Option Addr) (k c : Nat) (xs : List Value) (Bs : List (List Int)) (F : Nat → Prop) : Prop where
  row : w.ownsRow base 22 1 (.slice A k c) k xs
  len : Bs.length = k
  el : ∀ j (h : j < Bs.length), ∃ Aj cj, xs[j]? = some (.slice Aj (Bs[j]).length cj) ∧ Lits w Aj (Bs[j]).length Bs[j] ∧ ∀ g o, Aj = some ⟨g, o, none⟩ → IsL w g ∧ ¬ F g
  own : ∀ i, (Value.slice A 0 0).ownBlock = some i → ¬ F i
theorem WasAt.nil (w : World) (base : Nat) (F : Nat → Prop) : WasAt w base none 0 0 [] [] F := ⟨World.ownsRow_nil _ _ _ _, rfl, fun j h => absurd h (by simp), fun i hi => by cases hi⟩
section
variable {w w' : World} {base k c : Nat} {A : Option Addr} {xs : List Value} {Bs : List (List Int)} {F F' : Nat → Prop}
theorem WasAt.upd {S : Nat → Prop} (h : WasAt w base A k c xs Bs F) (hu : Upd S w w') (hS : ∀ i, S i → F i) (hF : ∀ i, F' i → F i ∨ w.heap.size ≤ i) : WasAt w' base A k c xs Bs F' := by
  refine ⟨own_upd h.row hu (fun i hi hs => h.own i (by rw [← hi]; exact ownB) (hS i hs)), h.len, fun j hj => ?_, fun i hi hf => ?_⟩
  · obtain ⟨Aj, cj, h1, h2, h3⟩ := h.el j hj
    refine ⟨Aj, cj, h1, h2.upd hu (fun g o e hs => (h3 g o e).2 (hS g hs)), fun g o e => ⟨(h3 g o e).1.upd hu (fun hs => (h3 g o e).2 (hS g hs)), fun hf => ?_⟩⟩
    rcases hF g hf with h9 | h9
    · exact (h3 g o e).2 h9
    · have := (h3 g o e).1.lt; omega
  · rcases hF i hf with h9 | h9
    · exact h.own i hi h9
    · have := (h.row.lt i (by rw [← hi]; exact ownB)).2; omega
theorem WasAt.below (h : WasAt w base A k c xs Bs F) (hb : Below w.heap.size w w') : WasAt w' base A k c xs Bs F := h.upd (S := fun _ => False) (Upd.of_quiet hb) (fun i hi => hi.elim) (fun i hi => .inl hi)
theorem WasAt.snoc {w5 : World} {A5 Ab : Option Addr} {c5 cb l : Nat} {b : List Int} (h : WasAt w base A k c xs Bs F) (hl : Lits w Ab l b) (hA : ∀ g o, Ab = some ⟨g, o, none⟩ → IsL w g ∧ ¬ F g)
    (ho5 : w5.ownsRow base 22 1 (.slice A5 (k + 1) c5) (k + 1) (xs ++ [.slice Ab l cb])) (hu5 : Upd (fun i => (Value.slice A 0 0).ownBlock = some i) w w5) (hn5 : ∀ i, (Value.slice A5 0 0).ownBlock = some i → ¬ F i) :
    WasAt w5 base A5 (k + 1) c5 (xs ++ [.slice Ab l cb]) (Bs ++ [b]) F := by
  have hno : ∀ g, IsL w g → ¬ (Value.slice A 0 0).ownBlock = some g := fun g hg e => not_isL h.row (by rw [← e]; exact ownB) hg
  have hxl : xs.length = k := by have := h.row.1; omega
  refine ⟨ho5, by rw [List.length_append, h.len]; rfl, fun j hj => ?_, hn5⟩
  rw [List.length_append] at hj
  by_cases e : j < Bs.length
  · obtain ⟨Aj, cj, h1, h2, h3⟩ := h.el j e
    have e1 : (Bs ++ [b])[j] = Bs[j] := List.getElem_append_left e
    rw [e1]
    refine ⟨Aj, cj, ?_, h2.upd hu5 (fun g o e9 => hno g (h3 g o e9).1), fun g o e9 => ⟨(h3 g o e9).1.upd hu5 (hno g (h3 g o e9).1), (h3 g o e9).2⟩⟩
    rw [List.getElem?_append_left (by rw [hxl, ← h.len]; exact e)]; exact h1
  · have e2 : j = Bs.length := by simp at hj; omega
    subst e2
    have e1 : (Bs ++ [b])[Bs.length] = b := by simp
    have hll := hl.1
    rw [e1]
    refine ⟨Ab, cb, ?_, by rw [hll]; exact hl.upd hu5 (fun g o e9 => hno g (hA g o e9).1), fun g o e9 => ⟨(hA g o e9).1.upd hu5 (hno g (hA g o e9).1), (hA g o e9).2⟩⟩
    rw [h.len, ← hxl, List.getElem?_concat_length, hll]
/-- Its last row. -/
theorem WasAt.last {Bs0 : List (List Int)} {b : List Int} (h : WasAt w base A k c xs (Bs0 ++ [b]) F) : ∃ g Ab cb j, k = j + 1 ∧ A = some ⟨g, 0, none⟩ ∧ w.cell? ⟨g, j, none⟩ = some (.slice Ab b.length cb) ∧ Lits w Ab b.length b ∧ WasAt w base A j c (xs.take j) Bs0 F := by
  have hk : k = Bs0.length + 1 := by rw [← h.len, List.length_append]; rfl
  obtain ⟨Aj, cj, h1, h2, h3⟩ := h.el Bs0.length (by rw [List.length_append]; simp)
  have e1 : (Bs0 ++ [b])[Bs0.length]'(by rw [List.length_append]; simp) = b := by simp
  rw [e1] at h1 h2
  have hA : ∃ g, A = some ⟨g, 0, none⟩ := by
    rcases h.row.2 with ⟨_, h00⟩ | ⟨g, cap', cur, h0, _⟩
    · omega
    · cases h0; exact ⟨g, rfl⟩
  obtain ⟨g, rfl⟩ := hA
  refine ⟨g, Aj, cj, Bs0.length, hk, rfl, ?_, h2, own_cut h.row (by omega), rfl, fun j hj => ?_, h.own⟩
  · rw [h.row.cellAt Bs0.length (by omega)]; exact h1
  · obtain ⟨Ai, ci, a1, a2, a3⟩ := h.el j (by rw [List.length_append]; omega)
    have e2 : (Bs0 ++ [b])[j]'(by rw [List.length_append]; omega) = Bs0[j] := List.getElem_append_left hj
    rw [e2] at a1 a2
    exact ⟨Ai, ci, by rw [List.getElem?_take, if_pos hj]; exact a1, a2, a3⟩
end
/-- The trail's beginnings. -/
def begs (M : List Nat) (T : List Int) : List (List Int) := M.map fun m => T.take m
theorem begs_push {M : List Nat} {T R : List Int} {x : Int} (h : MkOk M T) (hR : (T ++ [x]) <+: R) : begs (M ++ [T.length]) R = begs M T ++ [T] := by
  obtain ⟨s, hs⟩ := hR
  unfold begs
  rw [List.map_append, List.map_cons, List.map_nil, ← hs]
  have e : (T ++ [x] ++ s).take T.length = T := by rw [List.append_assoc, List.take_append_of_le_length (Nat.le_refl _), List.take_length]
  rw [e]
  congr 1
  refine List.map_congr_left fun m hm => ?_
  rw [List.append_assoc, List.take_append_of_le_length (Nat.le_of_lt (h.2 m hm))]
theorem begs_pop {M : List Nat} {T : List Int} {m : Nat} (h : MkOk (M ++ [m]) T) : begs (M ++ [m]) T = begs M (T.take m) ++ [T.take m] := by
  unfold begs
  rw [List.map_append, List.map_cons, List.map_nil]
  congr 1
  refine List.map_congr_left fun a ha => ?_
  have := (List.pairwise_append.1 h.1).2.2 a ha m (by simp)
  rw [List.take_take, Nat.min_eq_left (Nat.le_of_lt this)]
end Go.Proofs.Ytghfelfljblkbaa
