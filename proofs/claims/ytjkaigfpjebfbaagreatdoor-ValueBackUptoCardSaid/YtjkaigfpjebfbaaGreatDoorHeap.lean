/- Which blocks a call may have turned; rows of sectors. -/
import Derived.Test.YtjkaigfpjebfbaaGreatDoorWords
import Derived.Laws.CopyOwn
namespace Go.Proofs.YtjkaigfpjebfbaaGreatDoor
open Go.RowKit

/-- Of the blocks that were there only those in T may have turned. -/
structure Upd (T : Nat → Prop) (a w : World) : Prop where
  os : w.os = a.os
  tape : w.tape = a.tape
  output : w.output = a.output
  size : a.heap.size ≤ w.heap.size
  block : ∀ k, k < a.heap.size → ¬ T k → w.heap[k]? = a.heap[k]?
namespace Upd
variable {T : Nat → Prop} {a b w w' : World}
theorem refl (T : Nat → Prop) (w : World) : Upd T w w := ⟨rfl, rfl, rfl, Nat.le_refl _, fun _ _ _ => rfl⟩
theorem trans (h : Upd T a b) (k : Upd T b w) : Upd T a w :=
  ⟨k.os.trans h.os, k.tape.trans h.tape, k.output.trans h.output, Nat.le_trans h.size k.size, fun i hi ht => (k.block i (Nat.lt_of_lt_of_le hi h.size) ht).trans (h.block i hi ht)⟩
theorem mono {T' : Nat → Prop} (h : Upd T a w) (ht : ∀ k, k < a.heap.size → T k → T' k) : Upd T' a w := ⟨h.os, h.tape, h.output, h.size, fun k hk hn => h.block k hk fun h1 => hn (ht k hk h1)⟩
theorem drew (h : Upd T a w) : Upd T a w.drew := ⟨h.os, h.tape, h.output, h.size, h.block⟩
theorem drewN (h : Upd T a w) (n : Nat) : Upd T a (w.drewN n) := ⟨h.os, h.tape, h.output, h.size, h.block⟩
theorem alloc (h : Upd T a w) (o : Obj) : Upd T a (w.alloc o) :=
  ⟨h.os, h.tape, h.output, Nat.le_trans h.size (by simp), fun k hk ht => (Below.heap_alloc w o k (Nat.lt_of_lt_of_le hk h.size)).trans (h.block k hk ht)⟩
theorem setCell (h : Upd T a w) {p : Addr} (hp : T p.block ∨ a.heap.size ≤ p.block) (u : Value) : Upd T a (w.setCell p u) :=
  ⟨h.os, h.tape, h.output, by simpa [World.setCell] using h.size, fun k hk ht => (Below.heap_setCell w p u k (by
    rintro rfl
    rcases hp with hp | hp
    · exact ht hp
    · omega)).trans (h.block k hk ht)⟩
theorem setRow (h : Upd T a w) {g : Nat} (hp : T g ∨ a.heap.size ≤ g) (cs : Array Value) : Upd T a (w.setRow g cs) :=
  ⟨h.os, h.tape, h.output, by simpa using h.size, fun k hk ht => (setRow_other w g k cs (by
    rintro rfl
    rcases hp with hp | hp
    · exact ht hp
    · omega)).trans (h.block k hk ht)⟩
theorem grown (h : Upd T a w) {row : Option Nat} (hg : w.grownBy w' row) (hr : ∀ k, row = some k → T k ∨ a.heap.size ≤ k) : Upd T a w' :=
  ⟨hg.os.trans h.os, hg.tape.trans h.tape, hg.output.trans h.output, Nat.le_trans h.size hg.size, fun k hk ht => (hg.block k (Nat.lt_of_lt_of_le hk h.size) (fun e => by
    rcases hr k e.symm with h1 | h1
    · exact ht h1
    · omega)).trans (h.block k hk ht)⟩
theorem of_below {B : Nat} (h : Below B a w) (hT : ∀ k, k < a.heap.size → B ≤ k → T k) : Upd T a w :=
  ⟨h.os, h.tape, h.output, h.size, fun k hk ht => h.block k (by
    rcases Nat.lt_or_ge k B with h1 | h1
    · exact h1
    · exact absurd (hT k hk h1) ht)⟩
theorem below {B : Nat} (h : Upd T a w) (hT : ∀ k, T k → B ≤ k) (hB : B ≤ a.heap.size) : Below B a w :=
  ⟨h.os, h.tape, h.output, h.size, fun k hk => h.block k (by omega) fun h1 => by have := hT k h1; omega⟩
theorem cell (h : Upd T a w) {p : Addr} (hp : p.block < a.heap.size) (ht : ¬ T p.block) : w.cell? p = a.cell? p := World.cell?_of_block (w := a) (h.block _ hp ht)
theorem frozen (h : Upd T a w) {p : Addr} (hp : p.block < a.heap.size) (ht : ¬ T p.block) : w.frozen? p = a.frozen? p := World.frozen?_of_block (w := a) (h.block _ hp ht)
end Upd
theorem Blk.upd {T : Nat → Prop} {a w : World} {g : Nat} {t : TypeId} {cs : Array Value} (h : Blk a g t cs) (hu : Upd T a w) (ht : ¬ T g) : Blk w g t cs := (hu.block g h.lt ht).trans h
theorem Blk.row {w : World} {g : Nat} {t : TypeId} {cs : Array Value} (h : Blk w g t cs) (cs' : Array Value) : Blk (w.setRow g cs') g t cs' := setRow_heap w g _ _ _ _ h
theorem Blk.rowFar {w : World} {g g' : Nat} {t : TypeId} {cs : Array Value} (h : Blk w g t cs) (hne : g ≠ g') (cs' : Array Value) : Blk (w.setRow g' cs') g t cs := (setRow_other w g' g cs' hne).trans h
theorem Bytes.upd {T : Nat → Prop} {a w : World} {A : Option Addr} {n : Nat} {bs : List Nat} (h : Bytes a A n bs) (hu : Upd T a w) (ht : ∀ b o, A = some ⟨b, o, none⟩ → 0 < n → ¬ T b) : Bytes w A n bs :=
  ⟨h.1, h.2.1, fun hn => by
    obtain ⟨b, o, e, hb, hc⟩ := h.2.2 hn
    exact ⟨b, o, e, Nat.lt_of_lt_of_le hb hu.size, fun k hk => (hu.cell (p := ⟨b, o + k, none⟩) hb (ht b o e hn)).trans (hc k hk)⟩⟩

/-- Block g: n sectors with the bytes f (and maybe spare cells behind). -/
def Sect (w : World) (g t n : Nat) (f : Nat → Nat) : Prop := ∃ C : Array Value, Blk w g t C ∧ 64 * n ≤ C.size ∧ ∀ i, i < 64 * n → C[i]? = some (.int .u8 ((f i : Nat) : Int))
namespace Sect
variable {w w' : World} {g t n : Nat} {f f' : Nat → Nat}
theorem lt (h : Sect w g t n f) : g < w.heap.size := by obtain ⟨C, hb, _⟩ := h; exact hb.lt
theorem cell (h : Sect w g t n f) {i : Nat} (hi : i < 64 * n) : w.cell? ⟨g, i, none⟩ = some (.int .u8 ((f i : Nat) : Int)) := by
  obtain ⟨C, hb, _, hc⟩ := h
  rw [hb.cell, hc i hi]
theorem frozen (h : Sect w g t n f) (i : Nat) : w.frozen? ⟨g, i, none⟩ = false := by obtain ⟨C, hb, _⟩ := h; exact hb.frozen i
theorem of_block (h : Sect w g t n f) (e : w'.heap[g]? = w.heap[g]?) : Sect w' g t n f := by
  obtain ⟨C, hb, hs, hc⟩ := h
  exact ⟨C, e.trans hb, hs, hc⟩
theorem upd {T : Nat → Prop} (h : Sect w g t n f) (hu : Upd T w w') (ht : ¬ T g) : Sect w' g t n f := h.of_block (hu.block g h.lt ht)
theorem drew (h : Sect w g t n f) : Sect w.drew g t n f := h
theorem drewN (h : Sect w g t n f) (k : Nat) : Sect (w.drewN k) g t n f := h
theorem alloc (h : Sect w g t n f) (o : Obj) : Sect (w.alloc o) g t n f := h.of_block (Below.heap_alloc w o g h.lt)
theorem far (h : Sect w g t n f) {p : Addr} (hp : g ≠ p.block) (u : Value) : Sect (w.setCell p u) g t n f := h.of_block (Below.heap_setCell w p u g hp)
theorem rowFar (h : Sect w g t n f) {g' : Nat} (hp : g ≠ g') (cs : Array Value) : Sect (w.setRow g' cs) g t n f := h.of_block (setRow_other w g' g cs hp)
theorem congr (h : Sect w g t n f) (e : ∀ i, i < 64 * n → f i = f' i) : Sect w g t n f' := by
  obtain ⟨C, hb, hs, hc⟩ := h
  exact ⟨C, hb, hs, fun i hi => by rw [hc i hi, e i hi]⟩
theorem set (h : Sect w g t n f) (i x : Nat) : Sect (w.setCell ⟨g, i, none⟩ (.int .u8 ((x : Nat) : Int))) g t n (fun j => if j = i then x else f j) := by
  obtain ⟨C, hb, hs, hc⟩ := h
  refine ⟨_, hb.set_ i _, by simpa using hs, fun j hj => ?_⟩
  rw [Array.getElem?_setIfInBounds]
  by_cases e : i = j
  · subst e
    rw [if_pos rfl, if_pos (by omega)]
    simp only [if_true]
  · have e2 : ¬ j = i := fun h => e h.symm
    rw [if_neg e, hc j hj]
    simp only [e2, if_false]
/-- A stretch of bytes laid over: what 'copy' leaves. -/
theorem splice_ {o : Nat} {bs : List Nat} (hb : ∃ C : Array Value, Blk w g t C ∧ 64 * n ≤ C.size ∧ (∀ i, i < 64 * n → C[i]? = some (.int .u8 ((f i : Nat) : Int))) ∧ Blk w' g t (splice C.toList o (bs.map fun x => Value.int .u8 ((x : Nat) : Int))).toArray) (hl : o + bs.length ≤ 64 * n) :
    Sect w' g t n (fun j => if o ≤ j ∧ j < o + bs.length then bs.getD (j - o) 0 else f j) := by
  obtain ⟨C, _, hs, hc, hb'⟩ := hb
  refine ⟨_, hb', ?_, fun j hj => ?_⟩
  · have := length_splice C.toList o (bs.map fun x => Value.int .u8 ((x : Nat) : Int)) (by simp; omega)
    simp only [List.size_toArray, this, Array.length_toList]; exact hs
  · rw [List.getElem?_toArray]
    unfold splice
    rw [List.getElem?_append, List.length_take, Array.length_toList]
    by_cases h1 : j < o
    · have h3 : ¬ (o ≤ j ∧ j < o + bs.length) := by omega
      rw [if_pos (by omega), List.getElem?_take, if_pos h1, Array.getElem?_toList, hc j hj]
      simp only [h3, if_false]
    · rw [if_neg (by omega), List.getElem?_append, List.length_map]
      by_cases h2 : j < o + bs.length
      · have h3 : o ≤ j ∧ j < o + bs.length := ⟨by omega, h2⟩
        simp only [h3, and_self, if_true]
        rw [if_pos (by omega), List.getElem?_map, show j - min o C.size = j - o by omega, List.getElem?_eq_getElem (by omega), List.getD_eq_getElem?_getD, List.getElem?_eq_getElem (by omega)]
        rfl
      · have h3 : ¬ (o ≤ j ∧ j < o + bs.length) := by omega
        simp only [h3, if_false]
        rw [if_neg (by omega), List.getElem?_drop, Array.getElem?_toList, show o + bs.length + (j - min o C.size - bs.length) = j by omega, hc j hj]
end Sect
end Go.Proofs.YtjkaigfpjebfbaaGreatDoor
