/- What a slice of bytes holds in a world. -/
import Derived.Handy
import Derived.Lib.Hide
import Derived.Laws.BitsAllLaws
import Derived.LoopTactic
import Derived.Lib.SlBytesConst
namespace Go.Proofs.YtjkaigfpjebfbaaGreatDoor
open Go.RowKit

/-- The slice at A, of n bytes, reads as bs. -/
def Bytes (w : World) (A : Option Addr) (n : Nat) (bs : List Nat) : Prop :=
  bs.length = n ∧ (∀ x ∈ bs, x < 256) ∧ (0 < n → ∃ b o, A = some ⟨b, o, none⟩ ∧ b < w.heap.size ∧ ∀ k, k < n → w.cell? ⟨b, o + k, none⟩ = some (.int .u8 ((bs.getD k 0 : Nat) : Int)))

theorem lt_of_cell {w : World} {b o : Nat} {s : Option _} {v : Value} (h : w.cell? ⟨b, o, s⟩ = some v) : b < w.heap.size := by
  rcases Nat.lt_or_ge b w.heap.size with hlt | hge
  · exact hlt
  · unfold World.cell? at h
    simp [Array.getElem?_eq_none hge] at h

theorem Bytes.nil (w : World) : Bytes w none 0 [] := ⟨rfl, by simp, fun h => absurd h (by omega)⟩
theorem Bytes.keep {w w' : World} {A : Option Addr} {n : Nat} {bs : List Nat} (h : Bytes w A n bs) (hk : ∀ p : Addr, p.block < w.heap.size → w'.cell? p = w.cell? p) : Bytes w' A n bs :=
  ⟨h.1, h.2.1, fun hn => by
    obtain ⟨b, o, e, hb, hc⟩ := h.2.2 hn
    have h0 := hc 0 hn
    exact ⟨b, o, e, lt_of_cell ((hk _ hb).trans h0), fun k hkn => (hk _ hb).trans (hc k hkn)⟩⟩
theorem Bytes.below {w w' : World} {A : Option Addr} {n : Nat} {bs : List Nat} (h : Bytes w A n bs) (hb : Below w.heap.size w w') : Bytes w' A n bs :=
  h.keep fun _ hp => hb.cell hp
theorem Bytes.lt {w : World} {A : Option Addr} {n : Nat} {bs : List Nat} (h : Bytes w A n bs) (k : Nat) : bs.getD k 0 < 256 := by
  rcases Nat.lt_or_ge k bs.length with hk | hk
  · rw [List.getD_eq_getElem?_getD, List.getElem?_eq_getElem hk]
    exact h.2.1 _ (List.getElem_mem hk)
  · rw [List.getD_eq_getElem?_getD, List.getElem?_eq_none hk]; simp
theorem Bytes.of_new (w : World) (C : Array Value) (e : TypeId) (fr : Nat × Nat) (n : Nat) (bs : List Nat) (hn : bs.length = n) (h : ∀ x ∈ bs, x < 256) (hc : C.toList = bs.map fun x => Value.int .u8 ((x : Nat) : Int)) : Bytes (w.alloc (.cells C e fr)) (some ⟨w.heap.size, 0, none⟩) n bs := by
  refine ⟨hn, h, fun _ => ⟨_, _, rfl, by simp, fun k hk => ?_⟩⟩
  rw [Nat.zero_add, World.cell?_alloc_mark, ← Array.getElem?_toList, hc, List.getElem?_map, List.getElem?_eq_getElem (by omega), List.getD_eq_getElem?_getD, List.getElem?_eq_getElem (by omega)]
  rfl
theorem take_snoc {α : Type} (l : List α) (k : Nat) (d : α) (h : k < l.length) : l.take (k + 1) = l.take k ++ [l.getD k d] := by
  rw [List.take_succ_eq_append_getElem h, List.getD_eq_getElem?_getD, List.getElem?_eq_getElem h]; rfl
theorem Bytes.take {w : World} {A : Option Addr} {n m : Nat} {bs : List Nat} (h : Bytes w A n bs) (hm : m ≤ n) : Bytes w A m (bs.take m) :=
  ⟨by rw [List.length_take, h.1]; omega, fun x hx => h.2.1 x (List.mem_of_mem_take hx), fun h0 => by
    obtain ⟨b, o, e, hb, hc⟩ := h.2.2 (by omega)
    refine ⟨b, o, e, hb, fun k hk => ?_⟩
    rw [hc k (by omega)]
    simp [hk]⟩
theorem ret_int {k : IntKind} {a b : Int} (h : a = b) : Ending.returned (.int k a) = .returned (.int k b) := by rw [h]
theorem ret_bool {a b : Bool} (h : a = b) : Ending.returned (.bool a) = .returned (.bool b) := by rw [h]
theorem int_eq {k : IntKind} {a b : Int} (h : a = b) : Value.int k a = .int k b := by rw [h]
end Go.Proofs.YtjkaigfpjebfbaaGreatDoor
