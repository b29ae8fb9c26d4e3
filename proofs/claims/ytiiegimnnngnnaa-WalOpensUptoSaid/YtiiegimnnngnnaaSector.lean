/- chandlerlaw2.sector: a sector of bytes. -/
import Derived.Test.YtiiegimnnngnnaaAwake2
namespace Go.Proofs.Ytiiegimnnngnnaa
open Go.RowKit Go.Sort
set_option linter.unusedVariables false

def secLen (sh : Bool) : Nat := if sh then 5 else 64
def secBytes (B : Nat) (sh : Bool) : List Nat := ((List.range 64).map fun k => (B + k) % 256).take (secLen sh)
def secRow (B k : Nat) : Array Value := ((List.range 64).map fun j => Value.int .u8 (((if j < k then (B + j) % 256 else 0 : Nat) : Nat) : Int)).toArray
theorem secRow_zero (B : Nat) : secRow B 0 = noughts 64 := by rfl
theorem secRow_size (B k : Nat) : (secRow B k).size = 64 := by simp [secRow]
theorem secRow_get (B k j : Nat) (hj : j < 64) : (secRow B k)[j]? = some (Value.int .u8 (((if j < k then (B + j) % 256 else 0 : Nat) : Nat) : Int)) := by
  unfold secRow
  rw [List.getElem?_toArray, List.getElem?_map, List.getElem?_range hj]; rfl
theorem secRow_set (B k : Nat) (hk : k < 64) : (secRow B k).setIfInBounds k (.int .u8 (((B + k) % 256 : Nat) : Int)) = secRow B (k + 1) := by
  apply Array.ext_getElem?
  intro j
  rcases Nat.lt_or_ge j 64 with hj | hj
  · rw [Array.getElem?_setIfInBounds, secRow_size, secRow_get _ _ _ hj, secRow_get _ _ _ hj]
    by_cases e : k = j
    · subst e
      simp [hk]
    · rw [if_neg e]
      by_cases h1 : j < k
      · rw [if_pos h1, if_pos (by omega)]
      · rw [if_neg h1, if_neg (by omega)]
  · rw [Array.getElem?_eq_none (by simp [secRow_size]; omega), Array.getElem?_eq_none (by simp [secRow_size]; omega)]
theorem secRow_list (B : Nat) : (secRow B 64).toList = ((List.range 64).map fun k => (B + k) % 256).map fun x => Value.int .u8 ((x : Nat) : Int) := by
  unfold secRow
  rw [List.map_map]
  apply List.map_congr_left
  intro j hj
  have := List.mem_range.1 hj
  simp [this]
theorem secBytes_length (B : Nat) (sh : Bool) : (secBytes B sh).length = secLen sh := by cases sh <;> simp [secBytes, secLen]
theorem secBytes_lt (B : Nat) (sh : Bool) : ∀ x ∈ secBytes B sh, x < 256 := fun x hx => by
  obtain ⟨k, _, rfl⟩ := List.mem_map.1 (List.mem_of_mem_take hx)
  exact Nat.mod_lt _ (by omega)
theorem secFull (w : World) (g B : Nat) (sh : Bool) (h : Blk w g 5 (secRow B 64)) : Bytes w (some ⟨g, 0, none⟩) (secLen sh) (secBytes B sh) := by
  have := (h.bytes_ 64 _ (by simp) (fun x hx => by obtain ⟨k, _, rfl⟩ := List.mem_map.1 hx; exact Nat.mod_lt _ (by omega)) (secRow_list B)).take (m := secLen sh) (by cases sh <;> simp [secLen])
  exact this
set_option maxRecDepth 100000 in
set_option maxHeartbeats 1000000 in
theorem sector_any (x0 x1 : Int) (B : Nat) (sh : Bool) (pk : Value) (w : World) (hB : B < 256) :
    Calls Try.prog 35 #[.agg #[.int .i64 x0, .int .i64 x1, .int .u8 (B : Int), .bool sh, pk]] w fun e w' =>
      ∃ g, e = .returned (.slice (some ⟨g, 0, none⟩) (secLen sh) 64) ∧ w.heap.size ≤ g ∧ Bytes w' (some ⟨g, 0, none⟩) (secLen sh) (secBytes B sh) ∧ Below w.heap.size w w' := by
  have hmk : ∀ W : World, (Instr.makeSlice 22 (.int .i64 64) (.int .i64 64)).run Try.prog W = .ok (.slice (some ⟨W.heap.size, 0, none⟩) 64 64) (W.alloc (.cells (noughts 64) 5)) := make_bytes 64 (by omega)
  rw [← secRow_zero B] at hmk
  generalize hR : secRow B 0 = R0 at hmk
  have HR := Lib.hid hR
  clear hR
  go_enter Try.func35, Try.ntmps35
  go_wp2
  go_loopw [8] (fun i wr => ∃ k : Nat, k ≤ 64 ∧ i = .int .i64 k ∧ Blk wr w.heap.size 45 #[.int .i64 x0, .int .i64 x1, .int .u8 (B : Int), .bool sh, pk] ∧ Blk wr (w.heap.size + 1) 5 (secRow B k) ∧ Below w.heap.size w wr) (fun i _ => 64 - (intOf i).toNat)
  case atStart =>
    refine ⟨0, by omega, rfl, (Blk.new _ _ _).alloc _, ?_, ((Below.refl _ _).alloc (Nat.le_refl _) _).alloc (by simp) _⟩
    have := Blk.new (w.alloc (.cells #[.int .i64 x0, .int .i64 x1, .int .u8 (B : Int), .bool sh, pk] 45)) 5 R0
    rw [World.size_alloc] at this
    rw [HR.out]
    exact this
  case round =>
    obtain ⟨k, hk, rfl, hb1, hb2, hbel⟩ := hrel
    have c2 : wr.cell? ⟨w.heap.size, 2, none⟩ = some (.int .u8 (B : Int)) := hb1.cell 2
    have c3 : wr.cell? ⟨w.heap.size, 3, none⟩ = some (.bool sh) := hb1.cell 3
    by_cases hlt : k < 64
    · have ck : wr.cell? ⟨w.heap.size + 1, k, none⟩ = some (.int .u8 (((if k < k then (B + k) % 256 else 0 : Nat) : Nat) : Int)) := by rw [hb2.cell]; exact secRow_get B k k hlt
      rw [if_neg (by omega)] at ck
      have fk := hb2.frozen k
      have HB1 := Lib.hid hb1
      have HB2 := Lib.hid hb2
      have HBel := Lib.hid hbel
      clear hb1 hb2 hbel
      go_wp2
      go_roundw
      case rel => exact ⟨k + 1, by omega, by go_num, HB1.out.far (by simp) _, (HB2.out.set_ k _).cast (by rw [← secRow_set B k hlt]; rfl), HBel.out.setCell (by simp) _⟩
      case measure => simp [intOf]; omega
    · obtain rfl : k = 64 := by omega
      have HF := Lib.hid (secFull wr _ B sh hb2)
      have HBel := Lib.hid hbel
      clear hb1 hb2 hbel hk hlt
      cases sh
      · go_wp2
        go_ret
        exact ⟨_, rfl, by omega, HF.out, HBel.out⟩
      · go_wp2
        go_ret
        exact ⟨_, rfl, by omega, HF.out, HBel.out⟩
end Go.Proofs.Ytiiegimnnngnnaa
