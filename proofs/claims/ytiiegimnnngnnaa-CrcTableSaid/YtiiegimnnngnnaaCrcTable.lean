/- The law CrcTable: the table's numbers are the reference's. -/
import Derived.Test.YtiiegimnnngnnaaCrc
import Derived.Test.YtiiegimnnngnnaaOpen
import Derived.BigQuiet
import Derived.Deep.QuietTactic
import Derived.Deep.RegionWith
import Derived.Deep.MidRow
import Derived.Laws.CopyOwn
import Derived.Deep.WholeRow
namespace Go.Proofs.Ytiiegimnnngnnaa
open Go.RowKit
set_option linter.unusedVariables false

theorem store_row {P : Program} {w : World} {g : Nat} {t ty : TypeId} {old cells : Array Value} (hg : w.heap[g]? = some (.cells old t (0, 0))) (hi : (P.info? ty).map (·.size) = some cells.size)
    (ho : old.size = cells.size) (h1 : cells.all (·.oneCell') = true) : (storeCells ⟨g, 0, none⟩ cells.toList).run P w = .ok () (w.setRow g cells) := by
  have := run_storeVar_row (P := P) w g t ty old cells hg hi ho h1
  cases hq : P.info? ty with
  | none => simp [hq] at hi
  | some i =>
    have hs : cells.size = i.size := by simp [hq] at hi; omega
    simpa [storeVar, sizeOf, typeInfo, hq, Value.cells, hs] using this
def tabTo (k : Nat) : Array Value := ((List.range 256).map fun i => Value.int .u32 (if i < k then ((CrcLaw.ent i : Nat) : Int) else 0)).toArray
theorem tab_size (k : Nat) : (tabTo k).size = 256 := by simp [tabTo]
theorem tab_get (k i : Nat) (h : i < 256) : (tabTo k)[i]? = some (.int .u32 (if i < k then ((CrcLaw.ent i : Nat) : Int) else 0)) := by
  unfold tabTo
  rw [List.getElem?_toArray, List.getElem?_map, List.getElem?_range h]; rfl
theorem tab_set (k : Nat) (h : k < 256) : (tabTo k).setIfInBounds k (.int .u32 ((CrcLaw.ent k : Nat) : Int)) = tabTo (k + 1) := by
  apply Array.ext_getElem?
  intro i
  rw [Array.getElem?_setIfInBounds, tab_size]
  by_cases hik : k = i
  · subst hik
    rw [if_pos rfl, if_pos h, tab_get _ _ h, if_pos (by omega)]
  · rw [if_neg hik]
    by_cases hi : i < 256
    · rw [tab_get _ _ hi, tab_get _ _ hi]
      by_cases h1 : i < k
      · rw [if_pos h1, if_pos (by omega)]
      · rw [if_neg h1, if_neg (by omega)]
    · rw [Array.getElem?_eq_none (by rw [tab_size]; omega), Array.getElem?_eq_none (by rw [tab_size]; omega)]
theorem tab_zero : Try.zeroCells32 = tabTo 0 := by kernel_rfl
theorem tab_info : (Try.prog.info? 32).map (·.size) = some 256 := by kernel_rfl

set_option maxRecDepth 100000 in
set_option maxHeartbeats 2000000 in
theorem Table_any (w : World) : Calls Try.prog 28 #[] w fun e w' => e = .returned (.agg (tabTo 256)) ∧ Below w.heap.size w w' := by
  go_enter Try.func28, Try.ntmps28
  go_wp2_with fail
  rw [tab_zero]
  go_loopw [3] (fun i wr => ∃ k : Nat, k ≤ 256 ∧ i = .int .i64 k ∧ wr = (w.alloc (.cells (tabTo 0) 32)).alloc (.cells (tabTo k) 32)) (fun i _ => 256 - (intOf i).toNat)
  case atStart => exact ⟨0, by omega, rfl, rfl⟩
  case round =>
    obtain ⟨k, hk, rfl, rfl⟩ := hrel
    by_cases hlt : k < 256
    · have hg := tab_get k k hlt
      rw [if_neg (by omega)] at hg
      have HT := Lib.hid (tab_set k hlt)
      go_wp2_with (go_at_call 61; refine (entry_int k _ (by omega) _ (by omega)).mono ?_; rintro e w' ⟨rfl, rfl⟩)
      go_roundw
      case rel => exact ⟨k + 1, by omega, by go_num, by rw [← HT.out]⟩
      case measure => simp [intOf]; omega
    · have hk6 : k = 256 := by omega
      subst hk6
      have hb1 : ((w.alloc (.cells (tabTo 0) 32)).alloc (.cells (tabTo 256) 32)).heap[w.heap.size + 1]? = some (.cells (tabTo 256) 32 (0, 0)) := by
        have := heap_alloc_last (w.alloc (.cells (tabTo 0) 32)) (.cells (tabTo 256) 32)
        simpa using this
      have hb0 : ((w.alloc (.cells (tabTo 0) 32)).alloc (.cells (tabTo 256) 32)).heap[w.heap.size]? = some (.cells (tabTo 0) 32 (0, 0)) :=
        (Below.heap_alloc _ _ _ (by simp)).trans (heap_alloc_last _ _)
      have hbel : Below w.heap.size w ((w.alloc (.cells (tabTo 0) 32)).alloc (.cells (tabTo 256) 32)) := ((Below.refl _ _).alloc (Nat.le_refl _) _).alloc (by simp) _
      generalize hW : (w.alloc (.cells (tabTo 0) 32)).alloc (.cells (tabTo 256) 32) = W at *
      clear hW
      have i1 : (Try.prog.info? 32).map (·.size) = some (tabTo 256).size := by rw [tab_size]; exact tab_info
      have o1 : (tabTo 256).all (·.oneCell') = true := by unfold tabTo; simp [Value.oneCell']
      have HI := Lib.hid i1
      have HO := Lib.hid o1
      have HB1 := Lib.hid hb1
      have HB0 := Lib.hid hb0
      clear i1 o1 hb1 hb0
      go_wp2_with fail
      refine wp_load_row 32 (.tmp 1) rfl (w.heap.size + 1) rfl 32 (tabTo 256) (0, 0) _ HB1.out Try.underlying32 rfl HI.out ?_
      have hst : (storeCells ⟨w.heap.size, 0, none⟩ (tabTo 256).toList).run Try.prog W = .ok () (W.setRow w.heap.size (tabTo 256)) := store_row HB0.out HI.out (by rw [tab_size, tab_size]) HO.out
      go_wp2_with fail
      refine bodyPost_ret (v := .agg (tabTo 256)) ?_ rfl ⟨rfl, below_setRow hbel (Nat.le_refl _) _⟩
      exact results_cell_row rfl _ _ w.heap.size 32 (tabTo 256) (0, 0) _ rfl (setRow_heap W _ _ _ _ _ HB0.out) Try.underlying32 rfl HI.out
end Go.Proofs.Ytiiegimnnngnnaa
