/- The law CrcTable, walked. -/
import Derived.Test.YtiiegimnnngnnaaCrcTable
namespace Go.Proofs.Ytiiegimnnngnnaa
open Go.RowKit
set_option linter.unusedVariables false

theorem tabs_new (W : World) : (storeCells ⟨W.heap.size, 0, none⟩ (tabTo 256).toList).run Try.prog (W.alloc (.cells Try.zeroCells32 32)) = .ok () (W.alloc (.cells (tabTo 256) 32)) :=
  run_storeCells_new W 32 _ _ (by rw [tab_size]; exact tab_info) (by rw [tab_zero, tab_size, tab_size]) (by unfold tabTo; simp [Value.oneCell'])
theorem known128 : CrcLaw.ent 128 = 3988292384 := by decide +kernel

set_option maxRecDepth 100000 in
set_option maxHeartbeats 2000000 in
theorem tables (x : Nat) (hx : x < 256) (w : World) : Calls Try.prog 7 #[.int .u8 (x : Int)] w fun e w' => e = .returned (.bool true) ∧ Below w.heap.size w w' := by
  have hst := tabs_new
  have g1 := tab_get 256 x hx
  have g2 := tab_get 256 128 (by omega)
  rw [if_pos hx] at g1
  rw [if_pos (by omega), known128] at g2
  rw [show ((3988292384 : Nat) : Int) = 3988292384 from rfl] at g2
  have k1 : ∀ h : x < (tabTo 256).size, (tabTo 256)[x]'h = .int .u32 ((CrcLaw.ent x : Nat) : Int) := fun h => by rw [Array.getElem?_eq_getElem h] at g1; exact Option.some.inj g1
  have k2 : ∀ h : 128 < (tabTo 256).size, (tabTo 256)[128]'h = .int .u32 3988292384 := fun h => by rw [Array.getElem?_eq_getElem h] at g2; exact Option.some.inj g2
  have hx0 : (0 : Int) ≤ (x : Int) := by omega
  have hx1 : (x : Int) < 256 := by omega
  go_enter Try.func7, Try.ntmps7
  go_wp2_with (go_at_call 28; refine (Table_any _).mono ?_; rintro e w1 ⟨rfl, hb1⟩)
  clear hst
  go_region_with (first
    | (go_at_call 29; refine (Entry_any _ _ hx).mono ?_; rintro e w' ⟨rfl, rfl⟩)
    | (go_at_call 27; refine (awake1 _).mono ?_; rintro e w2 ⟨rfl, hb2⟩))
  all_goals
    go_wp2_with fail
    go_ret
    exact ⟨rfl, ((hb1.alloc hb1.size _).drew).trans (hb2.mono (by have := hb1.size; simp; omega))⟩

section
open Go.ChangeShapes Go.WideShapes Go.ChangeAt
theorem u8_nat {x : Int} (h : (Lit.int .u8 x).wf = true) : ∃ n : Nat, x = (n : Int) ∧ n < 256 := by
  have h2 : 0 ≤ x ∧ x ≤ 255 := by simpa [Lit.wf, IntKind.min, IntKind.max, IntKind.signed, IntKind.bits] using h
  exact ⟨x.toNat, by omega, by omega⟩
theorem crcTable_walk {H : Type} {enc : TypeId × Value → H} (W : World) {base : Nat} (v0 : Value) {d0 : DataW H} {p0 : List MemPlace} (h0 : DataW.Trod enc Try.prog W 0 (fun _ => true) true 5 v0 d0 p0) (o0 : Value.okWide Try.prog W .any base 5 v0) :
    Calls Try.prog 7 #[v0] W fun e w' => e = .returned (.bool true) ∧ Below W.heap.size W w' := by
  obtain ⟨x, rfl, rfl, rfl, wx⟩ := open_int Try.underlying5 o0 h0
  obtain ⟨s, rfl, hs⟩ := u8_nat wx
  exact tables s hs W
end
end Go.Proofs.Ytiiegimnnngnnaa
