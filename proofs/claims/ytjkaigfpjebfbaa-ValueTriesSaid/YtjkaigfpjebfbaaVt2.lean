/- value.Try. -/
import Derived.Test.YtjkaigfpjebfbaaVt
namespace Go.Proofs.Ytjkaigfpjebfbaa
open Go.RowKit
set_option linter.unusedVariables false

theorem fn_nil (w : World) : (binOp .eql 1 .nilFunc .nilFunc).run Try.prog w = .ok (.bool true) w := by kernel_rfl
theorem fn_some (F : FuncId) (caps : Array Value) (w : World) : (binOp .eql 1 (.func (Fn.func F) #[] caps) .nilFunc).run Try.prog w = .ok (.bool false) w := by kernel_rfl
set_option maxRecDepth 100000 in
set_option maxHeartbeats 1000000 in
theorem Try_nil (w : World) : Calls Try.prog 7 #[.nilFunc] w fun e w' => e = .returned (.pointer none) ∧ Below w.heap.size w w' := by
  have hb := (Below.refl w.heap.size w).alloc (Nat.le_refl _) (.cells #[.pointer none] 22)
  have HB := Lib.hid hb
  clear hb
  have e0 := fn_nil
  have hmf := mf_any
  go_enter_defers Try.func7, Try.ntmps7
  go_wp2
  simp [bodyPostD, Leaves, results, Try.results7, go_sem]
  exact HB.out
set_option maxRecDepth 100000 in
set_option maxHeartbeats 1000000 in
theorem Try_ret (F : FuncId) (caps : Array Value) (w : World) (Q : World → Prop) (hent : ∀ (a : Array Value) (W : World), (callFunc F a).run Try.prog W = .ok (.enter F a) W) (hF : Calls Try.prog F caps (w.alloc (.cells #[.pointer none] 22)) fun e w' => e = .returned (.tuple #[]) ∧ Q w')
    (hQ : ∀ w', Q w' → w'.cell? ⟨w.heap.size, 0, none⟩ = some (.pointer none) ∧ w'.frozen? ⟨w.heap.size, 0, none⟩ = false) :
    Calls Try.prog 7 #[.func (Fn.func F) #[] caps] w fun e w' => e = .returned (.pointer none) ∧ ∃ w1, Q w1 ∧ w' = w1.setCell ⟨w.heap.size, 0, none⟩ (.pointer none) := by
  have HF := Lib.hid hF
  have HQ := Lib.hid hQ
  clear hF hQ
  have e0 := fn_some F caps
  have hmf := mf_any
  go_enter_defers Try.func7, Try.ntmps7
  go_wp2
  refine HF.out.mono ?_
  rintro e w1 ⟨rfl, hq⟩
  have hc := (HQ.out _ hq).1
  have hz := (HQ.out _ hq).2
  go_wp2
  refine leaves_cons (f := 33) (args := #[.pointer (some ⟨w.heap.size, 0, none⟩)]) (by simp) (by simp [go_sem]) ?_
  refine (catch_idle ⟨w.heap.size, 0, none⟩ _).mono ?_
  rintro e u' w'' ⟨rfl, rfl, rfl⟩
  have hc2 : (w1.setCell ⟨w.heap.size, 0, none⟩ (.pointer none)).cell? ⟨w.heap.size, 0, none⟩ = some (.pointer none) := World.cell?_setCell_same _ _ _ hc
  simp [Leaves, settle, results, Try.results7, go_sem, hc2]
  exact ⟨_, hq, rfl⟩
set_option maxRecDepth 100000 in
set_option maxHeartbeats 1000000 in
/-- A function that panics with a *Wrong: it is handed back. -/
theorem Try_wrong (F : FuncId) (caps : Array Value) (w : World) (Q : Addr → World → Prop) (hent : ∀ (a : Array Value) (W : World), (callFunc F a).run Try.prog W = .ok (.enter F a) W) (hF : Calls Try.prog F caps (w.alloc (.cells #[.pointer none] 22)) fun e w' => ∃ a, e = .panicked [{ v := .iface 22 (.pointer (some a)), recovered := false }] ∧ Q a w')
    (hQ : ∀ a w', Q a w' → w'.cell? ⟨w.heap.size, 0, none⟩ = some (.pointer none) ∧ w'.frozen? ⟨w.heap.size, 0, none⟩ = false) :
    Calls Try.prog 7 #[.func (Fn.func F) #[] caps] w fun e w' => ∃ a w1, e = .returned (.pointer (some a)) ∧ Q a w1 ∧ w' = w1.setCell ⟨w.heap.size, 0, none⟩ (.pointer (some a)) := by
  have HF := Lib.hid hF
  have HQ := Lib.hid hQ
  clear hF hQ
  have e0 := fn_some F caps
  have hmf := mf_any
  go_enter_defers Try.func7, Try.ntmps7
  go_wp2
  refine HF.out.mono ?_
  rintro e w1 ⟨a, rfl, hq⟩
  have hc := (HQ.out _ _ hq).1
  have hz := (HQ.out _ _ hq).2
  go_wp2
  refine leaves_cons (f := 33) (args := #[.pointer (some ⟨w.heap.size, 0, none⟩)]) (by simp) (by simp [go_sem]) ?_
  refine (catch_wrong ⟨w.heap.size, 0, none⟩ a _ [] _ hc hz).mono ?_
  rintro e u' w'' ⟨rfl, rfl, rfl⟩
  have hc2 : (w1.setCell ⟨w.heap.size, 0, none⟩ (.pointer (some a))).cell? ⟨w.heap.size, 0, none⟩ = some (.pointer (some a)) := World.cell?_setCell_same _ _ _ hc
  simp [Leaves, settle, results, Try.results7, go_sem, hc2]
  exact ⟨_, hq, rfl⟩
set_option maxRecDepth 100000 in
set_option maxHeartbeats 1000000 in
/-- A function that panics with a text: that goes on. -/
theorem Try_other (F : FuncId) (caps : Array Value) (w : World) (t : ByteArray) (Q : World → Prop) (hent : ∀ (a : Array Value) (W : World), (callFunc F a).run Try.prog W = .ok (.enter F a) W) (hF : Calls Try.prog F caps (w.alloc (.cells #[.pointer none] 22)) fun e w' => e = .panicked [{ v := .iface 9 (.string t), recovered := false }] ∧ Q w') :
    Calls Try.prog 7 #[.func (Fn.func F) #[] caps] w fun e w' => e = .panicked [{ v := .iface 9 (.string t), recovered := false }, { v := .iface 9 (.string t), recovered := true }] ∧ Q w' := by
  have HF := Lib.hid hF
  clear hF
  have e0 := fn_some F caps
  have hmf := mf_any
  go_enter_defers Try.func7, Try.ntmps7
  go_wp2
  refine HF.out.mono ?_
  rintro e w1 ⟨rfl, hq⟩
  go_wp2
  refine leaves_cons (f := 33) (args := #[.pointer (some ⟨w.heap.size, 0, none⟩)]) (by simp) (by simp [go_sem]) ?_
  refine (catch_other ⟨w.heap.size, 0, none⟩ t [] _).mono ?_
  rintro e u' w'' ⟨rfl, rfl, rfl⟩
  simp [Leaves, raised]
  exact hq
end Go.Proofs.Ytjkaigfpjebfbaa
