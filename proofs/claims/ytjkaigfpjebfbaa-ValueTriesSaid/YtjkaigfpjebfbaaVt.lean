/- value.Try: its deferred closure. -/
import Derived.Test.YtjkaigfpjebfbaaVb
import Derived.Recover
import Derived.WalkLawsBesides
namespace Go.Proofs.Ytjkaigfpjebfbaa
open Go.RowKit
set_option linter.unusedVariables false

theorem ta_wrong (p : Option Addr) (w : World) : (Instr.typeAssert (.iface 22 (.pointer p)) 20 22 true).run Try.prog w = .ok (.tuple #[.pointer p, .bool true]) w := by kernel_rfl
theorem ta_other (s : ByteArray) (w : World) : (Instr.typeAssert (.iface 9 (.string s)) 20 22 true).run Try.prog w = .ok (.tuple #[.pointer none, .bool false]) w := by kernel_rfl
theorem eq_nil (w : World) : (binOp .eql 20 .nilIface .nilIface).run Try.prog w = .ok (.bool true) w := by kernel_rfl
theorem eq_some (t : TypeId) (v : Value) (w : World) : (binOp .eql 20 (.iface t v) .nilIface).run Try.prog w = .ok (.bool false) w := by kernel_rfl
theorem arr20 (p v : Value) : #[p] ++ ((Array.replicate 19 undef).setIfInBounds 3 v).setIfInBounds 0 v = #[p, v, undef, undef, v, undef, undef, undef, undef, undef, undef, undef, undef, undef, undef, undef, undef, undef, undef, undef] := by kernel_rfl
set_option maxRecDepth 100000 in
set_option maxHeartbeats 1000000 in
theorem catch_idle (p : Addr) (w : World) :
    CallsD Try.prog 33 #[.pointer (some p)] .returning w fun e u' w' => e = .returned (.tuple #[]) ∧ u' = .returning ∧ w' = w := by
  refine callsD_of_wpS Try.func33 rfl fun c₀ cs hu => ?_
  have e0 := eq_nil
  apply wpS_seq
  apply wpS_region
  simp [wpOpsS, go_sem, recoverD, hu, Try.ntmps33, Exit.thenS]
  rw [arr20]
  refine wpS_of_wp ?_
  go_wp2
  cases c₀
  simp_all [bodyPostS, results, Try.results33]
set_option maxRecDepth 100000 in
set_option maxHeartbeats 1000000 in
theorem catch_wrong (p : Addr) (a : Addr) (x : Value) (older : List PanicEntry) (w : World) (hc : w.cell? p = some x) (hz : w.frozen? p = false) :
    CallsD Try.prog 33 #[.pointer (some p)] (.panicking ({ v := .iface 22 (.pointer (some a)), recovered := false } :: older)) w fun e u' w' =>
      e = .returned (.tuple #[]) ∧ u' = .panicking ({ v := .iface 22 (.pointer (some a)), recovered := true } :: older) ∧ w' = w.setCell p (.pointer (some a)) := by
  refine callsD_of_wpS Try.func33 rfl fun c₀ cs hu => ?_
  have e0 := eq_some 22 (.pointer (some a))
  have e1 := ta_wrong (some a)
  apply wpS_seq
  apply wpS_region
  simp [wpOpsS, go_sem, recoverD, hu, Try.ntmps33, Exit.thenS]
  rw [arr20]
  refine wpS_of_wp ?_
  go_wp2
  simp [bodyPostS, results, Try.results33]
set_option maxRecDepth 100000 in
set_option maxHeartbeats 1000000 in
theorem catch_other (p : Addr) (t : ByteArray) (older : List PanicEntry) (w : World) :
    CallsD Try.prog 33 #[.pointer (some p)] (.panicking ({ v := .iface 9 (.string t), recovered := false } :: older)) w fun e u' w' =>
      e = .panicked [{ v := .iface 9 (.string t), recovered := false }] ∧ u' = .panicking ({ v := .iface 9 (.string t), recovered := true } :: older) ∧ w' = w := by
  refine callsD_of_wpS Try.func33 rfl fun c₀ cs hu => ?_
  have e0 := eq_some 9 (.string t)
  have e1 := ta_other t
  apply wpS_seq
  apply wpS_region
  simp [wpOpsS, go_sem, recoverD, hu, Try.ntmps33, Exit.thenS]
  rw [arr20]
  refine wpS_of_wp ?_
  go_wp2
  simp [bodyPostS]
end Go.Proofs.Ytjkaigfpjebfbaa
