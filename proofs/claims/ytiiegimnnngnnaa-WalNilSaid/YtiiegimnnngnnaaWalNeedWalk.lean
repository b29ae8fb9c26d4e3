/- WalNeed, WalNil: the walks. -/
import Derived.Test.YtiiegimnnngnnaaLog11
import Derived.Test.YtiiegimnnngnnaaOpen
namespace Go.Proofs.Ytiiegimnnngnnaa
open Go.RowKit
set_option linter.unusedVariables false

theorem needI_le (i : Int) : 0 ≤ needI i ∧ needI i ≤ 129 := by
  unfold needI Wl.need
  split
  · omega
  · split <;> omega
theorem walNeed_any (i : Int) (w : World) (hlo : -9223372036854775808 ≤ i) (hhi : i ≤ 9223372036854775807) :
    Calls Try.prog 14 #[.int .i64 i] w fun e w' => e = .returned (.bool true) ∧ Below w.heap.size w w' := by
  have H1 := Lib.hid (Need_int i w hlo hhi)
  have H2 := Lib.hid (RefNeed_int i w hlo hhi)
  generalize needI i = k at *
  go_enter Try.func14, Try.ntmps14
  go_wp2_with (first
    | (go_at_call 45; refine H1.out.mono ?_; rintro e w6 ⟨rfl, rfl⟩)
    | (go_at_call 46; refine H2.out.mono ?_; rintro e w6 ⟨rfl, rfl⟩)
    | (go_at_call 47; refine (awake3_any _).mono ?_; rintro e w6 ⟨rfl, hb⟩))
  go_ret
  exact ⟨rfl, hb⟩
set_option maxRecDepth 100000 in
theorem walNil_any (v : Value) (a b : Int) (w : World) :
    Calls Try.prog 19 #[v, .int .i64 a, .int .i64 b] w fun e w' => e = .returned (.bool true) ∧ Below w.heap.size w w' := by
  go_enter Try.func19, Try.ntmps19
  go_wp2_with (first
    | (go_at_call 49; refine (Open_nil a b w).mono ?_; rintro e w6 ⟨rfl, rfl⟩)
    | (go_at_call 50; refine (Append_nil v w).mono ?_; rintro e w6 ⟨rfl, rfl⟩)
    | (go_at_call 57; refine (LLen_nil w).mono ?_; rintro e w6 ⟨rfl, rfl⟩)
    | (go_at_call 58; refine (LFree_nil w).mono ?_; rintro e w6 ⟨rfl, rfl⟩)
    | (go_at_call 48; refine (Format_nil a b w).mono ?_; rintro e w6 ⟨rfl, rfl⟩)
    | (go_at_call 47; refine (awake3_any _).mono ?_; rintro e w6 ⟨rfl, hb⟩))
  go_ret
  exact ⟨rfl, hb⟩
section
open Go.ChangeShapes Go.WideShapes Go.ChangeAt
theorem walNeed_walk {H : Type} {enc : TypeId × Value → H} (W : World) {base : Nat} (v0 : Value) {d0 : DataW H} {p0 : List MemPlace} (h0 : DataW.Trod enc Try.prog W 0 (fun _ => true) true 3 v0 d0 p0) (o0 : Value.okWide Try.prog W .any base 3 v0) :
    Calls Try.prog 14 #[v0] W fun e w' => e = .returned (.bool true) ∧ Below W.heap.size W w' := by
  obtain ⟨n, rfl, rfl, rfl, wn⟩ := open_int Try.underlying3 o0 h0
  have h3 : -9223372036854775808 ≤ n ∧ n ≤ 9223372036854775807 := by simpa [Lit.wf, IntKind.min, IntKind.max, IntKind.signed, IntKind.bits] using wn
  exact walNeed_any n W h3.1 h3.2
theorem walNil_walk {H : Type} {enc : TypeId × Value → H} (W : World) {base : Nat} (v0 v1 v2 : Value) {d0 d1 d2 : DataW H} {p0 p1 p2 : List MemPlace} (h0 : DataW.Trod enc Try.prog W 0 (fun _ => true) true 22 v0 d0 p0) (o0 : Value.okWide Try.prog W .any base 22 v0)
    (h1 : DataW.Trod enc Try.prog W 0 (fun _ => true) true 3 v1 d1 p1) (o1 : Value.okWide Try.prog W .any base 3 v1) (h2 : DataW.Trod enc Try.prog W 0 (fun _ => true) true 3 v2 d2 p2) (o2 : Value.okWide Try.prog W .any base 3 v2) :
    Calls Try.prog 19 #[v0, v1, v2] W fun e w' => e = .returned (.bool true) ∧ Below W.heap.size W w' := by
  obtain ⟨n, rfl, rfl, rfl, wn⟩ := open_int Try.underlying3 o1 h1
  obtain ⟨m, rfl, rfl, rfl, wm⟩ := open_int Try.underlying3 o2 h2
  exact walNil_any v0 n m W
end
end Go.Proofs.Ytiiegimnnngnnaa
