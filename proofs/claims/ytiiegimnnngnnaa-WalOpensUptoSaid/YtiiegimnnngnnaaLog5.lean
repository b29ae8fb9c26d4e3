/- wal: areas; Format; how many, how much is free. -/
import Derived.Test.YtiiegimnnngnnaaLog4
namespace Go.Proofs.Ytiiegimnnngnnaa
open Go.RowKit
set_option linter.unusedVariables false

def isArea (n : Nat) (fr to : Int) : Bool := decide (0 ≤ fr ∧ fr < to ∧ to ≤ n)
set_option maxRecDepth 100000 in
theorem area_any (p r s cr cs : Nat) (D : Dk) (fr to : Int) (w : World) (h : DiskAt w p r s cr cs D) :
    Calls Try.prog 69 #[.pointer (some ⟨p, 0, none⟩), .int .i64 fr, .int .i64 to] w fun e w' => e = .returned (.bool (isArea D.n fr to)) ∧ w = w' := by
  have HN := Lib.hid (Len_any p r s cr cs D w h)
  obtain ⟨n, hn⟩ : ∃ n, n = D.n := ⟨_, rfl⟩
  rw [← hn] at HN ⊢
  clear h hn
  by_cases h1 : 0 ≤ fr
  · by_cases h2 : fr < to
    · by_cases h3 : to ≤ (n : Int)
      · have e : isArea n fr to = true := decide_eq_true ⟨h1, h2, h3⟩
        rw [e]
        go_enter Try.func69, Try.ntmps69
        go_wp2_with (go_at_call 32; refine HN.out.mono ?_; rintro e w' ⟨rfl, rfl⟩)
        go_ret
        exact ⟨rfl, rfl⟩
      · have e : isArea n fr to = false := decide_eq_false fun h => h3 h.2.2
        have h3' : decide (to ≤ (n : Int)) = false := decide_eq_false h3
        rw [e]
        go_enter Try.func69, Try.ntmps69
        go_wp2_with (go_at_call 32; refine HN.out.mono ?_; rintro e w' ⟨rfl, rfl⟩)
        go_ret
        exact ⟨rfl, rfl⟩
    · have e : isArea n fr to = false := decide_eq_false fun h => h2 h.2.1
      have h2' : decide (fr < to) = false := decide_eq_false h2
      rw [e]
      go_enter Try.func69, Try.ntmps69
      go_wp2
      go_ret
      exact ⟨rfl, rfl⟩
  · have e : isArea n fr to = false := decide_eq_false fun h => h1 h.1
    have h1' : decide (0 ≤ fr) = false := decide_eq_false h1
    rw [e]
    go_enter Try.func69, Try.ntmps69
    go_wp2
    go_ret
    exact ⟨rfl, rfl⟩
theorem area_nil (fr to : Int) (w : World) :
    Calls Try.prog 69 #[.pointer none, .int .i64 fr, .int .i64 to] w fun e w' => e = .returned (.bool false) ∧ w = w' := by
  go_enter Try.func69, Try.ntmps69
  go_wp2
  go_ret
  exact ⟨rfl, rfl⟩
set_option maxRecDepth 100000 in
theorem LLen_any (l g cap p : Nat) (L : Wl.Lg) (w : World) (h : LogAt w l g cap p L) :
    Calls Try.prog 57 #[.pointer (some ⟨l, 0, none⟩)] w fun e w' => e = .returned (.int .i64 (L.n : Int)) ∧ w = w' := by
  have c4 : w.cell? ⟨l, 4, none⟩ = some (.int .i64 (L.n : Int)) := h.blk.cell 4
  clear h
  go_enter Try.func57, Try.ntmps57
  go_wp2
  go_ret
  exact ⟨rfl, rfl⟩
set_option maxRecDepth 100000 in
theorem LFree_any (l g cap p : Nat) (L : Wl.Lg) (w : World) (h : LogAt w l g cap p L) (h1 : L.next ≤ L.to) (h2 : L.to ≤ 4096) :
    Calls Try.prog 58 #[.pointer (some ⟨l, 0, none⟩)] w fun e w' => e = .returned (.int .i64 ((L.to - L.next : Nat) : Int)) ∧ ∃ m, w' = w.drewN m := by
  have c2 : w.cell? ⟨l, 2, none⟩ = some (.int .i64 (L.to : Int)) := h.blk.cell 2
  have c5 : w.cell? ⟨l, 5, none⟩ = some (.int .i64 (L.next : Int)) := h.blk.cell 5
  clear h
  generalize L.to = t at *
  generalize L.next = x at *
  go_enter Try.func58, Try.ntmps58
  go_wp2_with fail
  go_quiet (fail)
  go_wp2_with fail
  go_ret
  exact ⟨ret_int (by omega), _, rfl⟩
theorem LLen_nil (w : World) : Calls Try.prog 57 #[.pointer none] w fun e w' => e = .returned (.int .i64 0) ∧ w = w' := by
  go_enter Try.func57, Try.ntmps57
  go_wp2
  go_ret
  exact ⟨rfl, rfl⟩
theorem LFree_nil (w : World) : Calls Try.prog 58 #[.pointer none] w fun e w' => e = .returned (.int .i64 0) ∧ w = w' := by
  go_enter Try.func58, Try.ntmps58
  go_wp2
  go_ret
  exact ⟨rfl, rfl⟩
theorem Append_nil (v : Value) (w : World) : Calls Try.prog 50 #[.pointer none, v] w fun e w' => e = .returned (.int .i64 1) ∧ w = w' := by
  go_enter Try.func50, Try.ntmps50
  go_wp2
  go_ret
  exact ⟨rfl, rfl⟩
theorem Open_nil (fr to : Int) (w : World) : Calls Try.prog 49 #[.pointer none, .int .i64 fr, .int .i64 to] w fun e w' => e = .returned (.tuple #[.pointer none, .slice none 0 0, .int .i64 1]) ∧ w = w' := by
  go_enter Try.func49, Try.ntmps49
  go_wp2_with (go_at_call 69; refine (area_nil fr to w).mono ?_; rintro e w' ⟨rfl, rfl⟩)
  exact bodyPost_ret (v := .tuple #[.pointer none, .slice none 0 0, .int .i64 1]) (by simp [results, Try.results49, go_sem]) rfl ⟨rfl, rfl⟩
theorem Format_nil (fr to : Int) (w : World) : Calls Try.prog 48 #[.pointer none, .int .i64 fr, .int .i64 to] w fun e w' => e = .returned (.int .i64 1) ∧ w = w' := by
  go_enter Try.func48, Try.ntmps48
  go_wp2_with (go_at_call 69; refine (area_nil fr to w).mono ?_; rintro e w' ⟨rfl, rfl⟩)
  go_ret
  exact ⟨rfl, rfl⟩
end Go.Proofs.Ytiiegimnnngnnaa
