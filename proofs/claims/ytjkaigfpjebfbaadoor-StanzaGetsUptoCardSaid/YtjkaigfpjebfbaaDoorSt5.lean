/- stanza's reader: field: its head. -/
import Derived.Test.YtjkaigfpjebfbaaDoorSt4
import Derived.Test.YtjkaigfpjebfbaaDoorMono
namespace Go.Proofs.YtjkaigfpjebfbaaDoor
open Go.RowKit
set_option linter.unusedVariables false

set_option maxRecDepth 100000 in
set_option maxHeartbeats 4000000 in
theorem field_none (q : Nat) (s : ByteArray) (ln : Int) (w : World) (h : nameN s = 0 ∨ nameN s = s.size) (hs : s.size ≤ 1048576) :
    Calls Tryd.prog 42 #[.pointer (some ⟨q, 0, none⟩), .string s, .int .i64 ln] w fun e w' => e = .returned (.int .i64 3) ∧ Below w.heap.size w w' := by
  have HN := Lib.hid (fun W => name_any s W (by omega))
  obtain ⟨n, hn⟩ : ∃ n, n = nameN s := ⟨_, rfl⟩
  rw [← hn] at HN h
  clear hn
  rcases h with h | h
  · have e1 : (n : Int) < 1 := by omega
    clear h
    go_enter Tryd.func42, Tryd.ntmps42
    go_wp2_with (go_at_call 49; refine (HN.out _).mono ?_; rintro e w1 ⟨rfl, hb1⟩)
    go_ret
    exact ⟨rfl, hb1⟩
  · subst h
    have e2 : ((s.size : Int) == (s.size : Int)) = true := by simp
    by_cases e0 : s.size = 0
    · have e1 : (s.size : Int) < 1 := by omega
      clear e0
      go_enter Tryd.func42, Tryd.ntmps42
      go_wp2_with (go_at_call 49; refine (HN.out _).mono ?_; rintro e w1 ⟨rfl, hb1⟩)
      all_goals (go_ret; exact ⟨rfl, hb1⟩)
    · have e1 : ((s.size : Int) == 0) = false := by rw [beq_eq_false_iff_ne]; omega
      clear e0
      go_enter Tryd.func42, Tryd.ntmps42
      go_wp2_with (go_at_call 49; refine (HN.out _).mono ?_; rintro e w1 ⟨rfl, hb1⟩)
      go_ret
      exact ⟨rfl, hb1⟩
end Go.Proofs.YtjkaigfpjebfbaaDoor
