/- cnf: a literal's variable; how literals are compared. -/
import Derived.Test.YtghfelfljblkbaaLit
import Derived.Test.YtghfelfljblkbaaProg
import Derived.Test.YtghfelfljblkbaaChecked
import Derived.WalkKit
import Derived.Lib.SortBridge
import Derived.Sort.Statements
import Derived.Shelf.SlSortCmp.Kit1
namespace Go.Proofs.Ytghfelfljblkbaa
open Go.RowKit Go.Sort
set_option linter.unusedVariables false

/-- What 'variable' says of whatever number. -/
def vw (x : Int) : Int := if x < 0 then IntKind.u64.wrap (-(IntKind.u64.wrap x)) else IntKind.u64.wrap x
theorem u64_w (x : Int) : IntKind.u64.wrap x = x % 18446744073709551616 := by
  simp [IntKind.wrap, IntKind.signed, IntKind.bits]
theorem vw_ok {x : Int} (h : Ok x) : vw x = (Cf.va x : Int) := by
  unfold vw Cf.va
  obtain ⟨h1, h2⟩ := h
  simp only [u64_w]
  split <;> omega
set_option maxRecDepth 100000 in
theorem var_any (x : Int) (w : World) : Calls Try.prog 67 #[.int .i64 x] w fun e w' => e = .returned (.int .u64 (vw x)) ∧ w = w' := by
  have hv : vw x = if x < 0 then IntKind.u64.wrap (-(IntKind.u64.wrap x)) else IntKind.u64.wrap x := rfl
  generalize vw x = v at *
  by_cases h : x < 0
  · rw [if_pos h] at hv
    have HV := Lib.hid hv
    clear hv
    go_enter Try.func67, Try.ntmps67
    go_wp2_with fail
    go_ret
    exact ⟨ret_int HV.out.symm, rfl⟩
  · rw [if_neg h] at hv
    have HV := Lib.hid hv
    clear hv
    go_enter Try.func67, Try.ntmps67
    go_wp2_with fail
    go_ret
    exact ⟨ret_int HV.out.symm, rfl⟩
def cmpI (a b : Int) : Int := if a < b then -1 else if b < a then 1 else 0
set_option maxRecDepth 100000 in
theorem cmpU_any (a b : Int) (w : World) : Calls Try.prog 66 #[.int .u64 a, .int .u64 b] w fun e w' => e = .returned (.int .i64 (cmpI a b)) ∧ w = w' := by
  rcases (show a < b ∨ b < a ∨ a = b by omega) with h | h | h
  · have e : cmpI a b = -1 := by unfold cmpI; rw [if_pos h]
    rw [e]
    go_enter Try.func66, Try.ntmps66
    go_wp2_with go_in
    go_ret
    exact ⟨rfl, rfl⟩
  · have e : cmpI a b = 1 := by unfold cmpI; rw [if_neg (by omega), if_pos h]
    rw [e]
    have h' : ¬ a < b := by omega
    go_enter Try.func66, Try.ntmps66
    go_wp2_with go_in
    go_ret
    exact ⟨rfl, rfl⟩
  · subst h
    have e : cmpI a a = 0 := by unfold cmpI; rw [if_neg (by omega), if_neg (by omega)]
    rw [e]
    go_enter Try.func66, Try.ntmps66
    go_wp2_with go_in
    go_ret
    exact ⟨rfl, rfl⟩
set_option maxRecDepth 100000 in
theorem cmpL_any (a b : Int) (w : World) : Calls Try.prog 68 #[.int .i64 a, .int .i64 b] w fun e w' => e = .returned (.int .i64 (cmpI a b)) ∧ w = w' := by
  rcases (show a < b ∨ b < a ∨ a = b by omega) with h | h | h
  · have e : cmpI a b = -1 := by unfold cmpI; rw [if_pos h]
    rw [e]
    go_enter Try.func68, Try.ntmps68
    go_wp2_with go_in
    go_ret
    exact ⟨rfl, rfl⟩
  · have e : cmpI a b = 1 := by unfold cmpI; rw [if_neg (by omega), if_pos h]
    rw [e]
    have h' : ¬ a < b := by omega
    go_enter Try.func68, Try.ntmps68
    go_wp2_with go_in
    go_ret
    exact ⟨rfl, rfl⟩
  · subst h
    have e : cmpI a a = 0 := by unfold cmpI; rw [if_neg (by omega), if_neg (by omega)]
    rw [e]
    go_enter Try.func68, Try.ntmps68
    go_wp2_with go_in
    go_ret
    exact ⟨rfl, rfl⟩
/-- How the clause's sort compares. -/
def cf (x y : Int) : Int := if cmpI (vw x) (vw y) = 0 then cmpI x y else cmpI (vw x) (vw y)
set_option maxRecDepth 100000 in
set_option maxHeartbeats 1000000 in
theorem Or_any (g : Nat) (a b : Int) (w : World) (k0 : w.cell? ⟨g, 0, none⟩ = some (.int .i64 a)) (k1 : w.cell? ⟨g, 1, none⟩ = some (.int .i64 b)) :
    Calls Try.prog 65 #[.slice (some ⟨g, 0, none⟩) 2 2] w fun e w' => e = .returned (.int .i64 (if a = 0 then b else a)) ∧ w = w' := by
  go_enter Try.func65, Try.ntmps65
  go_wp2_with fail
  go_loopw [8] (fun t wr => ∃ i : Nat, t = .int .i64 (i : Int) ∧ i ≤ 2 ∧ (1 ≤ i → a = 0) ∧ (2 ≤ i → b = 0) ∧ w = wr) (fun t _ => 2 - (match t with | .int _ x => x.toNat | _ => 0))
  case atStart => exact ⟨0, rfl, by omega, fun h => by omega, fun h => by omega, rfl⟩
  case round =>
    obtain ⟨i, rfl, hi, h1, h2, rfl⟩ := hrel
    rcases (show i = 0 ∨ i = 1 ∨ i = 2 by omega) with rfl | rfl | rfl
    · clear h1 h2
      by_cases h : a = 0
      · subst h
        go_wp2_with fail
        exact ⟨⟨1, by go_num, by omega, fun _ => (by first | rfl | trivial), fun h => by omega, by first | rfl | trivial⟩, by show 2 - ((0 : Int) + 1).toNat < 2 - (0 : Int).toNat; decide⟩
      · go_wp2_with fail
        go_ret
        exact ⟨ret_int (by first | rfl | rw [if_neg h]), rfl⟩
    · have ha := h1 (by omega)
      clear h1 h2
      subst ha
      by_cases h : b = 0
      · subst h
        go_wp2_with fail
        exact ⟨⟨2, by go_num, by omega, fun _ => (by first | rfl | trivial), fun _ => (by first | rfl | trivial), by first | rfl | trivial⟩, by show 2 - ((1 : Int) + 1).toNat < 2 - (1 : Int).toNat; decide⟩
      · go_wp2_with fail
        go_ret
        exact ⟨ret_int (by first | rfl | rw [if_pos rfl]), rfl⟩
    · have ha := h1 (by omega)
      have hb := h2 (by omega)
      clear h1 h2
      subst ha hb
      go_wp2_with fail
      go_ret
      exact ⟨ret_int (by first | rfl | rw [if_pos rfl]), rfl⟩
theorem cell_lit2 (w : World) (a b : Int) (t : TypeId) : (w.alloc (.cells #[Value.int .i64 a, .int .i64 b] t)).cell? ⟨w.heap.size, 0, none⟩ = some (.int .i64 a) ∧ (w.alloc (.cells #[Value.int .i64 a, .int .i64 b] t)).cell? ⟨w.heap.size, 1, none⟩ = some (.int .i64 b) := by
  have h := Blk.new w t #[Value.int .i64 a, .int .i64 b]
  exact ⟨h.cell 0, h.cell 1⟩
set_option maxRecDepth 100000 in
set_option maxHeartbeats 1000000 in
/-- The clause's comparison, in whatever world. -/
theorem cmp_any (x y : Int) (W : World) : Calls Try.prog 64 #[.int .i64 x, .int .i64 y] W fun e w' => e = .returned (.int .i64 (cf x y)) ∧ ∃ q os, w' = grow (W.drewN q) os := by
  have HU := Lib.hid (fun w => cmpU_any (vw x) (vw y) w)
  have HL := Lib.hid (fun w => cmpL_any x y w)
  have HX := Lib.hid (fun w => var_any x w)
  have HY := Lib.hid (fun w => var_any y w)
  have hcf : cf x y = if cmpI (vw x) (vw y) = 0 then cmpI x y else cmpI (vw x) (vw y) := rfl
  generalize cmpI (vw x) (vw y) = a at *
  generalize cmpI x y = b at *
  rw [hcf]
  generalize vw x = vx at *
  generalize vw y = vy at *
  clear hcf
  go_enter Try.func64, Try.ntmps64
  go_wp2_with fail
  go_at_call 67
  refine (HX.out _).mono ?_
  rintro e w' ⟨rfl, rfl⟩
  go_wp2_with fail
  go_at_call 67
  refine (HY.out _).mono ?_
  rintro e w' ⟨rfl, rfl⟩
  go_wp2_with (first
    | (go_at_call 66; refine (HU.out _).mono ?_; rintro e w' ⟨rfl, rfl⟩)
    | (go_at_call 68; refine (HL.out _).mono ?_; rintro e w' ⟨rfl, rfl⟩)
    | (go_at_call 65; refine (Or_any W.heap.size a b _ (cell_lit2 W a b _).1 (cell_lit2 W a b _).2).mono ?_; rintro e w' ⟨rfl, rfl⟩))
  all_goals
    go_ret
    exact ⟨rfl, 0, #[_], alloc_eq_grow _ _⟩
end Go.Proofs.Ytghfelfljblkbaa
