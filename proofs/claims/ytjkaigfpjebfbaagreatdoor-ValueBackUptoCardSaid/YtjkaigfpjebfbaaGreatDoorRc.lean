/- relation.class. -/
import Derived.Test.YtjkaigfpjebfbaaGreatDoorZA
import Derived.Test.YtjkaigfpjebfbaaGreatDoorRl1
namespace Go.Proofs.YtjkaigfpjebfbaaGreatDoor
open Go.RowKit
set_option linter.unusedVariables false

/-- The class of a rune. -/
def clsN (c : Nat) : Nat := if c = 32 ∨ c = 9 then 1 else if c = 40 ∨ c = 41 ∨ c = 44 ∨ c = 124 then 2 else if c = 60 ∨ c = 62 ∨ c = 61 then 3 else 0
set_option maxRecDepth 100000 in
theorem class_any (c : Nat) (w : World) : Calls Tryz.prog 98 #[.int .i32 (c : Int)] w fun e w' => e = .returned (.int .i64 (clsN c : Int)) ∧ w = w' := by
  by_cases h32 : c = 32
  · subst h32
    go_enter Tryz.func98, Tryz.ntmps98
    go_wp2
    go_ret
    exact ⟨rfl, rfl⟩
  by_cases h9 : c = 9
  · subst h9
    go_enter Tryz.func98, Tryz.ntmps98
    go_wp2
    go_ret
    exact ⟨rfl, rfl⟩
  by_cases h40 : c = 40
  · subst h40
    go_enter Tryz.func98, Tryz.ntmps98
    go_wp2
    go_ret
    exact ⟨rfl, rfl⟩
  by_cases h41 : c = 41
  · subst h41
    go_enter Tryz.func98, Tryz.ntmps98
    go_wp2
    go_ret
    exact ⟨rfl, rfl⟩
  by_cases h44 : c = 44
  · subst h44
    go_enter Tryz.func98, Tryz.ntmps98
    go_wp2
    go_ret
    exact ⟨rfl, rfl⟩
  by_cases h124 : c = 124
  · subst h124
    go_enter Tryz.func98, Tryz.ntmps98
    go_wp2
    go_ret
    exact ⟨rfl, rfl⟩
  by_cases h60 : c = 60
  · subst h60
    go_enter Tryz.func98, Tryz.ntmps98
    go_wp2
    go_ret
    exact ⟨rfl, rfl⟩
  by_cases h62 : c = 62
  · subst h62
    go_enter Tryz.func98, Tryz.ntmps98
    go_wp2
    go_ret
    exact ⟨rfl, rfl⟩
  by_cases h61 : c = 61
  · subst h61
    go_enter Tryz.func98, Tryz.ntmps98
    go_wp2
    go_ret
    exact ⟨rfl, rfl⟩
  have HE : Hid (clsN c = 0) := Lib.hid (by unfold clsN; rw [if_neg (by omega), if_neg (by omega), if_neg (by omega)])
  have n32 : ((c : Int) == 32) = false := by (simp <;> omega)
  have n9 : ((c : Int) == 9) = false := by (simp <;> omega)
  have n40 : ((c : Int) == 40) = false := by (simp <;> omega)
  have n41 : ((c : Int) == 41) = false := by (simp <;> omega)
  have n44 : ((c : Int) == 44) = false := by (simp <;> omega)
  have n124 : ((c : Int) == 124) = false := by (simp <;> omega)
  have n60 : ((c : Int) == 60) = false := by (simp <;> omega)
  have n62 : ((c : Int) == 62) = false := by (simp <;> omega)
  have n61 : ((c : Int) == 61) = false := by (simp <;> omega)
  clear h32 h9 h40 h41 h44 h124 h60 h62 h61
  go_enter Tryz.func98, Tryz.ntmps98
  go_wp2
  go_ret
  exact ⟨ret_int (by rw [HE.out]; rfl), rfl⟩
end Go.Proofs.YtjkaigfpjebfbaaGreatDoor
