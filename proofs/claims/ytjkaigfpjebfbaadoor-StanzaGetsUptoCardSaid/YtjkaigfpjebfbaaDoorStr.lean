/- text.Trim, white: they answer what the plain law says. -/
import Derived.Test.YtjkaigfpjebfbaaDoorTxt6
import Derived.Test.YtjkaigfpjebfbaaDoorShelfB
import Derived.Test.YtjkaigfpjebfbaaDoorGood2
import Derived.ProofKit
namespace Go.Proofs.YtjkaigfpjebfbaaDoor
open Go.RowKit Go.Shelf Go.Lib
set_option linter.unusedVariables false

theorem tabs_later {w w' : World} (h : Lib.Utf8Tabs 0 1 w) (hb : Below w.heap.size w w') : Lib.Utf8Tabs 0 1 w' := Utf8Tabs_below h hb
set_option maxRecDepth 100000 in
set_option maxHeartbeats 2000000 in
theorem white_gives (W : World) (x : Nat) : FnGives Tryd.prog 45 #[] #[encR x] (.bool (wB x)) W := by
  show Calls Tryd.prog 45 #[.int .i32 (x : Int)] W _
  by_cases h1 : x = 32
  · have q1 : ((x : Int) == 32) = true := beq_iff_eq.2 (by omega)
    have HE := Lib.hid (wB_yes (.inl h1))
    clear h1
    go_enter Tryd.func45, Tryd.ntmps45
    go_wp2
    go_ret
    exact ⟨ret_bool HE.out.symm, 0, rfl⟩
  · have q1 : ((x : Int) == 32) = false := beq_eq_false_iff_ne.2 (by omega)
    by_cases h2 : x = 9
    · have q2 : ((x : Int) == 9) = true := beq_iff_eq.2 (by omega)
      have HE := Lib.hid (wB_yes (.inr h2))
      clear h1 h2
      go_enter Tryd.func45, Tryd.ntmps45
      go_wp2
      go_ret
      exact ⟨ret_bool HE.out.symm, 0, rfl⟩
    · have q2 : ((x : Int) == 9) = false := beq_eq_false_iff_ne.2 (by omega)
      have HE := Lib.hid (wB_no ⟨h1, h2⟩)
      clear h1 h2
      go_enter Tryd.func45, Tryd.ntmps45
      go_wp2
      go_ret
      exact ⟨ret_bool HE.out.symm, 0, rfl⟩
theorem white_at (w : World) : PredAt Tryd.prog 45 #[] encR wB w := fun W x _ => white_gives W x
theorem white_enters : ∀ (args : Array Value) (w : World), (callFunc 45 args).run Tryd.prog w = .ok (.enter 45 args) w := enters_of Tryd.func45 (by kernel_rfl) rfl
set_option maxRecDepth 100000 in
set_option maxHeartbeats 2000000 in
theorem Trim_any (s : ByteArray) (w : World) (hs : s.size ≤ 9223372036854775807) (hT : Lib.Utf8Tabs 0 1 w) :
    Calls Tryd.prog 31 #[.string s] w fun e w' => e = .returned (.string (trimB s)) ∧ Below w.heap.size w w' := by
  have h1 := fun W hT => Tryd.strings_TrimFunc 45 #[] white_enters wB s W hs hT (white_at W)
  rw [trimF_B] at h1
  have H1 := Lib.hid h1
  have HT := Lib.hid hT
  clear h1 hT
  go_enter Tryd.func31, Tryd.ntmps31
  go_wp2_with fail
  refine (H1.out _ HT.out).mono ?_
  rintro e w1 ⟨rfl, hb⟩
  go_wp2_with fail
  go_ret
  exact ⟨rfl, hb⟩
theorem refWhite_any (b : Nat) (w : World) (hb : b < 256) : Calls Tryd.prog 27 #[.int .u8 (b : Int)] w fun e w' => e = .returned (.bool (wB b)) ∧ w = w' := by
  by_cases h1 : b = 32
  · have q1 : ((b : Int) == 32) = true := beq_iff_eq.2 (by omega)
    have HE := Lib.hid (wB_yes (.inl h1))
    clear h1
    go_enter Tryd.func27, Tryd.ntmps27
    go_wp2
    go_ret
    exact ⟨ret_bool HE.out.symm, rfl⟩
  · have q1 : ((b : Int) == 32) = false := beq_eq_false_iff_ne.2 (by omega)
    by_cases h2 : b = 9
    · have q2 : ((b : Int) == 9) = true := beq_iff_eq.2 (by omega)
      have HE := Lib.hid (wB_yes (.inr h2))
      clear h1 h2
      go_enter Tryd.func27, Tryd.ntmps27
      go_wp2
      go_ret
      exact ⟨ret_bool HE.out.symm, rfl⟩
    · have q2 : ((b : Int) == 9) = false := beq_eq_false_iff_ne.2 (by omega)
      have HE := Lib.hid (wB_no ⟨h1, h2⟩)
      clear h1 h2
      go_enter Tryd.func27, Tryd.ntmps27
      go_wp2
      go_ret
      exact ⟨ret_bool HE.out.symm, rfl⟩
end Go.Proofs.YtjkaigfpjebfbaaDoor
