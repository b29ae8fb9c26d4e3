/- version: Cut, of, epochOf. -/
import Derived.Test.YtjkaigfpjebfbaaGreatDoorRv1
import Derived.Test.YtjkaigfpjebfbaaGreatDoorShelf
namespace Go.Proofs.YtjkaigfpjebfbaaGreatDoor
open Go.RowKit
set_option linter.unusedVariables false

/-- What Cut at one byte hands back. -/
def cut1 (s : ByteArray) (c : Nat) : ByteArray × ByteArray × Bool := if 0 ≤ idx s c then (s.extract 0 (idx s c).toNat, s.extract ((idx s c).toNat + 1) s.size, true) else (s, ⟨#[]⟩, false)
set_option maxRecDepth 100000 in
theorem scut_any (s : ByteArray) (c : UInt8) (w : World) (hs : s.size ≤ 1048576) :
    Calls Tryz.prog 79 #[.string s, .string ⟨#[c]⟩] w fun e w' => e = .returned (.tuple #[.string (cut1 s c.toNat).1, .string (cut1 s c.toNat).2.1, .bool (cut1 s c.toNat).2.2]) ∧ ∃ m, w' = w.drewN m := by
  have hin := Tryz.stringslite_Index_one s c w
  rw [indexByte_is] at hin
  have HIN := Lib.hid hin
  have hr := idx_range s c.toNat
  unfold cut1
  generalize idx s c.toNat = q at *
  clear hin
  rcases hr with rfl | ⟨k, rfl, hk⟩
  · rw [if_neg (by omega)]
    go_enter Tryz.func79, Tryz.ntmps79
    go_wp2_with (go_at_call 95; refine HIN.out.mono ?_; rintro e w1 ⟨rfl, rfl⟩)
    refine bodyPost_ret (v := .tuple #[.string s, .string ⟨#[]⟩, .bool false]) (by simp [results, Tryz.results79, go_sem]) rfl ?_
    exact ⟨rfl, 0, rfl⟩
  · rw [if_pos (by omega), Int.toNat_natCast]
    have k1 : (k : Int) ≤ (s.size : Int) := by omega
    have k2 : (k : Int) + 1 ≤ (s.size : Int) := by omega
    have k3 : (0 : Int) ≤ (k : Int) + 1 := by omega
    have hw1 : IntKind.i64.wrap ((k : Int) + 1) = (k : Int) + 1 := by rw [IntKind.wrap_i64]; omega
    go_enter Tryz.func79, Tryz.ntmps79
    go_wp2_with (go_at_call 95; refine HIN.out.mono ?_; rintro e w1 ⟨rfl, rfl⟩)
    go_region
    all_goals
      go_wp2_with fail
      refine bodyPost_ret (v := .tuple #[.string (s.extract 0 k), .string (s.extract (k + 1) s.size), .bool true]) (by simp [results, Tryz.results79, go_sem]) rfl ?_
      exact ⟨rfl, _, rfl⟩
set_option maxRecDepth 100000 in
theorem cut_any (s : ByteArray) (c : UInt8) (w : World) (hs : s.size ≤ 1048576) :
    Calls Tryz.prog 60 #[.string s, .string ⟨#[c]⟩] w fun e w' => e = .returned (.tuple #[.string (cut1 s c.toNat).1, .string (cut1 s c.toNat).2.1, .bool (cut1 s c.toNat).2.2]) ∧ ∃ m, w' = w.drewN m := by
  have HC := Lib.hid (scut_any s c w hs)
  generalize cut1 s c.toNat = r at *
  obtain ⟨a, b, d⟩ := r
  go_enter Tryz.func60, Tryz.ntmps60
  go_wp2_with (go_at_call 79; refine HC.out.mono ?_; rintro e w1 ⟨rfl, m, rfl⟩)
  refine bodyPost_ret (v := .tuple #[.string a, .string b, .bool d]) (by simp [results, Tryz.results60, go_sem]) rfl ?_
  exact ⟨rfl, m, rfl⟩
end Go.Proofs.YtjkaigfpjebfbaaGreatDoor
