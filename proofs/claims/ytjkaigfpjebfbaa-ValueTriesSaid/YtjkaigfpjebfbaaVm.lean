/- (*value.Wrong).Error; value.must, MustText, MustCount, MustYes; only. -/
import Derived.Test.YtjkaigfpjebfbaaVt3
namespace Go.Proofs.Ytjkaigfpjebfbaa
open Go.RowKit
set_option linter.unusedVariables false

set_option maxRecDepth 100000 in
theorem Error_nil (w : World) : Calls Try.prog 9 #[.pointer none] w fun e w' => e = .returned (.string ⟨#[]⟩) ∧ w = w' := by
  go_enter Try.func9, Try.ntmps9
  go_wp2_with fail
  go_ret
  exact ⟨rfl, rfl⟩
set_option maxRecDepth 100000 in
set_option maxHeartbeats 1000000 in
theorem Error_any (g : Nat) (want got : ByteArray) (w : World) (h : Blk w g 44 #[.string want, .string got]) (h1 : want.size ≤ 1048576) (h2 : got.size ≤ 1048576) :
    Calls Try.prog 9 #[.pointer (some ⟨g, 0, none⟩)] w fun e w' => e = .returned (.string (⟨#[119, 97, 110, 116, 32]⟩ ++ want ++ ⟨#[44, 32, 103, 111, 116, 32]⟩ ++ got)) ∧ Below w.heap.size w w' := by
  have k0 : w.cell? ⟨g, 0, none⟩ = some (.string want) := h.cell 0
  have k1 : w.cell? ⟨g, 1, none⟩ = some (.string got) := h.cell 1
  clear h
  go_enter Try.func9, Try.ntmps9
  go_wp2_with fail
  go_quiet (fail)
  go_wp2_with fail
  go_ret
  exact ⟨rfl, (Below.refl _ w).trans (⟨rfl, rfl, rfl, Nat.le_refl _, fun _ _ => rfl⟩)⟩
set_option maxRecDepth 100000 in
set_option maxHeartbeats 1000000 in
theorem must_ok {k : Nat} {x : Value} (h : VK k x) (want : ByteArray) (hw : want = kindB k) (w : World) : Calls Try.prog 43 #[.agg #[x], .string want] w fun e w' => e = .returned (.tuple #[]) ∧ Below w.heap.size w w' := by
  have HK := Lib.hid (fun W => Kind_any h W)
  have k0 : (w.alloc (.cells #[x] 35)).cell? ⟨w.heap.size, 0, none⟩ = some x := (Blk.new w _ _).cell 0
  have HB := Lib.hid ((Below.refl w.heap.size w).alloc (Nat.le_refl _) (.cells #[x] 35))
  have q1 : (want.toList == want.toList) = true := by simp
  rw [← hw] at HK
  clear hw h
  go_enter Try.func43, Try.ntmps43
  go_wp2_with (go_at_call 27; refine (HK.out _).mono ?_; rintro e w1 ⟨rfl, hb1⟩)
  go_end0
  exact ⟨rfl, HB.out.trans (hb1.mono HB.out.size)⟩
set_option maxRecDepth 100000 in
set_option maxHeartbeats 1000000 in
theorem must_no {k : Nat} {x : Value} (h : VK k x) (want : ByteArray) (hw : want ≠ kindB k) (w : World) : Calls Try.prog 43 #[.agg #[x], .string want] w fun e w' => ∃ g, e = .panicked [{ v := .iface 22 (.pointer (some ⟨g, 0, none⟩)), recovered := false }] ∧ Hid (Blk w' g 44 #[.string want, .string (kindB k)] ∧ w.heap.size ≤ g ∧ Below w.heap.size w w') := by
  have HK := Lib.hid (fun W => Kind_any h W)
  have k0 : (w.alloc (.cells #[x] 35)).cell? ⟨w.heap.size, 0, none⟩ = some x := (Blk.new w _ _).cell 0
  have HB := Lib.hid ((Below.refl w.heap.size w).alloc (Nat.le_refl _) (.cells #[x] 35))
  obtain ⟨got, hgot⟩ : ∃ got, got = kindB k := ⟨_, rfl⟩
  rw [← hgot] at HK hw ⊢
  have q1 : (got.toList == want.toList) = false := by rw [str_eq, decide_eq_false_iff_not]; exact fun e => hw e.symm
  clear hw h hgot
  go_enter Try.func43, Try.ntmps43
  go_wp2_with (go_at_call 27; refine (HK.out _).mono ?_; rintro e w1 ⟨rfl, hb1⟩; have HB1 := Lib.hid (HB.out.trans (hb1.mono HB.out.size)); clear hb1)
  exact ⟨rfl, w1.heap.size, rfl, Lib.hid ⟨Blk.new w1 _ _, HB1.out.size, HB1.out.alloc HB1.out.size _⟩⟩
end Go.Proofs.Ytjkaigfpjebfbaa
