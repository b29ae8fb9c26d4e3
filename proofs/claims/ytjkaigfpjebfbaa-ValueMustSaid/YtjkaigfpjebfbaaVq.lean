/- ValueMust$4. -/
import Derived.Test.YtjkaigfpjebfbaaVn
namespace Go.Proofs.Ytjkaigfpjebfbaa
open Go.RowKit
set_option linter.unusedVariables false

theorem kindB_size (j : Nat) : (kindB j).size ≤ 1048576 := by
  unfold kindB
  repeat' split
  all_goals decide
set_option maxRecDepth 100000 in
set_option maxHeartbeats 1000000 in
theorem right_any (j q : Nat) (r : Option Addr) (gr : Nat) (w : World) (hW : WrAt w j q r) (hr : w.cell? ⟨gr, 0, none⟩ = some (.string (kindB q))) :
    Calls Try.prog 20 #[.pointer r, .string (kindB j), .pointer (some ⟨gr, 0, none⟩)] w fun e w' => e = .returned (.bool true) ∧ Below w.heap.size w w' := by
  have s1 := kindB_size j
  have s2 := kindB_size q
  rcases hW with ⟨rfl, rfl⟩ | ⟨hk, g, rfl, hB⟩
  · obtain ⟨a, ha⟩ : ∃ a, a = kindB q := ⟨_, rfl⟩
    rw [← ha] at hr s1 ⊢
    clear s2 ha
    have q1 : (a.toList == a.toList) = true := by simp
    go_enter Try.func20, Try.ntmps20
    go_wp2_with fail
    go_ret
    exact ⟨rfl, Below.refl _ _⟩
  · obtain ⟨a, ha⟩ : ∃ a, a = kindB j := ⟨_, rfl⟩
    obtain ⟨c, hc⟩ : ∃ c, c = kindB q := ⟨_, rfl⟩
    rw [← ha, ← hc] at hk hB
    rw [← hc] at hr s2
    rw [← ha] at s1 ⊢
    clear ha hc
    have q1 : (c.toList == a.toList) = false := by rw [str_eq, decide_eq_false_iff_not]; exact fun e => hk e.symm
    have q2 : (a.toList == a.toList) = true := by simp
    have q3 : (c.toList == c.toList) = true := by simp
    have k0 : w.cell? ⟨g, 0, none⟩ = some (.string a) := hB.cell 0
    have k1 : w.cell? ⟨g, 1, none⟩ = some (.string c) := hB.cell 1
    have q4 : ((⟨#[119, 97, 110, 116, 32]⟩ ++ a ++ ⟨#[44, 32, 103, 111, 116, 32]⟩ ++ c : ByteArray).toList == (⟨#[119, 97, 110, 116, 32]⟩ ++ a ++ ⟨#[44, 32, 103, 111, 116, 32]⟩ ++ c : ByteArray).toList) = true := by simp
    have HE : Hid (∀ n, Calls Try.prog 9 #[.pointer (some ⟨g, 0, none⟩)] (w.drewN n) fun e w' => e = .returned (.string (⟨#[119, 97, 110, 116, 32]⟩ ++ a ++ ⟨#[44, 32, 103, 111, 116, 32]⟩ ++ c)) ∧ ∃ m, w' = w.drewN m) := Lib.hid (fun n => (Error_quiet g a c (w.drewN n) k0 k1 s1 s2).mono fun e w' h => ⟨h.1, by obtain ⟨m, rfl⟩ := h.2; exact ⟨n + m, by simp [World.drewN, Nat.add_assoc]⟩⟩)
    clear hk hB
    go_enter Try.func20, Try.ntmps20
    go_upto_region 3 with fail
    go_quiet ((go_at_call 9; exact ((HE.out _).mono fun e w' h => ⟨h.1, h.2⟩)))
    go_wp2_with fail
    go_ret
    exact ⟨rfl, below_drewN _ _⟩

end Go.Proofs.Ytjkaigfpjebfbaa
