/- version.Sign, chandlerref4.Sign, version.Rel. -/
import Derived.Test.YtjkaigfpjebfbaaGreatDoorRv4
import Derived.Test.YtjkaigfpjebfbaaGreatDoorRp
namespace Go.Proofs.YtjkaigfpjebfbaaGreatDoor
open Go.RowKit
set_option linter.unusedVariables false

/-- A relation's sign. -/
def sgnB (k : Int) : ByteArray := if k = 1 then ⟨#[60, 60]⟩ else if k = 2 then ⟨#[60, 61]⟩ else if k = 3 then ⟨#[61]⟩ else if k = 4 then ⟨#[62, 61]⟩ else if k = 5 then ⟨#[62, 62]⟩ else ⟨#[]⟩
set_option maxRecDepth 100000 in
theorem Sign_any (k : Int) (w : World) : Calls Tryz.prog 70 #[.int .i64 k] w fun e w' => e = .returned (.string (sgnB k)) ∧ w = w' := by
  by_cases h1 : k = 1
  · subst h1
    go_enter Tryz.func70, Tryz.ntmps70
    go_wp2
    go_ret
    exact ⟨rfl, rfl⟩
  by_cases h2 : k = 2
  · subst h2
    go_enter Tryz.func70, Tryz.ntmps70
    go_wp2
    go_ret
    exact ⟨rfl, rfl⟩
  by_cases h3 : k = 3
  · subst h3
    go_enter Tryz.func70, Tryz.ntmps70
    go_wp2
    go_ret
    exact ⟨rfl, rfl⟩
  by_cases h4 : k = 4
  · subst h4
    go_enter Tryz.func70, Tryz.ntmps70
    go_wp2
    go_ret
    exact ⟨rfl, rfl⟩
  by_cases h5 : k = 5
  · subst h5
    go_enter Tryz.func70, Tryz.ntmps70
    go_wp2
    go_ret
    exact ⟨rfl, rfl⟩
  have HE : Hid (sgnB k = ⟨#[]⟩) := Lib.hid (by unfold sgnB; rw [if_neg h1, if_neg h2, if_neg h3, if_neg h4, if_neg h5])
  have n1 : (k == 1) = false := by rw [beq_eq_false_iff_ne]; exact h1
  have n2 : (k == 2) = false := by rw [beq_eq_false_iff_ne]; exact h2
  have n3 : (k == 3) = false := by rw [beq_eq_false_iff_ne]; exact h3
  have n4 : (k == 4) = false := by rw [beq_eq_false_iff_ne]; exact h4
  have n5 : (k == 5) = false := by rw [beq_eq_false_iff_ne]; exact h5
  clear h1 h2 h3 h4 h5
  go_enter Tryz.func70, Tryz.ntmps70
  go_wp2
  go_ret
  exact ⟨by rw [HE.out]; rfl, rfl⟩
set_option maxRecDepth 100000 in
theorem RSign_any (k : Int) (w : World) : Calls Tryz.prog 75 #[.int .i64 k] w fun e w' => e = .returned (.string (sgnB k)) ∧ w = w' := by
  by_cases h1 : k = 1
  · subst h1
    go_enter Tryz.func75, Tryz.ntmps75
    go_wp2
    go_ret
    exact ⟨rfl, rfl⟩
  by_cases h2 : k = 2
  · subst h2
    go_enter Tryz.func75, Tryz.ntmps75
    go_wp2
    go_ret
    exact ⟨rfl, rfl⟩
  by_cases h3 : k = 3
  · subst h3
    go_enter Tryz.func75, Tryz.ntmps75
    go_wp2
    go_ret
    exact ⟨rfl, rfl⟩
  by_cases h4 : k = 4
  · subst h4
    go_enter Tryz.func75, Tryz.ntmps75
    go_wp2
    go_ret
    exact ⟨rfl, rfl⟩
  by_cases h5 : k = 5
  · subst h5
    go_enter Tryz.func75, Tryz.ntmps75
    go_wp2
    go_ret
    exact ⟨rfl, rfl⟩
  have HE : Hid (sgnB k = ⟨#[]⟩) := Lib.hid (by unfold sgnB; rw [if_neg h1, if_neg h2, if_neg h3, if_neg h4, if_neg h5])
  have n1 : (k == 1) = false := by rw [beq_eq_false_iff_ne]; exact h1
  have n2 : (k == 2) = false := by rw [beq_eq_false_iff_ne]; exact h2
  have n3 : (k == 3) = false := by rw [beq_eq_false_iff_ne]; exact h3
  have n4 : (k == 4) = false := by rw [beq_eq_false_iff_ne]; exact h4
  have n5 : (k == 5) = false := by rw [beq_eq_false_iff_ne]; exact h5
  clear h1 h2 h3 h4 h5
  go_enter Tryz.func75, Tryz.ntmps75
  go_wp2
  go_ret
  exact ⟨by rw [HE.out]; rfl, rfl⟩
theorem str_eqv (a b : ByteArray) : (a.toList == b.toList) = decide (a = b) := by
  rw [ByteArray.toList_eq, ByteArray.toList_eq, Bool.eq_iff_iff, beq_iff_eq, decide_eq_true_eq]
  exact ⟨fun h => bl_inj h, fun h => by rw [h]⟩
theorem sgnB_bl (k : Nat) : bl (sgnB (k : Int)) = Rl.sgn k := by
  by_cases h : k ≤ 5
  · have : k = 0 ∨ k = 1 ∨ k = 2 ∨ k = 3 ∨ k = 4 ∨ k = 5 := by omega
    rcases this with rfl | rfl | rfl | rfl | rfl | rfl <;> rfl
  · have e : sgnB (k : Int) = ⟨#[]⟩ := by unfold sgnB; rw [if_neg (by omega), if_neg (by omega), if_neg (by omega), if_neg (by omega), if_neg (by omega)]
    rw [e]
    match k, h with
    | k + 6, _ => rfl
theorem rel_of_sgn {s : ByteArray} {k : Nat} (h1 : 1 ≤ k) (h5 : k ≤ 5) (h : sgnB (k : Int) = s) : Rl.relOf (bl s) = k := by
  rw [← h, sgnB_bl]; exact (Rl.sgn_cls k h1 h5).2.1
theorem rel_none {s : ByteArray} (h : ∀ j : Nat, 1 ≤ j → j < 6 → sgnB (j : Int) ≠ s) : Rl.relOf (bl s) = 0 := by
  cases hz : Rl.relOf (bl s) with
  | zero => rfl
  | succ m =>
    obtain ⟨e, a, b⟩ := Rl.relOf_sgn hz (by omega)
    exact absurd (bl_inj (by rw [sgnB_bl, e])) (h (m + 1) a (by omega))
set_option maxRecDepth 100000 in
theorem Rel_any (s : ByteArray) (w : World) : Calls Tryz.prog 115 #[.string s] w fun e w' => e = .returned (.int .i64 (Rl.relOf (bl s) : Int)) ∧ w = w' := by
  have HS := Lib.hid (fun k W => Sign_any k W)
  go_enter Tryz.func115, Tryz.ntmps115
  go_wp2
  go_loopw [3] (fun v wr => ∃ k : Nat, v = .int .i64 (k : Int) ∧ 1 ≤ k ∧ k ≤ 6 ∧ Hid (∀ j : Nat, 1 ≤ j → j < k → sgnB (j : Int) ≠ s) ∧ wr = w) (fun v _ => match v with | .int _ x => 6 - x.toNat | _ => 0)
  case atStart => exact ⟨1, rfl, by omega, by omega, Lib.hid (fun j h1 h2 => absurd h2 (by omega)), rfl⟩
  case round =>
    obtain ⟨k, rfl, h1, h6, HN, rfl⟩ := hrel
    by_cases h5 : k ≤ 5
    · have i5 : (k : Int) ≤ 5 := by omega
      have HSK := Lib.hid (HS.out (k : Int))
      obtain ⟨t, ht⟩ : ∃ t, t = sgnB (k : Int) := ⟨_, rfl⟩
      rw [← ht] at HSK
      have HT := Lib.hid ht
      clear ht
      by_cases hts : t = s
      · have q : (t.toList == s.toList) = true := by rw [str_eqv, decide_eq_true hts]
        have HF : Hid (Rl.relOf (bl s) = k) := Lib.hid (rel_of_sgn h1 h5 (by rw [← HT.out]; exact hts))
        clear hts
        go_wp2_with (go_at_call 70; refine (HSK.out _).mono ?_; rintro e w1 ⟨rfl, rfl⟩)
        go_ret
        exact ⟨by rw [HF.out]; rfl, rfl⟩
      · have q : (t.toList == s.toList) = false := by rw [str_eqv, decide_eq_false hts]
        have HN2 : Hid (∀ j : Nat, 1 ≤ j → j < k + 1 → sgnB (j : Int) ≠ s) := Lib.hid (fun j h1 h2 => by
          by_cases e : j = k
          · rw [e, ← HT.out]; exact hts
          · exact HN.out j h1 (by omega))
        clear hts
        go_wp2_with (go_at_call 70; refine (HSK.out _).mono ?_; rintro e w1 ⟨rfl, rfl⟩)
        refine ⟨⟨k + 1, by go_num, by omega, by omega, HN2, by first | rfl | trivial⟩, ?_⟩
        show 6 - ((k : Int) + 1).toNat < 6 - (k : Int).toNat
        omega
    · have i5 : ¬ (k : Int) ≤ 5 := by omega
      have HF : Hid (Rl.relOf (bl s) = 0) := Lib.hid (rel_none (fun j a b => HN.out j a (by omega)))
      go_wp2_with fail
      go_ret
      exact ⟨by rw [HF.out]; rfl, rfl⟩
end Go.Proofs.YtjkaigfpjebfbaaGreatDoor
