/- DiskNew: the walk. -/
import Derived.Test.YtiiegimnnngnnaaAwake2
import Derived.Test.YtiiegimnnngnnaaOpen
namespace Go.Proofs.Ytiiegimnnngnnaa
open Go.RowKit Go.Sort
set_option linter.unusedVariables false

theorem Dk.new_sector (n : Nat) : (Dk.new n).sector 0 = List.replicate 64 0 := by rfl
theorem noughts_list : (noughts 64).toList = (List.replicate 64 0).map fun (x : Nat) => Value.int .u8 ((x : Nat) : Int) := by rfl
set_option maxRecDepth 100000 in
set_option maxHeartbeats 2000000 in
theorem diskNew_small (i : Int) (hlo : -9223372036854775808 ≤ i) (hi : i < 1) (w : World) :
    Calls Try.prog 8 #[.int .i64 i] w fun e w' => e = .returned (.bool true) ∧ Below w.heap.size w w' := by
  have hhi : i ≤ 9223372036854775807 := by omega
  have hn : ((0 : Nat) : Int) = max 0 (min i 4096) := by omega
  have HI := Lib.hid hn
  have HL := Lib.hid hlo
  have HH := Lib.hid hhi
  clear hn hlo hhi
  go_enter Try.func8, Try.ntmps8
  go_wp2_with (first
    | (go_at_call 30; refine (New_any i 0 HI.out HL.out HH.out _).mono ?_; rintro e w1 ⟨p, r, s, rfl, hd1, hb1, hp, hr, hs⟩; have HD1 := Lib.hid hd1; have HB1 := Lib.hid hb1; clear hd1 hb1)
    | (go_at_call 31
       have hw := Read_any p r s 0 0 (Dk.new 0) 0 w1 HD1.out
       rw [show (Dk.new 0).readErr 0 = 1 from rfl] at hw
       refine hw.mono ?_
       rintro e w4 ⟨v, n, bs, rfl, hown, hb4, hg0, hg1⟩
       obtain ⟨rfl, rfl, rfl⟩ := hg1 (by decide)
       have HB4 : Hid (Below w.heap.size w w4) := Lib.hid (HB1.out.trans (hb4.mono HB1.out.size))
       have HD4 : Hid (DiskAt w4 p r s 0 0 (Dk.new 0)) := Lib.hid (HD1.out.below hb4)
       clear hw hown hb4 hg0 hg1)
    | (go_at_call 32; refine (Len_any p r s 0 0 (Dk.new 0) w4 HD4.out).mono ?_; rintro e w' ⟨rfl, rfl⟩)
    | (go_at_call 33; refine (awake2_any w4).mono ?_; rintro e w5 ⟨rfl, hb5⟩; have HB5 : Hid (Below w.heap.size w w5) := Lib.hid (HB4.out.trans (hb5.mono HB4.out.size)); clear hb5))
  go_ret
  exact ⟨rfl, HB5.out⟩
set_option maxRecDepth 100000 in
set_option maxHeartbeats 2000000 in
theorem diskNew_big (i : Int) (n : Nat) (hn : (n : Int) = max 0 (min i 4096)) (hhi : i ≤ 9223372036854775807) (hi : 1 ≤ i) (w : World) :
    Calls Try.prog 8 #[.int .i64 i] w fun e w' => e = .returned (.bool true) ∧ Below w.heap.size w w' := by
  have hlo : -9223372036854775808 ≤ i := by omega
  have hmk : ∀ W : World, (Instr.makeSlice 22 (.int .i64 64) (.int .i64 64)).run Try.prog W = .ok (.slice (some ⟨W.heap.size, 0, none⟩) 64 64) (W.alloc (.cells (noughts 64) 5)) := make_bytes 64 (by omega)
  have hs0 : ∀ W : World, (convert 22 9 (.slice (some ⟨W.heap.size, 0, none⟩) 64 64)).run Try.prog (W.alloc (.cells (noughts 64) 5)) = .ok (.string (strOf (List.replicate 64 0))) (W.alloc (.cells (noughts 64) 5)) :=
    fun W => (Bytes.of_new W (noughts 64) 5 (0, 0) 64 (List.replicate 64 0) rfl (by decide) noughts_list).to_string 22 9 5 64 Try.underlying22 Try.underlying5 Try.underlying9
  have hE : (Dk.new n).readErr 0 = 0 := by
    unfold Dk.readErr
    have : (0 : Int) < ((Dk.new n).n : Int) := by show (0 : Int) < (n : Int); omega
    rw [if_neg (show ¬ (Dk.new n).down = true from fun h => by cases h), if_pos ⟨by omega, this⟩]
  have HE := Lib.hid hE
  have hcase : (i ≤ 4096 ∧ i = (n : Int)) ∨ (4096 < i ∧ n = 4096) := by omega
  have HI := Lib.hid hn
  have HL := Lib.hid hlo
  have HH := Lib.hid hhi
  have HMk := Lib.hid hmk
  have HS0 := Lib.hid hs0
  clear hn hlo hhi hE hmk hs0
  rcases hcase with ⟨h1, rfl⟩ | ⟨h1, rfl⟩
  · have h2 : (n : Int) < 1 ↔ False := by simp; omega
    go_enter Try.func8, Try.ntmps8
    go_wp2_with (first
      | (go_at_call 30; refine (New_any _ n HI.out HL.out HH.out _).mono ?_; rintro e w1 ⟨p, r, s, rfl, hd1, hb1, hp, hr, hs⟩; have HD1 := Lib.hid hd1; have HB1 := Lib.hid hb1; clear hd1 hb1)
      | (go_at_call 31
         have hw := Read_any p r s n n (Dk.new n) 0 w1 HD1.out
         rw [HE.out] at hw
         refine hw.mono ?_
         rintro e w4 ⟨v, m, bs, rfl, hown, hb4, hg0, hg1⟩
         obtain ⟨rfl, rfl, _, _⟩ := hg0 rfl
         obtain ⟨A, cp, rfl, hbts⟩ := Bytes.of_own hown (HD1.out.ok.sector _)
         have HBt := Lib.hid hbts
         have HB4 : Hid (Below w.heap.size w w4) := Lib.hid (HB1.out.trans (hb4.mono HB1.out.size))
         have HD4 : Hid (DiskAt w4 p r s n n (Dk.new n)) := Lib.hid (HD1.out.below hb4)
         clear hw hown hb4 hg0 hg1 hbts))
    have hcx : ∀ W : World, Below w4.heap.size w4 W → (convert 22 9 (.slice A 64 cp)).run Try.prog W = .ok (.string (strOf (List.replicate 64 0))) W := fun W hW =>
      (HBt.out.below hW).to_string 22 9 5 cp Try.underlying22 Try.underlying5 Try.underlying9
    have hs0 : (convert 22 9 (.slice (some ⟨w4.heap.size, 0, none⟩) 64 64)).run Try.prog (w4.alloc (.cells (noughts 64) 5)).drew = .ok (.string (strOf (List.replicate 64 0))) (w4.alloc (.cells (noughts 64) 5)).drew := HS0.out w4.drew
    have hmk := HMk.out
    obtain ⟨S0, hSS⟩ : ∃ S, S = strOf (List.replicate 64 0) := ⟨_, rfl⟩
    simp only [← hSS] at hcx hs0
    have HLen : Hid (Calls Try.prog 32 #[.pointer (some ⟨p, 0, none⟩)] w4.drew fun e w' => e = .returned (.int .i64 (n : Int)) ∧ w4.drew = w') := Lib.hid (Len_any p r s n n (Dk.new n) w4.drew HD4.out.drew)
    clear hSS
    generalize noughts 64 = Z at *
    have hmin : (if (4096 : Int) < (n : Int) then (4096 : Int) else (n : Int)) = (n : Int) := if_neg (by omega)
    have hS0 : Below w4.heap.size w4 w4.drew := (Below.refl _ _).drew
    refine wp_region_noPanic ?_
    refine wp_region_held_drew (S := fun W => Below w4.heap.size w4 W) (by kernel_rfl) hS0 (fun hHeld => ?_)
    refine wpAnyH_take (i := 0) (v := ?_) rfl (by kernel_rfl) (by kernel_rfl) (by kernel_rfl) (fun _ _ _ h => h) (Or.inl ⟨by rfl, ?_⟩) (by assumption) ?_
    rotate_left 1
    · intro w' hS; go_simp; try with_reducible rfl
    change wpAnyH _ _ _ _ _ _ _ (Act.put _ (some 30) _) _
    try simp only [Act.put, List.setIfInBounds_toArray, List.set_cons_zero, List.set_cons_succ]
    refine wpAnyH_take (i := 2) (v := ?_) rfl (by kernel_rfl) (by kernel_rfl) (by kernel_rfl) (fun _ _ _ h => h) (Or.inl ⟨by rfl, ?_⟩) (by assumption) ?_
    rotate_left 1
    · intro w' hS; go_simp; try with_reducible rfl
    change wpAnyH _ _ _ _ _ _ _ (Act.put _ (some 32) _) _
    try simp only [Act.put, List.setIfInBounds_toArray, List.set_cons_zero, List.set_cons_succ]
    refine wpAnyH_take (i := 3) (v := ?_) rfl (by kernel_rfl) (by kernel_rfl) (by kernel_rfl) (fun _ _ _ h => h) (Or.inl ⟨by rfl, ?_⟩) (by assumption) ?_
    rotate_left 1
    · intro w' hS; go_simp; try with_reducible rfl
    change wpAnyH _ _ _ _ _ _ _ (Act.put _ (some 33) _) _
    try simp only [Act.put, List.setIfInBounds_toArray, List.set_cons_zero, List.set_cons_succ]
    refine wpAnyH_ready (rs := [1]) (by kernel_rfl) (by simp) ?_
    refine AllReadyH.cons rfl (fun K hK => ?_) AllReadyH.nil
    go_simp
    go_at_call 32
    refine (HLen.out).mono ?_
    rintro e w' ⟨rfl, rfl⟩
    go_wp2_with fail
    refine hK.out _ _ hS0 (fun hHeld1 => ?_)
    clear hK K
    try simp only [Act.put, List.setIfInBounds_toArray, List.set_cons_zero, List.set_cons_succ]
    refine wpAnyH_take (i := 4) (v := ?_) rfl (by kernel_rfl) (by kernel_rfl) (by kernel_rfl) (fun _ _ _ h => h) (Or.inl ⟨by rfl, ?_⟩) (by assumption) ?_
    rotate_left 1
    · intro w' hS; go_simp; try with_reducible rfl
    change wpAnyH _ _ _ _ _ _ _ (Act.put _ (some 34) _) _
    try simp only [Act.put, List.setIfInBounds_toArray, List.set_cons_zero, List.set_cons_succ]
    refine wpAnyH_take (i := 5) (v := ?_) rfl (by kernel_rfl) (by kernel_rfl) (by kernel_rfl) (fun _ _ _ h => h) (Or.inl ⟨by rfl, ?_⟩) (by assumption) ?_
    rotate_left 1
    · intro w' hS; go_simp; try with_reducible rfl
    change wpAnyH _ _ _ _ _ _ _ (Act.put _ (some 35) _) _
    try simp only [Act.put, List.setIfInBounds_toArray, List.set_cons_zero, List.set_cons_succ]
    refine wpAnyH_take (i := 6) (v := ?_) rfl (by kernel_rfl) (by kernel_rfl) (by kernel_rfl) (fun _ _ _ h => h) (Or.inl ⟨by rfl, ?_⟩) (by assumption) ?_
    rotate_left 1
    · intro w' hS; go_simp; try with_reducible rfl
    change wpAnyH _ _ _ _ _ _ _ (Act.put _ (some 36) _) _
    try simp only [Act.put, List.setIfInBounds_toArray, List.set_cons_zero, List.set_cons_succ]
    refine wpAnyH_take (i := 7) (v := ?_) rfl (by kernel_rfl) (by kernel_rfl) (by kernel_rfl) (fun _ _ _ h => h) (Or.inl ⟨by rfl, ?_⟩) (by assumption) ?_
    rotate_left 1
    · intro w' hS; go_simp; try with_reducible rfl
    change wpAnyH _ _ _ _ _ _ _ (Act.put _ (some 37) _) _
    try simp only [Act.put, List.setIfInBounds_toArray, List.set_cons_zero, List.set_cons_succ]
    refine wpAnyH_take (i := 8) (v := ?_) rfl (by kernel_rfl) (by kernel_rfl) (by kernel_rfl) (fun _ _ _ h => h) (Or.inl ⟨by rfl, ?_⟩) (by assumption) ?_
    rotate_left 1
    · intro w' hS; go_simp; try with_reducible rfl
    change wpAnyH _ _ _ _ _ _ _ (Act.put _ (some 38) _) _
    try simp only [Act.put, List.setIfInBounds_toArray, List.set_cons_zero, List.set_cons_succ]
    refine wpAnyH_take (i := 9) (v := ?_) rfl (by kernel_rfl) (by kernel_rfl) (by kernel_rfl) (fun _ _ _ h => h) (Or.inl ⟨by rfl, ?_⟩) (by assumption) ?_
    rotate_left 1
    · intro w' hS; go_simp; try with_reducible rfl
    change wpAnyH _ _ _ _ _ _ _ (Act.put _ (some 39) _) _
    try simp only [Act.put, List.setIfInBounds_toArray, List.set_cons_zero, List.set_cons_succ]
    refine wpAnyH_take (i := 10) (v := ?_) rfl (by kernel_rfl) (by kernel_rfl) (by kernel_rfl) (fun _ _ _ h => h) (Or.inl ⟨by rfl, ?_⟩) (by assumption) ?_
    rotate_left 1
    · intro w' hS; go_simp; try with_reducible rfl
    change wpAnyH _ _ _ _ _ _ _ (Act.put _ (some 40) _) _
    try simp only [Act.put, List.setIfInBounds_toArray, List.set_cons_zero, List.set_cons_succ]
    refine wpAnyH_take (i := 11) (v := ?_) rfl (by kernel_rfl) (by kernel_rfl) (by kernel_rfl) (fun _ _ _ h => h) (Or.inl ⟨by rfl, ?_⟩) (by assumption) ?_
    rotate_left 1
    · intro w' hS; go_simp; try with_reducible rfl
    change wpAnyH _ _ _ _ _ _ _ (Act.put _ (some 41) _) _
    try simp only [Act.put, List.setIfInBounds_toArray, List.set_cons_zero, List.set_cons_succ]
    refine wpAnyH_ready (rs := [12]) (by kernel_rfl) (by simp) ?_
    refine AllReadyH.cons rfl (fun K hK => ?_) AllReadyH.nil
    go_simp
    refine hK.out _ _ (Below.alloc hS0 (Nat.le_refl _) _) (fun hHeld12 => ?_)
    clear hK K
    try simp only [Act.put, List.setIfInBounds_toArray, List.set_cons_zero, List.set_cons_succ]
    refine wpAnyH_ready (rs := [13]) (by kernel_rfl) (by simp) ?_
    refine AllReadyH.cons rfl (fun K hK => ?_) AllReadyH.nil
    go_simp
    refine hK.out _ _ (Below.alloc hS0 (Nat.le_refl _) _) (fun hHeld13 => ?_)
    clear hK K
    try simp only [Act.put, List.setIfInBounds_toArray, List.set_cons_zero, List.set_cons_succ]
    refine wpAnyH_take (i := 14) (v := ?_) rfl (by kernel_rfl) (by kernel_rfl) (by kernel_rfl) (fun _ _ _ h => h) (Or.inl ⟨by rfl, ?_⟩) (by assumption) ?_
    rotate_left 1
    · intro w' hS; go_simp; try with_reducible rfl
    change wpAnyH _ _ _ _ _ _ _ (Act.put _ (some 44) _) _
    try simp only [Act.put, List.setIfInBounds_toArray, List.set_cons_zero, List.set_cons_succ]
    refine wpAnyH_take (i := 15) (v := ?_) rfl (by kernel_rfl) (by kernel_rfl) (by kernel_rfl) (fun _ _ _ h => h) (Or.inl ⟨by rfl, ?_⟩) (by assumption) ?_
    rotate_left 1
    · intro w' hS; go_simp; try with_reducible rfl
    change wpAnyH _ _ _ _ _ _ _ (Act.put _ (some 45) _) _
    try simp only [Act.put, List.setIfInBounds_toArray, List.set_cons_zero, List.set_cons_succ]
    refine wpAnyH_take (i := 16) (v := ?_) rfl (by kernel_rfl) (by kernel_rfl) (by kernel_rfl) (fun _ _ _ h => h) (Or.inl ⟨by rfl, ?_⟩) (by assumption) ?_
    rotate_left 1
    · intro w' hS; go_simp; try with_reducible rfl
    change wpAnyH _ _ _ _ _ _ _ (Act.put _ (some 46) _) _
    try simp only [Act.put, List.setIfInBounds_toArray, List.set_cons_zero, List.set_cons_succ]
    refine wpAnyH_ready (rs := [17]) (by kernel_rfl) (by simp) ?_
    refine AllReadyH.cons rfl (fun K hK => ?_) AllReadyH.nil
    go_simp
    go_at_call 33
    refine (awake2_any _).mono ?_
    rintro e w5 ⟨rfl, hb5⟩
    have hbX : Below w4.heap.size w4 w5 := (Below.alloc hS0 (Nat.le_refl _) _).trans (hb5.mono (by simp))
    go_wp2_with fail
    refine hK.out _ _ hbX (fun hHeld17 => ?_)
    clear hK K
    try simp only [Act.put, List.setIfInBounds_toArray, List.set_cons_zero, List.set_cons_succ]
    refine wpAnyH_take (i := 18) (v := ?_) rfl (by kernel_rfl) (by kernel_rfl) (by kernel_rfl) (fun _ _ _ h => h) (Or.inl ⟨by rfl, ?_⟩) (by assumption) ?_
    rotate_left 1
    · intro w' hS; go_simp; try with_reducible rfl
    change wpAnyH _ _ _ _ _ _ _ (Act.put _ (some 48) _) _
    try simp only [Act.put, List.setIfInBounds_toArray, List.set_cons_zero, List.set_cons_succ]
    refine wpAnyH_take (i := 19) (v := ?_) rfl (by kernel_rfl) (by kernel_rfl) (by kernel_rfl) (fun _ _ _ h => h) (Or.inl ⟨by rfl, ?_⟩) (by assumption) ?_
    rotate_left 1
    · intro w' hS; go_simp; try with_reducible rfl
    change wpAnyH _ _ _ _ _ _ _ (Act.put _ (some 2) _) _
    try simp only [Act.put, List.setIfInBounds_toArray, List.set_cons_zero, List.set_cons_succ]
    refine wpAnyH_done (by kernel_rfl) ?_ _
    all_goals (refine NoPanic.normal ?_)
    all_goals
      first | go_ret2 | (go_wp2_with fail; go_ret2) | (go_wp2_with fail; go_ret)
      exact ⟨rfl, HB4.out.trans ((show Below w4.heap.size w4 w5 from by assumption).mono HB4.out.size)⟩
  · have h2 : i < 1 ↔ False := by simp; omega
    go_enter Try.func8, Try.ntmps8
    go_wp2_with (first
      | (go_at_call 30; refine (New_any _ 4096 HI.out HL.out HH.out _).mono ?_; rintro e w1 ⟨p, r, s, rfl, hd1, hb1, hp, hr, hs⟩; have HD1 := Lib.hid hd1; have HB1 := Lib.hid hb1; clear hd1 hb1)
      | (go_at_call 31
         have hw := Read_any p r s 4096 4096 (Dk.new 4096) 0 w1 HD1.out
         rw [HE.out] at hw
         refine hw.mono ?_
         rintro e w4 ⟨v, m, bs, rfl, hown, hb4, hg0, hg1⟩
         obtain ⟨rfl, rfl, _, _⟩ := hg0 rfl
         obtain ⟨A, cp, rfl, hbts⟩ := Bytes.of_own hown (HD1.out.ok.sector _)
         have HBt := Lib.hid hbts
         have HB4 : Hid (Below w.heap.size w w4) := Lib.hid (HB1.out.trans (hb4.mono HB1.out.size))
         have HD4 : Hid (DiskAt w4 p r s 4096 4096 (Dk.new 4096)) := Lib.hid (HD1.out.below hb4)
         clear hw hown hb4 hg0 hg1 hbts))
    have hcx : ∀ W : World, Below w4.heap.size w4 W → (convert 22 9 (.slice A 64 cp)).run Try.prog W = .ok (.string (strOf (List.replicate 64 0))) W := fun W hW =>
      (HBt.out.below hW).to_string 22 9 5 cp Try.underlying22 Try.underlying5 Try.underlying9
    have hs0 : (convert 22 9 (.slice (some ⟨w4.heap.size, 0, none⟩) 64 64)).run Try.prog (w4.alloc (.cells (noughts 64) 5)).drew = .ok (.string (strOf (List.replicate 64 0))) (w4.alloc (.cells (noughts 64) 5)).drew := HS0.out w4.drew
    have hmk := HMk.out
    obtain ⟨S0, hSS⟩ : ∃ S, S = strOf (List.replicate 64 0) := ⟨_, rfl⟩
    simp only [← hSS] at hcx hs0
    have HLen : Hid (Calls Try.prog 32 #[.pointer (some ⟨p, 0, none⟩)] w4.drew fun e w' => e = .returned (.int .i64 4096) ∧ w4.drew = w') := Lib.hid (Len_any p r s 4096 4096 (Dk.new 4096) w4.drew HD4.out.drew)
    clear hSS
    generalize noughts 64 = Z at *
    have hmin : (if (4096 : Int) < i then (4096 : Int) else i) = 4096 := if_pos h1
    have hS0 : Below w4.heap.size w4 w4.drew := (Below.refl _ _).drew
    refine wp_region_noPanic ?_
    refine wp_region_held_drew (S := fun W => Below w4.heap.size w4 W) (by kernel_rfl) hS0 (fun hHeld => ?_)
    refine wpAnyH_take (i := 0) (v := ?_) rfl (by kernel_rfl) (by kernel_rfl) (by kernel_rfl) (fun _ _ _ h => h) (Or.inl ⟨by rfl, ?_⟩) (by assumption) ?_
    rotate_left 1
    · intro w' hS; go_simp; try with_reducible rfl
    change wpAnyH _ _ _ _ _ _ _ (Act.put _ (some 30) _) _
    try simp only [Act.put, List.setIfInBounds_toArray, List.set_cons_zero, List.set_cons_succ]
    refine wpAnyH_take (i := 2) (v := ?_) rfl (by kernel_rfl) (by kernel_rfl) (by kernel_rfl) (fun _ _ _ h => h) (Or.inl ⟨by rfl, ?_⟩) (by assumption) ?_
    rotate_left 1
    · intro w' hS; go_simp; try with_reducible rfl
    change wpAnyH _ _ _ _ _ _ _ (Act.put _ (some 32) _) _
    try simp only [Act.put, List.setIfInBounds_toArray, List.set_cons_zero, List.set_cons_succ]
    refine wpAnyH_take (i := 3) (v := ?_) rfl (by kernel_rfl) (by kernel_rfl) (by kernel_rfl) (fun _ _ _ h => h) (Or.inl ⟨by rfl, ?_⟩) (by assumption) ?_
    rotate_left 1
    · intro w' hS; go_simp; try with_reducible rfl
    change wpAnyH _ _ _ _ _ _ _ (Act.put _ (some 33) _) _
    try simp only [Act.put, List.setIfInBounds_toArray, List.set_cons_zero, List.set_cons_succ]
    refine wpAnyH_ready (rs := [1]) (by kernel_rfl) (by simp) ?_
    refine AllReadyH.cons rfl (fun K hK => ?_) AllReadyH.nil
    go_simp
    go_at_call 32
    refine (HLen.out).mono ?_
    rintro e w' ⟨rfl, rfl⟩
    go_wp2_with fail
    refine hK.out _ _ hS0 (fun hHeld1 => ?_)
    clear hK K
    try simp only [Act.put, List.setIfInBounds_toArray, List.set_cons_zero, List.set_cons_succ]
    refine wpAnyH_take (i := 4) (v := ?_) rfl (by kernel_rfl) (by kernel_rfl) (by kernel_rfl) (fun _ _ _ h => h) (Or.inl ⟨by rfl, ?_⟩) (by assumption) ?_
    rotate_left 1
    · intro w' hS; go_simp; try with_reducible rfl
    change wpAnyH _ _ _ _ _ _ _ (Act.put _ (some 34) _) _
    try simp only [Act.put, List.setIfInBounds_toArray, List.set_cons_zero, List.set_cons_succ]
    refine wpAnyH_take (i := 5) (v := ?_) rfl (by kernel_rfl) (by kernel_rfl) (by kernel_rfl) (fun _ _ _ h => h) (Or.inl ⟨by rfl, ?_⟩) (by assumption) ?_
    rotate_left 1
    · intro w' hS; go_simp; try with_reducible rfl
    change wpAnyH _ _ _ _ _ _ _ (Act.put _ (some 35) _) _
    try simp only [Act.put, List.setIfInBounds_toArray, List.set_cons_zero, List.set_cons_succ]
    refine wpAnyH_take (i := 6) (v := ?_) rfl (by kernel_rfl) (by kernel_rfl) (by kernel_rfl) (fun _ _ _ h => h) (Or.inl ⟨by rfl, ?_⟩) (by assumption) ?_
    rotate_left 1
    · intro w' hS; go_simp; try with_reducible rfl
    change wpAnyH _ _ _ _ _ _ _ (Act.put _ (some 36) _) _
    try simp only [Act.put, List.setIfInBounds_toArray, List.set_cons_zero, List.set_cons_succ]
    refine wpAnyH_take (i := 7) (v := ?_) rfl (by kernel_rfl) (by kernel_rfl) (by kernel_rfl) (fun _ _ _ h => h) (Or.inl ⟨by rfl, ?_⟩) (by assumption) ?_
    rotate_left 1
    · intro w' hS; go_simp; try with_reducible rfl
    change wpAnyH _ _ _ _ _ _ _ (Act.put _ (some 37) _) _
    try simp only [Act.put, List.setIfInBounds_toArray, List.set_cons_zero, List.set_cons_succ]
    refine wpAnyH_take (i := 8) (v := ?_) rfl (by kernel_rfl) (by kernel_rfl) (by kernel_rfl) (fun _ _ _ h => h) (Or.inl ⟨by rfl, ?_⟩) (by assumption) ?_
    rotate_left 1
    · intro w' hS; go_simp; try with_reducible rfl
    change wpAnyH _ _ _ _ _ _ _ (Act.put _ (some 38) _) _
    try simp only [Act.put, List.setIfInBounds_toArray, List.set_cons_zero, List.set_cons_succ]
    refine wpAnyH_take (i := 9) (v := ?_) rfl (by kernel_rfl) (by kernel_rfl) (by kernel_rfl) (fun _ _ _ h => h) (Or.inl ⟨by rfl, ?_⟩) (by assumption) ?_
    rotate_left 1
    · intro w' hS; go_simp; try with_reducible rfl
    change wpAnyH _ _ _ _ _ _ _ (Act.put _ (some 39) _) _
    try simp only [Act.put, List.setIfInBounds_toArray, List.set_cons_zero, List.set_cons_succ]
    refine wpAnyH_take (i := 10) (v := ?_) rfl (by kernel_rfl) (by kernel_rfl) (by kernel_rfl) (fun _ _ _ h => h) (Or.inl ⟨by rfl, ?_⟩) (by assumption) ?_
    rotate_left 1
    · intro w' hS; go_simp; try with_reducible rfl
    change wpAnyH _ _ _ _ _ _ _ (Act.put _ (some 40) _) _
    try simp only [Act.put, List.setIfInBounds_toArray, List.set_cons_zero, List.set_cons_succ]
    refine wpAnyH_take (i := 11) (v := ?_) rfl (by kernel_rfl) (by kernel_rfl) (by kernel_rfl) (fun _ _ _ h => h) (Or.inl ⟨by rfl, ?_⟩) (by assumption) ?_
    rotate_left 1
    · intro w' hS; go_simp; try with_reducible rfl
    change wpAnyH _ _ _ _ _ _ _ (Act.put _ (some 41) _) _
    try simp only [Act.put, List.setIfInBounds_toArray, List.set_cons_zero, List.set_cons_succ]
    refine wpAnyH_ready (rs := [12]) (by kernel_rfl) (by simp) ?_
    refine AllReadyH.cons rfl (fun K hK => ?_) AllReadyH.nil
    go_simp
    refine hK.out _ _ (Below.alloc hS0 (Nat.le_refl _) _) (fun hHeld12 => ?_)
    clear hK K
    try simp only [Act.put, List.setIfInBounds_toArray, List.set_cons_zero, List.set_cons_succ]
    refine wpAnyH_ready (rs := [13]) (by kernel_rfl) (by simp) ?_
    refine AllReadyH.cons rfl (fun K hK => ?_) AllReadyH.nil
    go_simp
    refine hK.out _ _ (Below.alloc hS0 (Nat.le_refl _) _) (fun hHeld13 => ?_)
    clear hK K
    try simp only [Act.put, List.setIfInBounds_toArray, List.set_cons_zero, List.set_cons_succ]
    refine wpAnyH_take (i := 14) (v := ?_) rfl (by kernel_rfl) (by kernel_rfl) (by kernel_rfl) (fun _ _ _ h => h) (Or.inl ⟨by rfl, ?_⟩) (by assumption) ?_
    rotate_left 1
    · intro w' hS; go_simp; try with_reducible rfl
    change wpAnyH _ _ _ _ _ _ _ (Act.put _ (some 44) _) _
    try simp only [Act.put, List.setIfInBounds_toArray, List.set_cons_zero, List.set_cons_succ]
    refine wpAnyH_take (i := 15) (v := ?_) rfl (by kernel_rfl) (by kernel_rfl) (by kernel_rfl) (fun _ _ _ h => h) (Or.inl ⟨by rfl, ?_⟩) (by assumption) ?_
    rotate_left 1
    · intro w' hS; go_simp; try with_reducible rfl
    change wpAnyH _ _ _ _ _ _ _ (Act.put _ (some 45) _) _
    try simp only [Act.put, List.setIfInBounds_toArray, List.set_cons_zero, List.set_cons_succ]
    refine wpAnyH_take (i := 16) (v := ?_) rfl (by kernel_rfl) (by kernel_rfl) (by kernel_rfl) (fun _ _ _ h => h) (Or.inl ⟨by rfl, ?_⟩) (by assumption) ?_
    rotate_left 1
    · intro w' hS; go_simp; try with_reducible rfl
    change wpAnyH _ _ _ _ _ _ _ (Act.put _ (some 46) _) _
    try simp only [Act.put, List.setIfInBounds_toArray, List.set_cons_zero, List.set_cons_succ]
    refine wpAnyH_ready (rs := [17]) (by kernel_rfl) (by simp) ?_
    refine AllReadyH.cons rfl (fun K hK => ?_) AllReadyH.nil
    go_simp
    go_at_call 33
    refine (awake2_any _).mono ?_
    rintro e w5 ⟨rfl, hb5⟩
    have hbX : Below w4.heap.size w4 w5 := (Below.alloc hS0 (Nat.le_refl _) _).trans (hb5.mono (by simp))
    go_wp2_with fail
    refine hK.out _ _ hbX (fun hHeld17 => ?_)
    clear hK K
    try simp only [Act.put, List.setIfInBounds_toArray, List.set_cons_zero, List.set_cons_succ]
    refine wpAnyH_take (i := 18) (v := ?_) rfl (by kernel_rfl) (by kernel_rfl) (by kernel_rfl) (fun _ _ _ h => h) (Or.inl ⟨by rfl, ?_⟩) (by assumption) ?_
    rotate_left 1
    · intro w' hS; go_simp; try with_reducible rfl
    change wpAnyH _ _ _ _ _ _ _ (Act.put _ (some 48) _) _
    try simp only [Act.put, List.setIfInBounds_toArray, List.set_cons_zero, List.set_cons_succ]
    refine wpAnyH_take (i := 19) (v := ?_) rfl (by kernel_rfl) (by kernel_rfl) (by kernel_rfl) (fun _ _ _ h => h) (Or.inl ⟨by rfl, ?_⟩) (by assumption) ?_
    rotate_left 1
    · intro w' hS; go_simp; try with_reducible rfl
    change wpAnyH _ _ _ _ _ _ _ (Act.put _ (some 2) _) _
    try simp only [Act.put, List.setIfInBounds_toArray, List.set_cons_zero, List.set_cons_succ]
    refine wpAnyH_done (by kernel_rfl) ?_ _
    all_goals (refine NoPanic.normal ?_)
    all_goals
      first | go_ret2 | (go_wp2_with fail; go_ret2) | (go_wp2_with fail; go_ret)
      exact ⟨rfl, HB4.out.trans ((show Below w4.heap.size w4 w5 from by assumption).mono HB4.out.size)⟩
section
open Go.ChangeShapes Go.WideShapes Go.ChangeAt
theorem diskNew_walk {H : Type} {enc : TypeId × Value → H} (W : World) {base : Nat} (v0 : Value) {d0 : DataW H} {p0 : List MemPlace} (h0 : DataW.Trod enc Try.prog W 0 (fun _ => true) true 3 v0 d0 p0) (o0 : Value.okWide Try.prog W .any base 3 v0) :
    Calls Try.prog 8 #[v0] W fun e w' => e = .returned (.bool true) ∧ Below W.heap.size W w' := by
  obtain ⟨x, rfl, rfl, rfl, wx⟩ := open_int Try.underlying3 o0 h0
  have hx : -9223372036854775808 ≤ x ∧ x ≤ 9223372036854775807 := by simpa [Lit.wf, IntKind.min, IntKind.max, IntKind.signed, IntKind.bits] using wx
  by_cases h1 : x < 1
  · exact diskNew_small x hx.1 h1 W
  · exact diskNew_big x (max 0 (min x 4096)).toNat (by omega) hx.2 (by omega) W
end
end Go.Proofs.Ytiiegimnnngnnaa
