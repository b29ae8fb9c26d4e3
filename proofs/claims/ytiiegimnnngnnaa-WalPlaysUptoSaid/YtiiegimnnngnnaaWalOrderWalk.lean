/- WalOrder: the walk. -/
import Derived.Test.YtiiegimnnngnnaaLog11
import Derived.Test.YtiiegimnnngnnaaOpen
namespace Go.Proofs.Ytiiegimnnngnnaa
open Go.RowKit
set_option linter.unusedVariables false

theorem small_k (m : Int) (c : Nat) (hc : 0 < c) (hc2 : c ≤ 9223372036854775807) : ∃ N : Nat, (IntKind.u64.wrap m).tmod (c : Int) = (N : Int) ∧ N < c := by
  obtain ⟨z, hz⟩ : ∃ z, z = IntKind.u64.wrap m := ⟨_, rfl⟩
  have e : IntKind.u64.wrap m = m % 18446744073709551616 := rfl
  have h0 : 0 ≤ z := by rw [hz, e]; omega
  rw [← hz, Int.tmod_eq_emod_of_nonneg h0]
  have h1 := Int.emod_nonneg z (b := (c : Int)) (by omega)
  have h2 := Int.emod_lt_of_pos z (b := (c : Int)) (by omega)
  exact ⟨(z % (c : Int)).toNat, by omega, by omega⟩
theorem noughts_bytes (w : World) (n : Nat) : Bytes (w.alloc (.cells (noughts n) 5)) (some ⟨w.heap.size, 0, none⟩) n (List.replicate n 0) :=
  Bytes.of_new w (noughts n) 5 (0, 0) n _ (List.length_replicate) (fun x hx => by have := List.eq_of_mem_replicate hx; omega) (by simp [noughts])
/-- A new disk with one area, and a log on it: what stands behind New, Format, Open. -/
theorem blk_far {p r s l g B : Nat} (h : B ≤ p ∧ B ≤ r ∧ B ≤ s) (hl : B ≤ l ∧ B ≤ g) : ∀ k, aT p r s g l k → B ≤ k := fun k hk => by
  rcases hk with (hk | hk) | hk
  · rcases hk with rfl | rfl | rfl <;> omega
  · omega
  · omega
theorem dT_far {p r s B : Nat} (h : B ≤ p ∧ B ≤ r ∧ B ≤ s) : ∀ k, dT p r s k → B ≤ k := fun k hk => by
  rcases hk with rfl | rfl | rfl <;> omega
set_option maxRecDepth 100000 in
set_option maxHeartbeats 1000000 in
theorem walOrder_any (a b : Int) (w : World) :
    Calls Try.prog 20 #[.int .i64 a, .int .i64 b] w fun e w' => e = .returned (.bool true) ∧ Below w.heap.size w w' := by
  obtain ⟨N, hN, hN12⟩ := small_k a 12 (by omega) (by omega)
  obtain ⟨S, hS, hS9⟩ := small_k b 9000 (by omega) (by omega)
  have hN' : (IntKind.u64.wrap a).tmod 12 = (N : Int) := hN
  have hS' : (IntKind.u64.wrap b).tmod 9000 = (S : Int) := hS
  clear hN hS
  have HN := Lib.hid (New_any 14 14 (by decide) (by decide) (by decide) w)
  have HNN := Lib.hid (show ((N + 1 : Nat) : Int) = (N : Int) + 1 by omega)
  go_enter Try.func20, Try.ntmps20
  go_wp2_with fail
  clear hN' hS'
  go_at_call 30
  refine HN.out.mono ?_
  rintro e w1 ⟨p, r, s, rfl, hd1, hb1, hp, hr, hs⟩
  have HB1 := Lib.hid hb1
  have hF := Format_good p r s 14 14 (Dk.new 14) 0 (N + 1) w1 hd1 rfl rfl (by omega) (by simp [Dk.new]; omega) (by simp [Dk.new])
  rw [HNN.out] at hF
  have HF := Lib.hid hF
  have HP := Lib.hid (show w.heap.size ≤ p ∧ w.heap.size ≤ r ∧ w.heap.size ≤ s from ⟨hp, hr, hs⟩)
  clear hb1 hd1 hp hr hs hF
  go_wp2_with fail
  go_at_call 48
  refine HF.out.mono ?_
  rintro e w2 ⟨D2, rfl, hd2, hu2, ha2, hn2, hf2, hc2, _, _⟩
  have HB2 := Lib.hid (HB1.out.trans (hu2.below (dT_far HP.out) HB1.out.size))
  have hO := Open_area p r s 14 14 D2 0 (N + 1) 1 [] w2 hd2 ha2
  rw [HNN.out] at hO
  have HO := Lib.hid hO
  have HD2 := Lib.hid hd2
  have HA2 := Lib.hid ha2
  have hc2' : D2.calls = 2 := hc2
  have HC2 := Lib.hid (And.intro hf2 hc2')
  clear hd2 hu2 ha2 hn2 hf2 hc2 hc2' hO
  go_wp2_with fail
  go_at_call 49
  refine HO.out.mono ?_
  rintro e w3 ⟨l, g, cap, v, rfl, hl3, hr3, h1, h2, hb3⟩
  have hs3 := opened HD2.out hb3 hl3 h1 h2
  have HS3 := Lib.hid hs3
  have HB3 := Lib.hid (HB2.out.trans (hb3.mono HB2.out.size))
  have HLG := Lib.hid (show w.heap.size ≤ l ∧ w.heap.size ≤ g from ⟨Nat.le_trans HB2.out.size h1, Nat.le_trans HB2.out.size h2⟩)
  have HCL := Lib.hid (Calls_any p r s 14 14 D2 w3 hs3.d)
  rw [HC2.out.2] at HCL
  have hmk : ∀ W : World, (Instr.makeSlice 22 (.int .i64 (S : Int)) (.int .i64 (S : Int))).run Try.prog W = .ok (.slice (some ⟨W.heap.size, 0, none⟩) S S) (W.alloc (.cells (noughts S) 5)) := make_bytes S (by omega)
  have hW : Below w3.heap.size w3 (w3.alloc (.cells (noughts S) 5)) := (Below.refl _ _).alloc (Nat.le_refl _) _
  have hap := Append_good l g cap p r s 14 14 D2 _ [] (some ⟨w3.heap.size, 0, none⟩) S S (List.replicate S 0) _ (hs3.below hW) HA2.out.holds HC2.out.1 (noughts_bytes w3 S) (by omega) (by rw [HC2.out.2]; omega)
  have HW := Lib.hid hW
  have hRN := fun W => RefNeed_nat S W (by omega)
  obtain ⟨kn, hkn⟩ : ∃ kn, kn = Wl.need S := ⟨_, rfl⟩
  simp only [← hkn] at hRN
  have HRN := Lib.hid hRN
  have HBX := Lib.hid (HB3.out.trans (HW.out.mono HB3.out.size))
  clear hl3 hr3 h1 h2 hb3 hs3 hRN hW
  by_cases c1 : 8192 < S
  · have eo : Wl.appOut ⟨0, N + 1, ([] : List (List Nat)).length, 1, fun k => D2.R (64 * 0 + k), false⟩ (List.replicate S 0) = 2 := by
      unfold Wl.appOut
      rw [if_pos (by rw [List.length_replicate]; exact c1)]
    rw [eo] at hap
    have HAP := Lib.hid hap
    have c1' : (8192 : Int) < (S : Int) := by omega
    clear hap eo hkn
    go_wp2_with (first
      | (go_at_call 39; refine HCL.out.mono ?_; rintro e w4 ⟨rfl, rfl⟩)
      | (go_at_call 46; refine (HRN.out _).mono ?_; rintro e w6 ⟨rfl, rfl⟩))
    go_at_call 50
    refine HAP.out.mono ?_
    rintro e w5 ⟨D5, L5, rfl, hs5, hu5, _, _, _, _, _, _, hsame, _⟩
    obtain ⟨rfl, rfl⟩ := hsame (by decide)
    have HB5 := Lib.hid (HBX.out.trans (hu5.below (blk_far HP.out HLG.out) HBX.out.size))
    have H1 := Lib.hid (Calls_any p r s 14 14 D5 w5 hs5.d)
    rw [HC2.out.2] at H1
    have H2 := Lib.hid (LLen_any l g cap p _ w5 hs5.lg)
    have H3 := Lib.hid (LFree_any l g cap p _ w5 hs5.lg (by show 1 ≤ N + 1; omega) (by show N + 1 ≤ 4096; omega))
    clear hs5 hu5
    go_wp2_with (first
      | (go_at_call 39; refine H1.out.mono ?_; rintro e w6 ⟨rfl, rfl⟩)
      | (go_at_call 46; refine (HRN.out _).mono ?_; rintro e w6 ⟨rfl, rfl⟩)
      | (go_at_call 57; refine H2.out.mono ?_; rintro e w6 ⟨rfl, rfl⟩)
      | (go_at_call 58; refine H3.out.mono ?_; rintro e w6 ⟨rfl, mm, rfl⟩)
      | (go_at_call 47; refine (awake3_any _).mono ?_; rintro e w7 ⟨rfl, hb7⟩))
    go_ret
    have hbd : Below w.heap.size w (w5.drewN mm) := HB5.out.trans ⟨rfl, rfl, rfl, Nat.le_refl _, fun _ _ => rfl⟩
    exact ⟨rfl, hbd.trans (hb7.mono hbd.size)⟩
  · have c1' : (S : Int) ≤ 8192 := by omega
    by_cases c2 : N < kn
    · have eo : Wl.appOut ⟨0, N + 1, ([] : List (List Nat)).length, 1, fun k => D2.R (64 * 0 + k), false⟩ (List.replicate S 0) = 6 := by
        unfold Wl.appOut
        rw [if_neg (by rw [List.length_replicate]; exact c1), if_pos (.inr (by rw [List.length_replicate, ← hkn]; show N + 1 - 1 < kn; omega))]
      rw [eo] at hap
      have HAP := Lib.hid hap
      have c2' : decide ((N : Int) < (kn : Int)) = true := decide_eq_true (by omega)
      clear hap eo hkn
      go_wp2_with (first
        | (go_at_call 39; refine HCL.out.mono ?_; rintro e w4 ⟨rfl, rfl⟩)
        | (go_at_call 46; refine (HRN.out _).mono ?_; rintro e w6 ⟨rfl, rfl⟩))
      go_at_call 50
      refine HAP.out.mono ?_
      rintro e w5 ⟨D5, L5, rfl, hs5, hu5, _, _, _, _, _, _, hsame, _⟩
      obtain ⟨rfl, rfl⟩ := hsame (by decide)
      have HB5 := Lib.hid (HBX.out.trans (hu5.below (blk_far HP.out HLG.out) HBX.out.size))
      have H1 := Lib.hid (Calls_any p r s 14 14 D5 w5 hs5.d)
      rw [HC2.out.2] at H1
      have H2 := Lib.hid (LLen_any l g cap p _ w5 hs5.lg)
      have H3 := Lib.hid (LFree_any l g cap p _ w5 hs5.lg (by show 1 ≤ N + 1; omega) (by show N + 1 ≤ 4096; omega))
      clear hs5 hu5
      go_wp2_with (first
        | (go_at_call 39; refine H1.out.mono ?_; rintro e w6 ⟨rfl, rfl⟩)
        | (go_at_call 46; refine (HRN.out _).mono ?_; rintro e w6 ⟨rfl, rfl⟩)
        | (go_at_call 57; refine H2.out.mono ?_; rintro e w6 ⟨rfl, rfl⟩)
        | (go_at_call 58; refine H3.out.mono ?_; rintro e w6 ⟨rfl, mm, rfl⟩)
        | (go_at_call 47; refine (awake3_any _).mono ?_; rintro e w7 ⟨rfl, hb7⟩))
      go_ret
      have hbd : Below w.heap.size w (w5.drewN mm) := HB5.out.trans ⟨rfl, rfl, rfl, Nat.le_refl _, fun _ _ => rfl⟩
      exact ⟨rfl, hbd.trans (hb7.mono hbd.size)⟩
    · have eo : Wl.appOut ⟨0, N + 1, ([] : List (List Nat)).length, 1, fun k => D2.R (64 * 0 + k), false⟩ (List.replicate S 0) = 0 := by
        unfold Wl.appOut
        rw [if_neg (by rw [List.length_replicate]; exact c1), if_neg (by rw [List.length_replicate, ← hkn]; show ¬ (0 = 512 ∨ N + 1 - 1 < kn); omega)]
      rw [eo] at hap
      have HAP := Lib.hid hap
      have c2' : decide ((N : Int) < (kn : Int)) = false := decide_eq_false (by omega)
      have HKN := Lib.hid hkn
      clear hap eo hkn
      go_wp2_with (first
        | (go_at_call 39; refine HCL.out.mono ?_; rintro e w4 ⟨rfl, rfl⟩)
        | (go_at_call 46; refine (HRN.out _).mono ?_; rintro e w6 ⟨rfl, rfl⟩))
      go_at_call 50
      refine HAP.out.mono ?_
      rintro e w5 ⟨D5, L5, rfl, hs5, hu5, _, _, _, hto5, _, _, _, hdn⟩
      have hdone := hdn trivial
      have HB5 := Lib.hid (HBX.out.trans (hu5.below (blk_far HP.out HLG.out) HBX.out.size))
      have ec := hdone.calls
      rw [List.length_replicate, ← HKN.out, HC2.out.2] at ec
      have en : L5.n = 1 := hdone.n
      have ex := hdone.next
      rw [List.length_replicate, ← HKN.out] at ex
      have ex' : L5.next = 1 + kn := ex
      have et : L5.to = N + 1 := hto5
      have h1 := Calls_any p r s 14 14 D5 w5 hs5.d
      rw [ec] at h1
      have H1 := Lib.hid h1
      have h2 := LLen_any l g cap p _ w5 hs5.lg
      rw [en] at h2
      have H2 := Lib.hid h2
      have h3 := LFree_any l g cap p _ w5 hs5.lg (by omega) (by omega)
      rw [et, ex'] at h3
      have H3 := Lib.hid h3
      clear hs5 hu5 h1 h2 h3 ec en ex ex' et hdone hdn hto5
      go_wp2_with (first
        | (go_at_call 39; refine H1.out.mono ?_; rintro e w6 ⟨rfl, rfl⟩)
        | (go_at_call 46; refine (HRN.out _).mono ?_; rintro e w6 ⟨rfl, rfl⟩)
        | (go_at_call 57; refine H2.out.mono ?_; rintro e w6 ⟨rfl, rfl⟩)
        | (go_at_call 58; refine H3.out.mono ?_; rintro e w6 ⟨rfl, mm, rfl⟩)
        | (go_at_call 47; refine (awake3_any _).mono ?_; rintro e w7 ⟨rfl, hb7⟩))
      go_ret
      have hbd : Below w.heap.size w (w5.drewN mm) := HB5.out.trans ⟨rfl, rfl, rfl, Nat.le_refl _, fun _ _ => rfl⟩
      exact ⟨rfl, hbd.trans (hb7.mono hbd.size)⟩
section
open Go.ChangeShapes Go.WideShapes Go.ChangeAt
theorem walOrder_walk {H : Type} {enc : TypeId × Value → H} (W : World) {base : Nat} (v0 v1 : Value) {d0 d1 : DataW H} {p0 p1 : List MemPlace} (h0 : DataW.Trod enc Try.prog W 0 (fun _ => true) true 3 v0 d0 p0) (o0 : Value.okWide Try.prog W .any base 3 v0)
    (h1 : DataW.Trod enc Try.prog W 0 (fun _ => true) true 3 v1 d1 p1) (o1 : Value.okWide Try.prog W .any base 3 v1) :
    Calls Try.prog 20 #[v0, v1] W fun e w' => e = .returned (.bool true) ∧ Below W.heap.size W w' := by
  obtain ⟨n, rfl, rfl, rfl, wn⟩ := open_int Try.underlying3 o0 h0
  obtain ⟨m, rfl, rfl, rfl, wm⟩ := open_int Try.underlying3 o1 h1
  exact walOrder_any n m W
end
end Go.Proofs.Ytiiegimnnngnnaa
