/- relation.Atom, chandlerref4.Atom. -/
import Derived.Test.YtdchnllflodmkaaRe
import Derived.Deep.QuietTactic
namespace Go.Proofs.Ytdchnllflodmkaa
open Go.RowKit
set_option linter.unusedVariables false

theorem tob_app (a b : Rl.Bs) : Rl.tob (a ++ b) = Rl.tob a ++ Rl.tob b := by
  apply bl_inj
  show a ++ b = (Rl.tob a ++ Rl.tob b).data.toList
  simp [Rl.tob]
theorem atx_no {a : RA} (h : mayR a = false) : Rl.tob (atx a) = ⟨#[]⟩ := by unfold atx; rw [h]; rfl
theorem atx_any {a : RA} (h : mayR a = true) (hr : a.r = 0) : Rl.tob (atx a) = a.n := by unfold atx; rw [if_pos h, if_pos hr]; rfl
theorem atx_rel {a : RA} (h : mayR a = true) (hr : a.r ≠ 0) : Rl.tob (atx a) = a.n ++ ⟨#[32, 40]⟩ ++ sgnB a.r ++ ⟨#[32]⟩ ++ a.v ++ ⟨#[41]⟩ := by
  unfold atx
  rw [if_pos h, if_neg hr]
  simp only [tob_app]
  rfl
set_option maxRecDepth 100000 in
set_option maxHeartbeats 4000000 in
theorem Atom_any (a : RA) (w : World) (hn : a.n.size ≤ 1048576) (hv : a.v.size ≤ 1048576) :
    Calls Try.prog 20 #[atV a.n a.r a.v] w fun e w' => e = .returned (.string (Rl.tob (atx a))) ∧ Below w.heap.size w w' := by
  have HMY : Hid (∀ W, Calls Try.prog 22 #[atV a.n a.r a.v] W fun e w' => e = .returned (.bool (mayR a)) ∧ Below W.heap.size W w') := Lib.hid (fun W => may_any a.n a.r a.v W hn hv)
  have HSG : Hid (∀ W, Calls Try.prog 36 #[.int .i64 a.r] W fun e w' => e = .returned (.string (sgnB a.r)) ∧ w' = W) := Lib.hid (fun W => (Sign_any a.r W).mono fun e w' h => ⟨h.1, h.2.symm⟩)
  obtain ⟨A, hA⟩ : ∃ A, A = Rl.tob (atx a) := ⟨_, rfl⟩
  have H0 : Hid (mayR a = false → A = ⟨#[]⟩) := Lib.hid (fun h => by rw [hA]; exact atx_no h)
  have H1 : Hid (mayR a = true → a.r = 0 → A = a.n) := Lib.hid (fun h hr => by rw [hA]; exact atx_any h hr)
  have H2 : Hid (mayR a = true → a.r ≠ 0 → A = a.n ++ ⟨#[32, 40]⟩ ++ sgnB a.r ++ ⟨#[32]⟩ ++ a.v ++ ⟨#[41]⟩) := Lib.hid (fun h hr => by rw [hA]; exact atx_rel h hr)
  have H3 : Hid (mayR a = true → a.n.size ≤ 24 ∧ a.v.size ≤ 48) := Lib.hid (fun h => ⟨(mayR_len h).1, (mayR_len h).2.1⟩)
  have H4 : Hid ((sgnB a.r).size ≤ 2) := Lib.hid (sgnB_len _)
  rw [← hA]
  clear hA
  generalize sgnB a.r = sg at *
  generalize mayR a = m at *
  obtain ⟨n, r, v⟩ := a
  simp only at *
  have hb0 : Below w.heap.size w (w.alloc (.cells #[.string n, .int .i64 r, .string v] 38)) := (Below.refl _ _).alloc (Nat.le_refl _) _
  have hbk := Blk.new w 38 #[.string n, .int .i64 r, .string v]
  have HB0 := Lib.hid hb0
  have HBK := Lib.hid hbk
  clear hb0 hbk
  unfold atV at *
  go_enter Try.func20, Try.ntmps20
  cases m with
  | false =>
    go_wp2_with (go_at_call 22; refine (HMY.out _).mono ?_; rintro e w2 ⟨rfl, hb2⟩)
    go_ret
    exact ⟨by rw [H0.out (by first | rfl | trivial)]; rfl, HB0.out.trans (hb2.mono HB0.out.size)⟩
  | true =>
    have hz := H3.out (by first | rfl | trivial)
    have hz1 := hz.1
    have hz2 := hz.2
    have hsg := H4.out
    clear hz
    by_cases hr : r = 0
    · have q : (r == 0) = true := by rw [beq_iff_eq]; exact hr
      have HE := Lib.hid (H1.out (by first | rfl | trivial) hr)
      clear hr
      go_wp2_with (go_at_call 22; refine (HMY.out _).mono ?_; rintro e w2 ⟨rfl, hb2⟩; have hbk2 := HBK.out.below hb2 HBK.out.lt; have k0 : w2.cell? ⟨w.heap.size, 0, none⟩ = some (.string n) := hbk2.cell 0; have k1 : w2.cell? ⟨w.heap.size, 1, none⟩ = some (.int .i64 r) := hbk2.cell 1; have k2 : w2.cell? ⟨w.heap.size, 2, none⟩ = some (.string v) := hbk2.cell 2; have HB2 := Lib.hid (HB0.out.trans (hb2.mono HB0.out.size)); clear hb2 hbk2)
      go_ret
      exact ⟨by rw [HE.out]; rfl, HB2.out⟩
    · have q : (r == 0) = false := by rw [beq_eq_false_iff_ne]; exact hr
      have HE := Lib.hid (H2.out (by first | rfl | trivial) hr)
      clear hr
      go_wp2_with (go_at_call 22; refine (HMY.out _).mono ?_; rintro e w2 ⟨rfl, hb2⟩; have hbk2 := HBK.out.below hb2 HBK.out.lt; have k0 : w2.cell? ⟨w.heap.size, 0, none⟩ = some (.string n) := hbk2.cell 0; have k1 : w2.cell? ⟨w.heap.size, 1, none⟩ = some (.int .i64 r) := hbk2.cell 1; have k2 : w2.cell? ⟨w.heap.size, 2, none⟩ = some (.string v) := hbk2.cell 2; have HB2 := Lib.hid (HB0.out.trans (hb2.mono HB0.out.size)); clear hb2 hbk2)
      go_quiet ((go_at_call 36; exact Calls.quiet_of_same (HSG.out _)))
      go_wp2_with fail
      go_ret
      exact ⟨by rw [HE.out]; rfl, HB2.out.trans ⟨rfl, rfl, rfl, Nat.le_refl _, fun _ _ => rfl⟩⟩
set_option maxRecDepth 100000 in
set_option maxHeartbeats 4000000 in
theorem RAtom_any (a : RA) (w : World) (hn : a.n.size ≤ 1048576) (hv : a.v.size ≤ 1048576) :
    Calls Try.prog 21 #[atV a.n a.r a.v] w fun e w' => e = .returned (.string (Rl.tob (atx a))) ∧ Below w.heap.size w w' := by
  have HMY : Hid (∀ W, Calls Try.prog 23 #[atV a.n a.r a.v] W fun e w' => e = .returned (.bool (mayR a)) ∧ Below W.heap.size W w') := Lib.hid (fun W => rmay_any a.n a.r a.v W hn hv)
  have HSG : Hid (∀ W, Calls Try.prog 37 #[.int .i64 a.r] W fun e w' => e = .returned (.string (sgnB a.r)) ∧ w' = W) := Lib.hid (fun W => (RSign_any a.r W).mono fun e w' h => ⟨h.1, h.2.symm⟩)
  obtain ⟨A, hA⟩ : ∃ A, A = Rl.tob (atx a) := ⟨_, rfl⟩
  have H0 : Hid (mayR a = false → A = ⟨#[]⟩) := Lib.hid (fun h => by rw [hA]; exact atx_no h)
  have H1 : Hid (mayR a = true → a.r = 0 → A = a.n) := Lib.hid (fun h hr => by rw [hA]; exact atx_any h hr)
  have H2 : Hid (mayR a = true → a.r ≠ 0 → A = a.n ++ ⟨#[32, 40]⟩ ++ sgnB a.r ++ ⟨#[32]⟩ ++ a.v ++ ⟨#[41]⟩) := Lib.hid (fun h hr => by rw [hA]; exact atx_rel h hr)
  have H3 : Hid (mayR a = true → a.n.size ≤ 24 ∧ a.v.size ≤ 48) := Lib.hid (fun h => ⟨(mayR_len h).1, (mayR_len h).2.1⟩)
  have H4 : Hid ((sgnB a.r).size ≤ 2) := Lib.hid (sgnB_len _)
  rw [← hA]
  clear hA
  generalize sgnB a.r = sg at *
  generalize mayR a = m at *
  obtain ⟨n, r, v⟩ := a
  simp only at *
  have hb0 : Below w.heap.size w (w.alloc (.cells #[.string n, .int .i64 r, .string v] 38)) := (Below.refl _ _).alloc (Nat.le_refl _) _
  have hbk := Blk.new w 38 #[.string n, .int .i64 r, .string v]
  have HB0 := Lib.hid hb0
  have HBK := Lib.hid hbk
  clear hb0 hbk
  unfold atV at *
  go_enter Try.func21, Try.ntmps21
  cases m with
  | false =>
    go_wp2_with (go_at_call 23; refine (HMY.out _).mono ?_; rintro e w2 ⟨rfl, hb2⟩)
    go_ret
    exact ⟨by rw [H0.out (by first | rfl | trivial)]; rfl, HB0.out.trans (hb2.mono HB0.out.size)⟩
  | true =>
    have hz := H3.out (by first | rfl | trivial)
    have hz1 := hz.1
    have hz2 := hz.2
    have hsg := H4.out
    clear hz
    by_cases hr : r = 0
    · have q : (r == 0) = true := by rw [beq_iff_eq]; exact hr
      have HE := Lib.hid (H1.out (by first | rfl | trivial) hr)
      clear hr
      go_wp2_with (go_at_call 23; refine (HMY.out _).mono ?_; rintro e w2 ⟨rfl, hb2⟩; have hbk2 := HBK.out.below hb2 HBK.out.lt; have k0 : w2.cell? ⟨w.heap.size, 0, none⟩ = some (.string n) := hbk2.cell 0; have k1 : w2.cell? ⟨w.heap.size, 1, none⟩ = some (.int .i64 r) := hbk2.cell 1; have k2 : w2.cell? ⟨w.heap.size, 2, none⟩ = some (.string v) := hbk2.cell 2; have HB2 := Lib.hid (HB0.out.trans (hb2.mono HB0.out.size)); clear hb2 hbk2)
      go_ret
      exact ⟨by rw [HE.out]; rfl, HB2.out⟩
    · have q : (r == 0) = false := by rw [beq_eq_false_iff_ne]; exact hr
      have HE := Lib.hid (H2.out (by first | rfl | trivial) hr)
      clear hr
      go_wp2_with (go_at_call 23; refine (HMY.out _).mono ?_; rintro e w2 ⟨rfl, hb2⟩; have hbk2 := HBK.out.below hb2 HBK.out.lt; have k0 : w2.cell? ⟨w.heap.size, 0, none⟩ = some (.string n) := hbk2.cell 0; have k1 : w2.cell? ⟨w.heap.size, 1, none⟩ = some (.int .i64 r) := hbk2.cell 1; have k2 : w2.cell? ⟨w.heap.size, 2, none⟩ = some (.string v) := hbk2.cell 2; have HB2 := Lib.hid (HB0.out.trans (hb2.mono HB0.out.size)); clear hb2 hbk2)
      go_quiet ((go_at_call 37; exact Calls.quiet_of_same (HSG.out _)))
      go_wp2_with fail
      go_ret
      exact ⟨by rw [HE.out]; rfl, HB2.out.trans ⟨rfl, rfl, rfl, Nat.le_refl _, fun _ _ => rfl⟩⟩
end Go.Proofs.Ytdchnllflodmkaa
