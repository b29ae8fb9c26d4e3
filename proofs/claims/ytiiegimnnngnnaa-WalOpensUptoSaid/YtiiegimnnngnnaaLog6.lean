/- wal: Format. -/
import Derived.Test.YtiiegimnnngnnaaLog5
import Derived.Test.YtiiegimnnngnnaaAwake2
namespace Go.Proofs.Ytiiegimnnngnnaa
open Go.RowKit
set_option linter.unusedVariables false

set_option maxRecDepth 100000 in
set_option maxHeartbeats 1000000 in
theorem Format_any (p r s cr cs : Nat) (D : Dk) (fr to : Nat) (w : World) (h : DiskAt w p r s cr cs D) (h1 : fr < to) (h2 : to ≤ D.n) (hc : D.calls + 1 < 4611686018427387904) :
    Calls Try.prog 48 #[.pointer (some ⟨p, 0, none⟩), .int .i64 (fr : Int), .int .i64 (to : Int)] w fun e w' =>
      e = .returned (.int .i64 (Wl.wrs D fr (fun _ => 0) 1 0).2) ∧ DiskAt w' p r s cr cs (Wl.wrs D fr (fun _ => 0) 1 0).1 ∧ Upd (dT p r s) w w' := by
  have ha := area_any p r s cr cs D (fr : Int) (to : Int) w h
  have e : isArea D.n (fr : Int) (to : Int) = true := decide_eq_true ⟨by omega, by omega, by omega⟩
  rw [e] at ha
  have HA := Lib.hid ha
  have hmk : ∀ W : World, (Instr.makeSlice 22 (.int .i64 64) (.int .i64 64)).run Try.prog W = .ok (.slice (some ⟨W.heap.size, 0, none⟩) 64 64) (W.alloc (.cells (noughts 64) 5)) := make_bytes 64 (by omega)
  obtain ⟨W1, hW1⟩ : ∃ W1, W1 = w.alloc (.cells (noughts 64) 5) := ⟨_, rfl⟩
  have hb1 : Below w.heap.size w W1 := by rw [hW1]; exact (Below.refl _ _).alloc (Nat.le_refl _) _
  have hd1 := h.below hb1
  have hlt := h.lt
  have hby : Bytes W1 (some ⟨w.heap.size, 0, none⟩) 64 (Wl.part (fun _ => 0) (64 * 0) 64) := by
    rw [hW1]
    exact Bytes.of_new w (noughts 64) 5 (0, 0) 64 _ (Wl.part_len _ _ _) (Wl.part_lt (fun _ => by omega) _ _) (by kernel_rfl)
  have hT : ¬ dT p r s w.heap.size := by unfold dT; omega
  have HW := Lib.hid (Write_any p r s cr cs D (fr : Int) (some ⟨w.heap.size, 0, none⟩) 64 64 _ W1 hd1 hby (fun g o e _ => by cases e; exact hT) (by omega))
  have hu1 : Upd (dT p r s) w W1 := by rw [hW1]; exact (Upd.refl _ _).alloc _
  have HU := Lib.hid hu1
  obtain ⟨x, hx⟩ : ∃ x, x = D.writeErr (fr : Int) 64 := ⟨_, rfl⟩
  rw [← hx] at HW
  have HC := Lib.hid hc
  have hs0 : Wl.wrs D fr (fun _ => 0) 1 0 = if x = 0 then ((D.write (fr : Int) (Wl.part (fun _ => 0) (64 * 0) 64)).flush, (D.write (fr : Int) (Wl.part (fun _ => 0) (64 * 0) 64)).flushErr) else (D.write (fr : Int) (Wl.part (fun _ => 0) (64 * 0) 64), x) := by rw [hx]; rfl
  clear ha e h hc hb1 hd1 hby hu1 hx
  by_cases h0 : x = 0
  · subst h0
    rw [if_pos rfl] at hs0
    rw [hs0]
    clear hs0
    obtain ⟨D2, hD2⟩ : ∃ D2, D2 = D.write (fr : Int) (Wl.part (fun _ => 0) (64 * 0) 64) := ⟨_, rfl⟩
    rw [← hD2] at HW ⊢
    have hc2 : D2.calls < 4611686018427387904 := by rw [hD2, Dk.write_calls]; exact HC.out
    have HC2 := Lib.hid hc2
    obtain ⟨y, hy⟩ : ∃ y, y = D2.flushErr := ⟨_, rfl⟩
    rw [← hy]
    have HY := Lib.hid hy
    clear hD2 hc2 hy
    go_enter Try.func48, Try.ntmps48
    go_wp2_with (go_at_call 69; refine HA.out.mono ?_; rintro e w' ⟨rfl, rfl⟩)
    rw [← hW1]
    clear hmk hW1
    go_at_call 34
    refine HW.out.mono ?_
    rintro ev w2 ⟨rfl, hd2, hu2⟩
    have hF := Flush_any p r s cr cs D2 w2 hd2 HC2.out
    rw [← HY.out] at hF
    have HF := Lib.hid hF
    have HU2 := Lib.hid (HU.out.trans hu2)
    clear hd2 hu2 hF
    go_wp2_with fail
    go_at_call 36
    refine HF.out.mono ?_
    rintro ev w3 ⟨rfl, hd3, hu3⟩
    have HD3 := Lib.hid (And.intro hd3 (HU2.out.trans hu3))
    clear hd3 hu3
    go_wp2_with fail
    go_ret
    exact ⟨rfl, HD3.out⟩
  · rw [if_neg h0] at hs0
    rw [hs0]
    have hq0 : (x == 0) = false := beq_eq_false_iff_ne.2 h0
    have hq1 : (x != 0) = true := by rw [bne, hq0]; rfl
    clear hs0 h0
    generalize D.write (fr : Int) (Wl.part (fun _ => 0) (64 * 0) 64) = D2 at *
    go_enter Try.func48, Try.ntmps48
    go_wp2_with (go_at_call 69; refine HA.out.mono ?_; rintro e w' ⟨rfl, rfl⟩)
    rw [← hW1]
    clear hmk hW1
    go_at_call 34
    refine HW.out.mono ?_
    rintro ev w2 ⟨rfl, hd2, hu2⟩
    have HD3 := Lib.hid (And.intro hd2 (HU.out.trans hu2))
    clear hd2 hu2
    go_wp2_with fail
    go_ret
    exact ⟨rfl, HD3.out⟩
theorem Format_bad (p r s cr cs : Nat) (D : Dk) (fr to : Int) (w : World) (h : DiskAt w p r s cr cs D) (ha : isArea D.n fr to = false) :
    Calls Try.prog 48 #[.pointer (some ⟨p, 0, none⟩), .int .i64 fr, .int .i64 to] w fun e w' => e = .returned (.int .i64 1) ∧ w = w' := by
  have h1 := area_any p r s cr cs D fr to w h
  rw [ha] at h1
  have HA := Lib.hid h1
  clear h1 h ha
  go_enter Try.func48, Try.ntmps48
  go_wp2_with (go_at_call 69; refine HA.out.mono ?_; rintro e w' ⟨rfl, rfl⟩)
  go_ret
  exact ⟨rfl, rfl⟩
end Go.Proofs.Ytiiegimnnngnnaa
