/- DiskFuses: the walk. -/
import Derived.Test.YtiiegimnnngnnaaCalls
namespace Go.Proofs.Ytiiegimnnngnnaa
open Go.RowKit Go.Sort
set_option linter.unusedVariables false

/-- A disk of four sectors behind k changing calls, its fuse set to N. -/
structure Fz (N k : Nat) (D : Dk) : Prop where
  n : D.n = 4
  calls : D.calls = k
  down : D.down = decide (N ≤ k)
  fuse : D.fuse = N - k
theorem Fz.tick {N k : Nat} {D : Dk} (h : Fz N k D) : Fz N (k + 1) D.tick := by
  obtain ⟨n, R, S, calls, fuse, down⟩ := D
  obtain ⟨h1, h2, h3, h4⟩ := h
  simp only at h1 h2 h3 h4
  subst h1 h2 h3 h4
  unfold Dk.tick
  by_cases hN : N ≤ calls
  · simp only [hN, decide_true, if_true]
    exact ⟨rfl, rfl, by simp; omega, by simp only; omega⟩
  · have hz : ¬ N - calls = 0 := by omega
    simp only [hN, hz, decide_false, if_false, Bool.false_eq_true]
    refine ⟨rfl, rfl, ?_, by simp only; omega⟩
    simp only
    rw [Bool.eq_iff_iff, beq_iff_eq, decide_eq_true_iff]; omega
theorem Fz.write {N k : Nat} {D : Dk} (h : Fz N k D) (i : Int) (b : List Nat) : Fz N (k + 1) (D.write i b) := by
  have ht := h.tick
  unfold Dk.write
  split
  · exact ⟨ht.n, ht.calls, ht.down, ht.fuse⟩
  · exact ht
theorem Fz.flush {N k : Nat} {D : Dk} (h : Fz N k D) : Fz N (k + 1) D.flush := by
  have ht := h.tick
  unfold Dk.flush
  split
  · exact ht
  · exact ⟨ht.n, ht.calls, ht.down, ht.fuse⟩
theorem Fz.writeErr {N k : Nat} {D : Dk} (h : Fz N k D) (i : Int) (l : Nat) : D.writeErr i l = if N ≤ k + 1 then 7 else if D.may i l then 0 else 1 := by
  have ht := h.tick
  unfold Dk.writeErr
  rw [ht.down]
  by_cases hN : N ≤ k + 1 <;> simp [hN]
theorem Fz.flushErr {N k : Nat} {D : Dk} (h : Fz N k D) : D.flushErr = if N ≤ k + 1 then 7 else 0 := by
  have ht := h.tick
  unfold Dk.flushErr
  rw [ht.down]
  by_cases hN : N ≤ k + 1 <;> simp [hN]
theorem Fz.start (N : Nat) : Fz N 0 ((Dk.new 4).setFuse (N : Int)) ↔ 1 ≤ N := by
  constructor
  · intro h
    have := h.down
    rcases Nat.eq_zero_or_pos N with h0 | h0
    · subst h0; cases this
    · exact h0
  · intro h
    exact ⟨rfl, rfl, by show false = _; simp; omega, by show ((N : Nat) : Int).toNat = _; omega⟩
theorem crash_flush (D : Dk) (bs : List Nat) : (D.crash bs).flushErr = 0 := by
  unfold Dk.flushErr Dk.tick Dk.crash
  simp
theorem u64_wrap (x : Int) : IntKind.u64.wrap x = x % 18446744073709551616 := by
  simp [IntKind.wrap, IntKind.signed, IntKind.bits]
theorem mod_u (m : Nat) (h0 : 1 ≤ m) (h1 : m ≤ 1000000000) (x : Int) : ∃ N : Nat, N < m ∧ (IntKind.u64.wrap x).tmod m = (N : Int) ∧ wrap64 ((IntKind.u64.wrap x).tmod m) = (N : Int) := by
  rw [u64_wrap, Int.tmod_eq_emod_of_nonneg (Int.emod_nonneg _ (by decide))]
  have a0 := Int.emod_nonneg (x % 18446744073709551616) (b := (m : Int)) (by omega)
  have a1 := Int.emod_lt_of_pos (x % 18446744073709551616) (b := (m : Int)) (by omega)
  generalize x % 18446744073709551616 % (m : Int) = y at *
  exact ⟨y.toNat, by omega, by omega, by rw [IntWalk.wrap64_in y ⟨by omega, by omega⟩]; omega⟩
theorem mod_u1 (m : Nat) (h0 : 1 ≤ m) (h1 : m ≤ 1000000000) (x : Int) : ∃ N : Nat, 1 ≤ N ∧ N ≤ m ∧ wrap64 (wrap64 ((IntKind.u64.wrap x).tmod m) + 1) = (N : Int) := by
  obtain ⟨N, hN, _, e⟩ := mod_u m h0 h1 x
  rw [e]
  exact ⟨N + 1, by omega, by omega, by rw [IntWalk.wrap64_in _ ⟨by omega, by omega⟩]; omega⟩
set_option maxRecDepth 100000 in
set_option maxHeartbeats 2000000 in
theorem diskFuses_any (A : Option Addr) (n cp : Nat) (cs : List CallD) (x : Int) (w : World) (hlo : -9223372036854775808 ≤ x) (hhi : x ≤ 9223372036854775807) (hc : CallsAt w A n cs) (hn : n ≤ maxLen) :
    Calls Try.prog 10 #[.slice A n cp, .int .i64 x] w fun e w' => e = .returned (.bool true) ∧ Below w.heap.size w w' := by
  have HC := Lib.hid hc
  clear hc
  unfold maxLen at hn
  go_enter Try.func10, Try.ntmps10
  go_wp2_with (go_at_call 30; refine (New_any 4 4 (by decide) (by decide) (by decide) _).mono ?_; rintro e w1 ⟨p, r, s, rfl, hd1, hb1, hp, hr, hs⟩; have HD1 := Lib.hid hd1; have HB1 := Lib.hid hb1; clear hd1 hb1)
  obtain ⟨N, hN1, hN2, hNe⟩ := mod_u1 30 (by omega) (by omega) x
  simp only [Int.cast_ofNat_Int] at hNe
  simp only [hNe]
  clear hNe
  have hsf := Fuse_any p r s 4 4 (Dk.new 4) (N : Int) w1 HD1.out (by omega)
  refine hsf.mono ?_
  rintro e w2 ⟨rfl, hd2, hu2⟩
  have HB2 : Hid (Below w.heap.size w w2) := Lib.hid (HB1.out.trans (hu2.below (fun k hk => by unfold dT at hk; omega) (by have := HB1.out.size; simp; omega)))
  have HD2 := Lib.hid hd2
  have HF2 := Lib.hid ((Fz.start N).2 hN1)
  clear hsf hd2 hu2
  go_wp2_with fail
  go_loopw [6, 7] (fun v6 v7 wr => ∃ (i k : Nat) (D : Dk), i ≤ n ∧ i ≤ 60 ∧ k ≤ i ∧ v7 = .int .i64 i ∧ v6 = .int .i64 k ∧ Fz N k D ∧ DiskAt wr p r s 4 4 D ∧ Below w.heap.size w wr) (fun _ v7 _ => 60 - (intOf v7).toNat)
  case atStart => exact ⟨0, 0, _, by omega, by omega, by omega, rfl, rfl, HF2.out, HD2.out, HB2.out⟩
  case round =>
    obtain ⟨i, k, D, hin, hi60, hki, rfl, rfl, hfz, hd, hbel⟩ := hrel
    have HFz := Lib.hid hfz
    have HD := Lib.hid hd
    have HBel := Lib.hid hbel
    clear hfz hd hbel HD2 HF2 HB2 HD1 HB1
    by_cases hlt : i < n
    · by_cases hlt6 : i < 60
      · obtain ⟨c, b, o, hck, hok, rfl, hb, c0, c1, c2, c3, c4⟩ := HC.out.at_ hlt
        obtain ⟨Do, I, B, sh, PA, pn, pc, pbs⟩ := c
        simp only at c0 c1 c2 c3 c4
        have H5 : Hid (five w b (o + i * 5) _ _ _ _ _) := Lib.hid ⟨c0, c1, c2, c3, c4⟩
        have hI := hok.I
        have hB := hok.B
        simp only at hI hB
        have hcl : D.calls < 4611686018427387904 := by rw [HFz.out.calls]; omega
        have HCl := Lib.hid hcl
        clear hok hck hcl c0 c1 c2 c3 c4
        obtain ⟨c0, c1, c2, c3, c4⟩ := five_below H5.out hb HBel.out
        by_cases h0 : Do = 0
        · subst h0
          by_cases hN : N ≤ k + 1
          · have hwe := HFz.out.writeErr I (secLen sh)
            rw [if_pos hN] at hwe
            have HWe := Lib.hid hwe
            clear hwe
            have hbd : Below w.heap.size w wr.drew := HBel.out.drew
            go_wp2_with fail
            go_region_held3 (fun W => W.cell? ⟨b, o + i * 5, none⟩ = some (.int .i64 0) ∧ W.cell? ⟨b, o + i * 5 + 1, none⟩ = some (.int .i64 I) ∧ W.cell? ⟨b, o + i * 5 + 2, none⟩ = some (.int .u8 (B : Int)) ∧ W.cell? ⟨b, o + i * 5 + 3, none⟩ = some (.bool sh) ∧ W.cell? ⟨b, o + i * 5 + 4, none⟩ = some (.slice PA pn pc))
              ((refine five_below H5.out hb ?_; assumption))
              (first
                | (go_at_call 35; refine (sector_any 0 I B sh (.slice PA pn pc) _ hB).mono ?_; rintro e w3 ⟨g, rfl, hg, hbt, hb3⟩; have hB3 : Below w.heap.size w w3 := HBel.out.drew.trans (hb3.mono HBel.out.size))
                | (go_at_call 34
                   have hw := Write_any p r s 4 4 D I (some ⟨g, 0, none⟩) (secLen sh) 64 (secBytes B sh) _ (HD.out.drew.below hb3) hbt (fun g' o' h _ => by have := HD.out.lt; simp only [Option.some.injEq, Addr.mk.injEq, and_true] at h; obtain ⟨rfl, rfl⟩ := h; unfold dT; simp at hg; omega) HCl.out
                   rw [HWe.out] at hw
                   refine hw.mono ?_
                   rintro e w4 ⟨rfl, hd4, hu4⟩
                   have hB4 : Below w.heap.size w w4 := hB3.trans (hu4.below (fun k hk => by unfold dT at hk; omega) hB3.size)))
            clear H5
            go_wp2_with (first
              | (go_at_call 39; have hq := Calls_any p r s 4 4 _ w4 hd4; rw [(HFz.out.write I (secBytes B sh)).calls] at hq; refine hq.mono ?_; rintro e w5 ⟨rfl, rfl⟩; clear hq)
              | (go_at_call 40; have hq := Down_any p r s 4 4 _ w4 hd4; rw [(HFz.out.write I (secBytes B sh)).down, decide_eq_true hN] at hq; refine hq.mono ?_; rintro e w5 ⟨rfl, rfl⟩; clear hq))
            go_roundw
            case rel => exact ⟨i + 1, k + 1, _, by omega, by omega, by omega, by go_num, by go_num, HFz.out.write I (secBytes B sh), hd4, hB4⟩
            case measure => simp [intOf]; omega
          · have hwe := HFz.out.writeErr I (secLen sh)
            rw [if_neg hN] at hwe
            cases hmy : D.may I (secLen sh)
            all_goals
              rw [hmy] at hwe
              simp only [if_true, if_false, Bool.false_eq_true] at hwe
              have HWe := Lib.hid hwe
              clear hwe hmy
              have hbd : Below w.heap.size w wr.drew := HBel.out.drew
              go_wp2_with fail
              go_region_held3 (fun W => W.cell? ⟨b, o + i * 5, none⟩ = some (.int .i64 0) ∧ W.cell? ⟨b, o + i * 5 + 1, none⟩ = some (.int .i64 I) ∧ W.cell? ⟨b, o + i * 5 + 2, none⟩ = some (.int .u8 (B : Int)) ∧ W.cell? ⟨b, o + i * 5 + 3, none⟩ = some (.bool sh) ∧ W.cell? ⟨b, o + i * 5 + 4, none⟩ = some (.slice PA pn pc))
                ((refine five_below H5.out hb ?_; assumption))
                (first
                  | (go_at_call 35; refine (sector_any 0 I B sh (.slice PA pn pc) _ hB).mono ?_; rintro e w3 ⟨g, rfl, hg, hbt, hb3⟩; have hB3 : Below w.heap.size w w3 := HBel.out.drew.trans (hb3.mono HBel.out.size))
                  | (go_at_call 34
                     have hw := Write_any p r s 4 4 D I (some ⟨g, 0, none⟩) (secLen sh) 64 (secBytes B sh) _ (HD.out.drew.below hb3) hbt (fun g' o' h _ => by have := HD.out.lt; simp only [Option.some.injEq, Addr.mk.injEq, and_true] at h; obtain ⟨rfl, rfl⟩ := h; unfold dT; simp at hg; omega) HCl.out
                     rw [HWe.out] at hw
                     refine hw.mono ?_
                     rintro e w4 ⟨rfl, hd4, hu4⟩
                     have hB4 : Below w.heap.size w w4 := hB3.trans (hu4.below (fun k hk => by unfold dT at hk; omega) hB3.size)))
              clear H5
              go_wp2_with (first
                | (go_at_call 39; have hq := Calls_any p r s 4 4 _ w4 hd4; rw [(HFz.out.write I (secBytes B sh)).calls] at hq; refine hq.mono ?_; rintro e w5 ⟨rfl, rfl⟩; clear hq)
                | (go_at_call 40; have hq := Down_any p r s 4 4 _ w4 hd4; rw [(HFz.out.write I (secBytes B sh)).down, decide_eq_false hN] at hq; refine hq.mono ?_; rintro e w5 ⟨rfl, rfl⟩; clear hq))
              go_roundw
              case rel => exact ⟨i + 1, k + 1, _, by omega, by omega, by omega, by go_num, by go_num, HFz.out.write I (secBytes B sh), hd4, hB4⟩
              case measure => simp [intOf]; omega
        · by_cases h1 : Do = 1
          · subst h1
            by_cases hN : N ≤ k + 1
            · have hwe := HFz.out.flushErr
              rw [if_pos hN] at hwe
              have HWe := Lib.hid hwe
              clear hwe
              have hbd : Below w.heap.size w wr.drew := HBel.out.drew
              clear H5
              go_wp2_with (first
                | (go_at_call 36; have hw := Flush_any p r s 4 4 D _ HD.out HCl.out; rw [HWe.out] at hw; refine hw.mono ?_; rintro e w4 ⟨rfl, hd4, hu4⟩; have hB4 : Below w.heap.size w w4 := HBel.out.trans (hu4.below (fun k hk => by unfold dT at hk; omega) HBel.out.size); clear hw)
                | (go_at_call 39; have hq := Calls_any p r s 4 4 _ w4 hd4; rw [HFz.out.flush.calls] at hq; refine hq.mono ?_; rintro e w5 ⟨rfl, rfl⟩; clear hq)
                | (go_at_call 40; have hq := Down_any p r s 4 4 _ w4 hd4; rw [HFz.out.flush.down, decide_eq_true hN] at hq; refine hq.mono ?_; rintro e w5 ⟨rfl, rfl⟩; clear hq))
              go_roundw
              case rel => exact ⟨i + 1, k + 1, _, by omega, by omega, by omega, by go_num, by go_num, HFz.out.flush, hd4, hB4⟩
              case measure => simp [intOf]; omega
            · have hwe := HFz.out.flushErr
              rw [if_neg hN] at hwe
              have HWe := Lib.hid hwe
              clear hwe
              have hbd : Below w.heap.size w wr.drew := HBel.out.drew
              clear H5
              go_wp2_with (first
                | (go_at_call 36; have hw := Flush_any p r s 4 4 D _ HD.out HCl.out; rw [HWe.out] at hw; refine hw.mono ?_; rintro e w4 ⟨rfl, hd4, hu4⟩; have hB4 : Below w.heap.size w w4 := HBel.out.trans (hu4.below (fun k hk => by unfold dT at hk; omega) HBel.out.size); clear hw)
                | (go_at_call 39; have hq := Calls_any p r s 4 4 _ w4 hd4; rw [HFz.out.flush.calls] at hq; refine hq.mono ?_; rintro e w5 ⟨rfl, rfl⟩; clear hq)
                | (go_at_call 40; have hq := Down_any p r s 4 4 _ w4 hd4; rw [HFz.out.flush.down, decide_eq_false hN] at hq; refine hq.mono ?_; rintro e w5 ⟨rfl, rfl⟩; clear hq))
              go_roundw
              case rel => exact ⟨i + 1, k + 1, _, by omega, by omega, by omega, by go_num, by go_num, HFz.out.flush, hd4, hB4⟩
              case measure => simp [intOf]; omega
          · have e0 : (Do == 0) = false := by simpa using h0
            have e1 : (Do == 1) = false := by simpa using h1
            clear H5
            go_wp2
            go_roundw
            case rel => exact ⟨i + 1, k, _, by omega, by omega, by omega, by go_num, rfl, HFz.out, HD.out, HBel.out⟩
            case measure => simp [intOf]; omega
      · have hcr := Crash_any p r s 4 4 D none 0 0 [] _ HD.out (Bytes.nil _) (Nat.le_refl _) (Nat.zero_le _) (fun _ _ h => by cases h)
        have HCr := Lib.hid hcr
        clear hcr
        go_wp2_with (first
          | (go_at_call 37; refine HCr.out.mono ?_; rintro e w4 ⟨rfl, hd4, hu4⟩; have hB4 : Below w.heap.size w w4 := HBel.out.trans (hu4.below (fun k hk => by unfold dT at hk; omega) HBel.out.size); have HD4 := Lib.hid hd4; clear hd4 hu4)
          | (go_at_call 40; have hq := Down_any p r s 4 4 _ w4 HD4.out; rw [show (D.crash []).down = false from rfl] at hq; refine hq.mono ?_; rintro e w5 ⟨rfl, rfl⟩; clear hq)
          | (go_at_call 36; have hw := Flush_any p r s 4 4 _ _ HD4.out (show (D.crash []).calls < _ by show D.calls < _; rw [HFz.out.calls]; omega); rw [crash_flush] at hw; refine hw.mono ?_; rintro e w6 ⟨rfl, hd6, hu6⟩; have hB6 : Below w.heap.size w w6 := hB4.trans (hu6.below (fun k hk => by unfold dT at hk; omega) hB4.size); clear hw hd6 hu6)
          | (go_at_call 33; refine (awake2_any _).mono ?_; rintro e w7 ⟨rfl, hb7⟩; have hB7 : Below w.heap.size w w7 := hB6.trans (hb7.mono hB6.size)))
        go_ret
        exact ⟨rfl, hB7⟩
    · have hcr := Crash_any p r s 4 4 D none 0 0 [] _ HD.out (Bytes.nil _) (Nat.le_refl _) (Nat.zero_le _) (fun _ _ h => by cases h)
      have HCr := Lib.hid hcr
      clear hcr
      go_wp2_with (first
        | (go_at_call 37; refine HCr.out.mono ?_; rintro e w4 ⟨rfl, hd4, hu4⟩; have hB4 : Below w.heap.size w w4 := HBel.out.trans (hu4.below (fun k hk => by unfold dT at hk; omega) HBel.out.size); have HD4 := Lib.hid hd4; clear hd4 hu4)
        | (go_at_call 40; have hq := Down_any p r s 4 4 _ w4 HD4.out; rw [show (D.crash []).down = false from rfl] at hq; refine hq.mono ?_; rintro e w5 ⟨rfl, rfl⟩; clear hq)
        | (go_at_call 36; have hw := Flush_any p r s 4 4 _ _ HD4.out (show (D.crash []).calls < _ by show D.calls < _; rw [HFz.out.calls]; omega); rw [crash_flush] at hw; refine hw.mono ?_; rintro e w6 ⟨rfl, hd6, hu6⟩; have hB6 : Below w.heap.size w w6 := hB4.trans (hu6.below (fun k hk => by unfold dT at hk; omega) hB4.size); clear hw hd6 hu6)
        | (go_at_call 33; refine (awake2_any _).mono ?_; rintro e w7 ⟨rfl, hb7⟩; have hB7 : Below w.heap.size w w7 := hB6.trans (hb7.mono hB6.size)))
      go_ret
      exact ⟨rfl, hB7⟩
section
open Go.ChangeShapes Go.WideShapes Go.ChangeAt
theorem diskFuses_walk {H : Type} {enc : TypeId × Value → H} (W : World) {base : Nat} (v0 v1 : Value) {d0 d1 : DataW H} {p0 p1 : List MemPlace} (h0 : DataW.Trod enc Try.prog W 0 (fun _ => true) true 43 v0 d0 p0) (o0 : Value.okWide Try.prog W .any base 43 v0)
    (h1 : DataW.Trod enc Try.prog W 0 (fun _ => true) true 3 v1 d1 p1) (o1 : Value.okWide Try.prog W .any base 3 v1) :
    Calls Try.prog 10 #[v0, v1] W fun e w' => e = .returned (.bool true) ∧ Below W.heap.size W w' := by
  obtain ⟨x, rfl, rfl, rfl, wx⟩ := open_int Try.underlying3 o1 h1
  have hx : -9223372036854775808 ≤ x ∧ x ≤ 9223372036854775807 := by simpa [Lit.wf, IntKind.min, IntKind.max, IntKind.signed, IntKind.bits] using wx
  obtain ⟨A, n, cp, cs, rfl, hc, hn⟩ := open_calls h0 o0
  exact diskFuses_any A n cp cs x W hx.1 hx.2 hc hn
end
end Go.Proofs.Ytiiegimnnngnnaa
