/- wal: Append. -/
import Derived.Test.YtiiegimnnngnnaaLog9
namespace Go.Proofs.Ytiiegimnnngnnaa
open Go.RowKit
set_option linter.unusedVariables false

/-- Blocks of a disk, of a log, of its marks. -/
def aT (p r s g l : Nat) : Nat → Prop := fun k => lT p r s g k ∨ k = l
set_option maxRecDepth 100000 in
set_option maxHeartbeats 1000000 in
theorem Append_any (l g cap p r s cr cs : Nat) (D : Dk) (L : Wl.Lg) (A : Option Addr) (n c : Nat) (b : List Nat) (w : World) (hl : LogAt w l g cap p L) (hd : DiskAt w p r s cr cs D) (hlT : ¬ dT p r s l) (hgT : ¬ dT p r s g)
    (hb : Bytes w A n b) (hn : n ≤ 4294967296) (hc : D.calls + 200 < 4611686018427387904) (hm : L.n ≤ 512) (hnx : L.next ≤ L.to) (hto : L.to ≤ 4096) (hfr : L.fr ≤ 4096) :
    Calls Try.prog 50 #[.pointer (some ⟨l, 0, none⟩), .slice A n c] w fun e w' =>
      e = .returned (.int .i64 (Wl.append D L b).2.2) ∧ DiskAt w' p r s cr cs (Wl.append D L b).1 ∧ LogAt w' l g cap p (Wl.append D L b).2.1 ∧ Upd (aT p r s g l) w w' := by
  have hbl := hb.1
  have hll := hl.blk.lt
  have HL := Lib.hid hl
  have HD := Lib.hid hd
  have HB := Lib.hid hb
  have k4 : w.cell? ⟨l, 4, none⟩ = some (.int .i64 (L.n : Int)) := hl.blk.cell 4
  have HND := Lib.hid (fun W => Need_nat n W (by omega))
  have HFR := Lib.hid (fun (W : World) (h : LogAt W l g cap p L) => LFree_any l g cap p L W h hnx hto)
  obtain ⟨kn, hkn⟩ : ∃ kn, kn = Wl.need n := ⟨_, rfl⟩
  simp only [← hkn] at HND
  obtain ⟨fre, hfre⟩ : ∃ fre, fre = L.to - L.next := ⟨_, rfl⟩
  simp only [← hfre] at HFR
  obtain ⟨nn, hnn⟩ : ∃ nn, nn = L.n := ⟨_, rfl⟩
  rw [← hnn] at k4 hm
  have HDR : ∀ k, Hid (DiskAt (w.drewN k) p r s cr cs D ∧ LogAt (w.drewN k) l g cap p L ∧ Upd (aT p r s g l) w (w.drewN k)) := fun k => Lib.hid ⟨hd.drewN k, hl.upd ((Upd.refl (fun _ => False) w).drewN k) (fun h => h) (fun h => h), (Upd.refl _ w).drewN k⟩
  have HDR' := Lib.hid HDR
  by_cases c1 : 8192 < n
  · have e : Wl.append D L b = (D, L, 2) := by unfold Wl.append; rw [if_pos (by omega)]
    rw [e]
    have c1' : (8192 : Int) < (n : Int) := by omega
    clear e hl hd hb HDR hkn hfre hnn
    go_enter Try.func50, Try.ntmps50
    go_wp2_with fail
    go_ret
    exact ⟨rfl, HD.out, HL.out, Upd.refl _ _⟩
  · have c1' : (n : Int) ≤ 8192 := by omega
    by_cases c2 : nn = 512
    · have e : Wl.append D L b = (D, L, 6) := by unfold Wl.append; rw [if_neg (by omega), if_pos (.inl (by omega))]
      rw [e]
      clear hnn
      subst c2
      clear e hl hd hb HDR hkn hfre
      go_enter Try.func50, Try.ntmps50
      go_wp2_with fail
      go_ret
      exact ⟨rfl, HD.out, HL.out, Upd.refl _ _⟩
    · have c2' : ((nn : Int) == 512) = false := beq_eq_false_iff_ne.2 (by omega)
      by_cases c3 : fre < kn
      · have e : Wl.append D L b = (D, L, 6) := by unfold Wl.append; rw [if_neg (by omega), if_pos (.inr (by rw [hbl, ← hkn, ← hfre]; exact c3))]
        rw [e]
        have c3' : decide ((fre : Int) < (kn : Int)) = true := decide_eq_true (by omega)
        clear e hl hd hb HDR hkn hfre hnn c2
        go_enter Try.func50, Try.ntmps50
        go_wp2_with (go_at_call 45; refine (HND.out _).mono ?_; rintro e w1 ⟨rfl, rfl⟩)
        go_at_call 58
        refine (HFR.out _ HL.out).mono ?_
        rintro e w2 ⟨rfl, mm, rfl⟩
        go_wp2_with fail
        go_ret
        exact ⟨rfl, (HDR'.out mm).out.1, (HDR'.out mm).out.2.1, (HDR'.out mm).out.2.2⟩
      · have c3' : decide ((fre : Int) < (kn : Int)) = false := decide_eq_false (by omega)
        by_cases c4 : L.failed = true
        · have e : Wl.append D L b = (D, L, 13) := by unfold Wl.append; rw [if_neg (by omega), if_neg (by rw [hbl, ← hkn, ← hfre]; omega), if_pos c4]
          rw [e]
          have k6 : ∀ k, (w.drewN k).cell? ⟨l, 6, none⟩ = some (.bool true) := fun k => by rw [← c4]; exact hl.blk.cell 6
          have K6 := Lib.hid k6
          clear e hl hd hb HDR hkn hfre hnn c2 k6 c4
          go_enter Try.func50, Try.ntmps50
          go_wp2_with (go_at_call 45; refine (HND.out _).mono ?_; rintro e w1 ⟨rfl, rfl⟩)
          go_at_call 58
          refine (HFR.out _ HL.out).mono ?_
          rintro e w2 ⟨rfl, mm, rfl⟩
          have k6 := K6.out mm
          go_wp2_with fail
          go_ret
          exact ⟨rfl, (HDR'.out mm).out.1, (HDR'.out mm).out.2.1, (HDR'.out mm).out.2.2⟩
        · have c4f : L.failed = false := by simpa using c4
          have e : Wl.append D L b = if (Wl.put D L b).2.2 = 0 then ((Wl.put D L b).1, { (Wl.put D L b).2.1 with next := L.next + kn, n := L.n + 1 }, 0) else ((Wl.put D L b).1, { (Wl.put D L b).2.1 with failed := true }, (Wl.put D L b).2.2) := by
            unfold Wl.append
            rw [if_neg (by omega), if_neg (by rw [hbl, ← hkn, ← hfre]; omega), if_neg c4, hbl, ← hkn]
          rw [e]
          have k6 : ∀ k, (w.drewN k).cell? ⟨l, 6, none⟩ = some (.bool false) := fun k => by rw [← c4f]; exact hl.blk.cell 6
          have K6 := Lib.hid k6
          have HPT := Lib.hid (fun k => lput_any l g cap p r s cr cs D L A n c b (w.drewN k) (HDR k).out.2.1 (HDR k).out.1 hlT hgT (hb.below ⟨rfl, rfl, rfl, Nat.le_refl _, fun _ _ => rfl⟩) (by omega) hc (by omega) (by omega) hfr)
          have hpn : (Wl.put D L b).2.1.next = L.next ∧ (Wl.put D L b).2.1.n = L.n := by
            unfold Wl.put
            split <;> exact ⟨rfl, rfl⟩
          obtain ⟨q, hq⟩ : ∃ q, q = Wl.put D L b := ⟨_, rfl⟩
          simp only [← hq] at HPT hpn ⊢
          have HLT := Lib.hid (And.intro hlT hgT)
          have HFRE := Lib.hid hfre
          have HNN := Lib.hid hnn
          clear e hl hd hb HDR hkn hfre k6 c4 hq hlT hgT
          obtain ⟨D1, L1, e1⟩ := q
          simp only at HPT hpn ⊢
          by_cases h0 : e1 = 0
          · subst h0
            rw [if_pos rfl]
            clear c2 hnn
            go_enter Try.func50, Try.ntmps50
            go_wp2_with (go_at_call 45; refine (HND.out _).mono ?_; rintro e w1 ⟨rfl, rfl⟩)
            go_at_call 58
            refine (HFR.out _ HL.out).mono ?_
            rintro e w2 ⟨rfl, mm, rfl⟩
            have k6 := K6.out mm
            go_wp2_with fail
            go_at_call 72
            refine (HPT.out mm).mono ?_
            rintro e w3 ⟨rfl, hd3, hl3, hu3⟩
            have k5 : w3.cell? ⟨l, 5, none⟩ = some (.int .i64 (L.next : Int)) := by rw [← hpn.1]; exact hl3.blk.cell 5
            have k4' : w3.cell? ⟨l, 4, none⟩ = some (.int .i64 (nn : Int)) := by rw [HNN.out, ← hpn.2]; exact hl3.blk.cell 4
            have f5 : w3.frozen? ⟨l, 5, none⟩ = false := hl3.blk.frozen 5
            have f4 : w3.frozen? ⟨l, 4, none⟩ = false := hl3.blk.frozen 4
            have w5' : IntKind.i64.wrap ((L.next : Int) + (kn : Int)) = (L.next : Int) + (kn : Int) := by have := HFRE.out; rw [IntKind.wrap_i64]; omega
            have HD3 := Lib.hid hd3
            have HL3 := Lib.hid hl3
            have HU3 := Lib.hid (((Upd.refl _ w).drewN mm).trans hu3)
            clear hd3 hl3 hu3 k6
            go_wp2_with fail
            go_still_tail 10, (by kernel_rfl)
            still_call ((HND.out _).mono fun e w' h => ⟨h.1, h.2.symm⟩)
            repeat still_step
            refine wpStill_nil ?_
            change wpList _ _ _ _ _ w3.drew
            go_wp2_with fail
            go_ret
            have hu6 : Upd (fun k => k = l) w3 ((w3.setCell ⟨l, 5, none⟩ (.int .i64 ((L.next : Int) + (kn : Int)))).setCell ⟨l, 4, none⟩ (.int .i64 ((nn : Int) + 1))).drew := (((Upd.refl (fun k => k = l) w3).setCell (p := ⟨l, 5, none⟩) (.inl rfl) _).setCell (p := ⟨l, 4, none⟩) (.inl rfl) _).drew
            have hne := HL3.out.ne
            have hdl := HLT.out.1
            refine ⟨rfl, HD3.out.upd hu6 (fun e => hdl (by rw [← e]; exact .inl rfl)) (fun e => hdl (by rw [← e]; exact .inr (.inl rfl))) (fun e => hdl (by rw [← e]; exact .inr (.inr rfl))), ⟨?_, ?_, HL3.out.mlt, HL3.out.big, HL3.out.top⟩, (HU3.out.mono (fun k _ h => .inl h)).trans (hu6.mono (fun k _ h => .inr h))⟩
            · exact ((HL3.out.blk.set_ 5 (.int .i64 ((L.next : Int) + (kn : Int)))).set_ 4 (.int .i64 ((nn : Int) + 1))).cast (by rw [HNN.out]; simp)
            · exact ((HL3.out.marks.far (p := ⟨l, 5, none⟩) (Ne.symm hne) _).far (p := ⟨l, 4, none⟩) (Ne.symm hne) _).drew
          · rw [if_neg h0]
            have hq0 : (e1 == 0) = false := beq_eq_false_iff_ne.2 h0
            have hq2 : (e1 != 0) = true := by rw [bne, hq0]; rfl
            clear c2 hnn h0
            go_enter Try.func50, Try.ntmps50
            go_wp2_with (go_at_call 45; refine (HND.out _).mono ?_; rintro e w1 ⟨rfl, rfl⟩)
            go_at_call 58
            refine (HFR.out _ HL.out).mono ?_
            rintro e w2 ⟨rfl, mm, rfl⟩
            have k6 := K6.out mm
            go_wp2_with fail
            go_at_call 72
            refine (HPT.out mm).mono ?_
            rintro e w3 ⟨rfl, hd3, hl3, hu3⟩
            have f6 : w3.frozen? ⟨l, 6, none⟩ = false := hl3.blk.frozen 6
            have k6' : w3.cell? ⟨l, 6, none⟩ = some (.bool L1.failed) := hl3.blk.cell 6
            have HD3 := Lib.hid hd3
            have HL3 := Lib.hid hl3
            have HU3 := Lib.hid (((Upd.refl _ w).drewN mm).trans hu3)
            clear hd3 hl3 hu3 k6
            go_wp2_with fail
            go_ret
            have hu6 : Upd (fun k => k = l) w3 (w3.setCell ⟨l, 6, none⟩ (.bool true)) := (Upd.refl (fun k => k = l) w3).setCell (p := ⟨l, 6, none⟩) (.inl rfl) _
            have hne := HL3.out.ne
            have hdl := HLT.out.1
            refine ⟨rfl, HD3.out.upd hu6 (fun e => hdl (by rw [← e]; exact .inl rfl)) (fun e => hdl (by rw [← e]; exact .inr (.inl rfl))) (fun e => hdl (by rw [← e]; exact .inr (.inr rfl))), ⟨?_, ?_, HL3.out.mlt, HL3.out.big, HL3.out.top⟩, (HU3.out.mono (fun k _ h => .inl h)).trans (hu6.mono (fun k _ h => .inr h))⟩
            · exact (HL3.out.blk.set_ 6 (.bool true)).cast (by simp)
            · exact HL3.out.marks.far (p := ⟨l, 6, none⟩) (Ne.symm hne) _
end Go.Proofs.Ytiiegimnnngnnaa
