/- WalPlays: the walk. -/
import Derived.Test.YtiiegimnnngnnaaPl
import Derived.Test.YtiiegimnnngnnaaRows3
import Derived.Deep.DrawnRows
namespace Go.Proofs.Ytiiegimnnngnnaa
open Go.RowKit
set_option linter.unusedVariables false

set_option maxRecDepth 100000 in
set_option maxHeartbeats 2400000 in
theorem walPlays_any (a : Int) (v0 : Value) (La : List (List Nat)) (w : World) (hr : RowsAt w v0 La) (hl : La.length ≤ 1048576) (hb : ∀ b ∈ La, b.length ≤ 1048576) :
    Calls Try.prog 18 #[.int .i64 a, v0] w fun e w' => e = .returned (.bool true) ∧ Below w.heap.size w w' := by
  obtain ⟨N, hN, hN30⟩ := small_k a 30 (by omega) (by omega)
  have hN' : (IntKind.u64.wrap a).tmod 30 = (N : Int) := hN
  clear hN
  have HR := Lib.hid hr
  obtain ⟨A0, c0, rfl, hc0, hcm0, _⟩ := hr
  obtain ⟨ln, hln⟩ : ∃ ln, ln = La.length := ⟨_, rfl⟩
  rw [← hln] at hl hc0 ⊢
  have HLN := Lib.hid hln
  have HLB := Lib.hid hb
  obtain ⟨M, hM⟩ : ∃ M, M = N + 1 := ⟨_, rfl⟩
  have hM' : (N : Int) + 1 = (M : Int) := by omega
  have hM2 : M ≤ 30 := by omega
  have hM1 : 1 ≤ M := by omega
  obtain ⟨M2, hM3⟩ : ∃ M2, M2 = M + 2 := ⟨_, rfl⟩
  have hM4 : (M : Int) + 2 = (M2 : Int) := by omega
  have HM3 := Lib.hid hM3
  have hM5 : M2 ≤ 32 := by omega
  have HN := Lib.hid (New_any (M2 : Int) M2 (by omega) (by omega) (by omega) w)
  have HRN := Lib.hid (fun W => RefNew_any (M2 : Int) M2 (by omega) (by omega) (by omega) W)
  clear hln hb hM hM3
  go_enter Try.func18, Try.ntmps18
  go_wp2_with fail
  go_at_call 30
  refine HN.out.mono ?_
  rintro e w1 ⟨p, r, s, rfl, hd1, hb1, hp, hr, hs⟩
  have HB1 := Lib.hid hb1
  have HD1 := Lib.hid hd1
  have HP := Lib.hid (show w.heap.size ≤ p ∧ w.heap.size ≤ r ∧ w.heap.size ≤ s from ⟨hp, hr, hs⟩)
  clear hb1 hd1 hp hr hs
  go_wp2_with fail
  go_at_call 41
  refine (HRN.out _).mono ?_
  rintro e w2 ⟨m, A, B, cA, cB, xs, ys, rfl, hrn⟩
  have HRN2 := Lib.hid hrn
  have HF := Lib.hid (Format_good p r s M2 M2 (Dk.new M2) 1 (M + 1) w2 (HD1.out.below hrn.bel) rfl rfl (by omega) (by have := HM3.out; simp [Dk.new]; omega) (by simp [Dk.new]))
  obtain ⟨M1, hM7⟩ : ∃ M1, M1 = M + 1 := ⟨_, rfl⟩
  rw [← hM7] at HF
  have HM7 := Lib.hid hM7
  have hM6 : (M : Int) + 1 = (M1 : Int) := by omega
  have hM8 : M1 ≤ 31 := by omega
  clear hrn HN HRN hM7 hN'
  go_wp2_with fail
  go_at_call 48
  refine HF.out.mono ?_
  rintro e w3 ⟨D3, rfl, hd3, hu3, ha3, hn3, hf3, hc3, hr3, hs3⟩
  have HD3 := Lib.hid hd3
  have HU3 := Lib.hid hu3
  have HA3 := Lib.hid ha3
  have HO := Lib.hid (Open_area p r s M2 M2 D3 1 M1 2 [] w3 hd3 ha3)
  have HC3 := Lib.hid (show D3.n = M2 ∧ D3.fuse = 0 ∧ D3.calls = 2 ∧ ∀ j, D3.R j = 0 from ⟨hn3, hf3, by rw [hc3]; rfl, fun j => by rw [hr3]; split <;> rfl⟩)
  clear hd3 hu3 ha3 hn3 hf3 hc3 hr3 hs3
  go_wp2_with fail
  go_at_call 49
  refine HO.out.mono ?_
  rintro e w4 ⟨l, g, cap, v, rfl, hl4, hr4, h1, h2, hb4⟩
  obtain ⟨hap, hpb⟩ := Pb.start (by omega) HD1.out HB1.out HP.out HRN2.out HU3.out HD3.out hb4 hl4 h1 h2
  obtain ⟨Av, cv, rfl, _⟩ := hr4
  have HAP := Lib.hid hap
  have HPB := Lib.hid hpb
  have HBS := Lib.hid (show Wl.Beside M 0 D3 (Dk.new M2) ⟨1, M1, ([] : List (List Nat)).length, 2, fun k => D3.R (64 * 1 + k), false⟩ [] from
    ⟨HA3.out.holds, rfl, HM7.out, Nat.le_refl _, HC3.out.2.1, by rw [HC3.out.2.2.1]; omega, by rw [HC3.out.1, HM3.out], rfl, rfl, HM3.out, Nat.le_refl _, fun j _ => (HC3.out.2.2.2 j).symm⟩)
  have hmk : ∀ W : World, (Instr.makeSlice 22 (.int .i64 64) (.int .i64 64)).run Try.prog W = .ok (.slice (some ⟨W.heap.size, 0, none⟩) 64 64) (W.alloc (.cells (noughts 64) 5)) := make_bytes 64 (by omega)
  obtain ⟨Z, hZ⟩ : ∃ Z, Z = noughts 64 := ⟨_, rfl⟩
  rw [← hZ] at hmk HPB
  clear hap hpb hl4 h1 h2 hb4 hZ HF HO HRN2
  go_wp2_with fail
  have HP0 : Hid (Pb w (w4.alloc (.cells Z 5)) p r s M2 g cap l m w4.heap.size A B cA cB D3 (Dk.new M2) ⟨1, M1, ([] : List (List Nat)).length, 2, fun k => D3.R (64 * 1 + k), false⟩ (fun k => D3.R (64 * 1 + k))) :=
    Lib.hid (HPB.out.marks (fun k _ => (HC3.out.2.2.2 _).symm) (fun k => by rw [HC3.out.2.2.2]; decide))
  obtain ⟨mb, hmb⟩ : ∃ mb, mb = w4.heap.size := ⟨_, rfl⟩
  rw [← hmb] at HP0 HAP ⊢
  clear hmk HPB hmb HC3 HA3 HU3 HD3 HB1 HD1
  go_loopw [11, 12, 14] (fun u c t wr => ∃ (i ct us : Nat) (D Dm : Dk) (L : Wl.Lg) (rs : List (List Nat)), u = .int .i64 (us : Int) ∧ c = .int .i64 (ct : Int) ∧ t = .int .i64 (i : Int) ∧ i ≤ 40 ∧ ct ≤ i ∧ 1 ≤ us ∧ us ≤ M ∧ Hid (L.next = us + 1 ∧ L.n = ct) ∧ Hid (Wl.Beside M i D Dm L rs) ∧ Hid (Pb w wr p r s M2 g cap l m mb A B cA cB D Dm L L.m)) (fun _ _ t _ => 40 - (match t with | .int _ x => x.toNat | _ => 0))
  case atStart => exact ⟨0, 0, 1, _, _, _, _, rfl, rfl, rfl, by omega, by omega, by omega, by omega, Lib.hid ⟨rfl, rfl⟩, HBS, HP0⟩
  case round =>
    obtain ⟨i, ct, us, D, Dm, L, rs, rfl, rfl, rfl, hi40, hct, hus1, husM, HL, HBE, HPB⟩ := hrel
    have HNX := Lib.hid HBE.out.nx
    by_cases hlt : i < ln ∧ i < 40
    · obtain ⟨hlt1, hlt2⟩ := hlt
      have hlt1' : (i : Int) < (ln : Int) := by omega
      have hlt2' : (i : Int) < 40 := by omega
      have hi0 : (0 : Int) ≤ (i : Int) := by omega
      obtain ⟨A0', c0', hv0, _, _, hrow⟩ := HR.out
      cases hv0
      obtain ⟨g0, o0, Ai, ci, rfl, k1, k2, k3, k4⟩ := hrow i (by rw [← HLN.out]; exact hlt1)
      have hbl := HLB.out _ (List.getElem_mem (l := La) (n := i) (by rw [← HLN.out]; exact hlt1))
      obtain ⟨b, hb⟩ : ∃ b, b = La[i]'(by rw [← HLN.out]; exact hlt1) := ⟨_, rfl⟩
      rw [← hb] at k1 k2 k4 hbl
      have kr : wr.cell? ⟨g0, o0 + i, none⟩ = some (.slice Ai b.length ci) := (HPB.out.bel.cell (World.block_lt_of_cell? w _ k1)).trans k1
      have HYB : Hid (∀ W, Below w.heap.size w W → Bytes W Ai b.length b) := Lib.hid (fun W hW => k4.below hW)
      obtain ⟨bl, hbe⟩ : ∃ bl, bl = b.length := ⟨_, rfl⟩
      rw [← hbe] at kr k2 hbl HYB
      have HK1 : Hid (∀ W, Below w.heap.size w W → W.cell? ⟨g0, o0 + i, none⟩ = some (.slice Ai bl ci)) := Lib.hid (fun W hW => by rw [hbe]; exact (hW.cell (World.block_lt_of_cell? w _ k1)).trans k1)
      have HBL := Lib.hid hbe
      have HNEED := Lib.hid (fun W => RefNeed_nat bl W (by omega))
      obtain ⟨nd, hnd⟩ : ∃ nd, nd = Wl.need bl := ⟨_, rfl⟩
      simp only [← hnd] at HNEED
      have HND := Lib.hid hnd
      have hnd2 : nd ≤ 129 := by rw [hnd]; unfold Wl.need; split <;> omega
      have HLen := Lib.hid (fun W (h : Sys W p r s M2 M2 l g cap D L) => LLen_any l g cap p L W h.lg)
      have HFree := Lib.hid (fun W (h : Sys W p r s M2 M2 l g cap D L) => LFree_any l g cap p L W h.lg (by have := HNX.out; rw [HBE.out.to]; omega) (by rw [HBE.out.to]; omega))
      have HTO := Lib.hid HBE.out.to
      rw [HL.out.2] at HLen
      rw [HL.out.1, HTO.out] at HFree
      have hfr : ((M + 1 - (us + 1) : Nat) : Int) = (M : Int) - (us : Int) := by omega
      rw [hfr] at HFree
      have HAPP := Lib.hid (fun W (h : Sys W p r s M2 M2 l g cap D L) (hW : Below w.heap.size w W) => Append_good l g cap p r s M2 M2 D L rs Ai bl ci b W h HBE.out.holds HBE.out.fuse (HYB.out W hW) (by omega) (by have := HBE.out.calls; omega))
      have HDIG := Lib.hid (And.intro k3 k4)
      clear k1 k3 k4 hb hbe hnd hrow hfr
      by_cases hlong : 8192 < bl
      · have hlong' : (8192 : Int) < (bl : Int) := by omega
        have ho : Wl.appOut L b = 2 := by unfold Wl.appOut; rw [if_pos (by rw [← HBL.out]; exact hlong)]
        rw [ho] at HAPP
        clear ho
        have HA5 := Lib.hid (HAPP.out wr HPB.out.sys HPB.out.bel)
        go_wp2_with (first
          | (go_at_call 46; refine (HNEED.out _).mono ?_; rintro e w5 ⟨rfl, rfl⟩)
          | (go_at_call 50; refine HA5.out.mono ?_; rintro e w5 ⟨D5, L5, rfl, hs5, hu5, hn5, hf5, hfr5, hto5, _, _, hsame5, _⟩; obtain ⟨rfl, rfl⟩ := hsame5 (by decide); have HP5 := Lib.hid (HPB.out.app HAP.out hu5 hs5); clear hs5 hu5 hn5 hf5 hfr5 hto5)
          | (go_at_call 57; refine (HLen.out _ HP5.out.sys).mono ?_; rintro e w6 ⟨rfl, rfl⟩)
          | (go_at_call 58; refine (HFree.out _ HP5.out.sys).mono ?_; rintro e w6 ⟨rfl, mm, rfl⟩))
        refine ⟨⟨i + 1, ct, us, _, _, _, rs, rfl, rfl, by go_num, by omega, by omega, hus1, husM, HL, Lib.hid HBE.out.skip, Lib.hid (HP5.out.below ⟨rfl, rfl, rfl, Nat.le_refl _, fun _ _ => rfl⟩)⟩, ?_⟩
        show 40 - ((i : Int) + 1).toNat < 40 - (i : Int).toNat
        omega
      · have hshort : bl ≤ 8192 := by omega
        have hshort' : ¬ (8192 : Int) < (bl : Int) := by omega
        have hge := Wl.need_ge hshort
        rw [← HND.out] at hge
        by_cases hroom : M < us + nd
        · have hroom' : (M : Int) < (us : Int) + (nd : Int) := by omega
          have ho : Wl.appOut L b = 6 := by
            unfold Wl.appOut
            rw [if_neg (by rw [← HBL.out]; omega), if_pos (.inr (by rw [HTO.out, HL.out.1, ← HBL.out, ← HND.out]; omega))]
          rw [ho] at HAPP
          clear ho hge
          have HA5 := Lib.hid (HAPP.out wr HPB.out.sys HPB.out.bel)
          go_wp2_with (first
            | (go_at_call 46; refine (HNEED.out _).mono ?_; rintro e w5 ⟨rfl, rfl⟩)
            | (go_at_call 50; refine HA5.out.mono ?_; rintro e w5 ⟨D5, L5, rfl, hs5, hu5, hn5, hf5, hfr5, hto5, _, _, hsame5, _⟩; obtain ⟨rfl, rfl⟩ := hsame5 (by decide); have HP5 := Lib.hid (HPB.out.app HAP.out hu5 hs5); clear hs5 hu5 hn5 hf5 hfr5 hto5)
            | (go_at_call 57; refine (HLen.out _ HP5.out.sys).mono ?_; rintro e w6 ⟨rfl, rfl⟩)
            | (go_at_call 58; refine (HFree.out _ HP5.out.sys).mono ?_; rintro e w6 ⟨rfl, mm, rfl⟩))
          refine ⟨⟨i + 1, ct, us, _, _, _, rs, rfl, rfl, by go_num, by omega, by omega, hus1, husM, HL, Lib.hid HBE.out.skip, Lib.hid (HP5.out.below ⟨rfl, rfl, rfl, Nat.le_refl _, fun _ _ => rfl⟩)⟩, ?_⟩
          show 40 - ((i : Int) + 1).toNat < 40 - (i : Int).toNat
          omega
        · have hroom' : (us : Int) + (nd : Int) ≤ (M : Int) := by omega
          have ho : Wl.appOut L b = 0 := by
            unfold Wl.appOut
            rw [if_neg (by rw [← HBL.out]; omega), if_neg (by rw [HTO.out, HL.out.1, HL.out.2, ← HBL.out, ← HND.out]; omega)]
          rw [ho] at HAPP
          have HREC := Lib.hid (RefRecord_any Ai bl ci b wr (HYB.out wr HPB.out.bel) hshort)
          clear ho
          go_wp2_with (first
            | (go_at_call 46; refine (HNEED.out _).mono ?_; rintro e w5 ⟨rfl, rfl⟩)
            | (go_at_call 53; refine HREC.out.mono ?_; rintro e w6 ⟨v6, rfl, ho6, hb6⟩))
          have hb8 : ∀ x ∈ Wl.bin b, x < 256 := Wl.bin_lt (HYB.out wr HPB.out.bel).2.1
          have hbin : (Wl.bin b).length = 64 * nd := by rw [Wl.bin_len (by rw [← HBL.out]; exact hshort), ← HBL.out, ← HND.out]
          obtain ⟨A6, c6, rfl, hy6, hcy6, hcm6, _, hlo6⟩ := ho6.bytes hb8
          rw [hbin] at hy6 hcy6 ⊢
          obtain ⟨F, hF⟩ : ∃ F : Nat → Nat, F = fun k => (Wl.bin b).getD k 0 := ⟨_, rfl⟩
          have hpart : Wl.part F 0 (64 * nd) = Wl.bin b := by rw [hF, ← hbin]; exact part_self _
          rw [← hpart] at hy6
          obtain ⟨g6, o6, rfl, hg6, _⟩ := hy6.2.2 (by omega)
          have hg6b := hlo6 g6 o6 rfl
          have hg6T : ∀ k, pT p r s g l m mb A B k → k ≠ g6 := fun k hk e => by
            have := HPB.out.lt k hk
            omega
          have HG6T := Lib.hid hg6T
          have HP6 := Lib.hid (HPB.out.below hb6)
          have HY6 := Lib.hid hy6
          have HW0 : Hid (Wl.Wr Dm Dm L.next F 0) := Lib.hid (Wl.Wr.zero HBE.out.mup HBE.out.mfuse)
          have HF := Lib.hid hF
          have hcm6' : c6 ≤ 9223372036854775807 := by unfold maxLen at hcm6; omega
          have HCM6 := Lib.hid hcm6
          clear hb8 hbin ho6 hb6 hy6 hcm6 hlo6 hF hpart hg6T HREC
          go_wp2_with fail
          go_loopw [72] (fun v wx => ∃ (k : Nat) (Dy : Dk), v = .int .i64 (k : Int) ∧ k ≤ nd ∧ Hid (Wl.Wr Dm Dy L.next F k) ∧ Hid (Pb w wx p r s M2 g cap l m mb A B cA cB D Dy L L.m) ∧ Hid (Bytes wx (some ⟨g6, o6, none⟩) (64 * nd) (Wl.part F 0 (64 * nd)))) (fun v _ => nd - (match v with | .int _ x => x.toNat | _ => 0))
          case atStart => exact ⟨0, Dm, rfl, Nat.zero_le _, HW0, HP6, HY6⟩
          case round =>
            obtain ⟨k, Dy, rfl, hk, HWR, HPX, HYX⟩ := hrel
            by_cases hkn : k < nd
            · have hkn' : (k : Int) < (nd : Int) := by omega
              have x1 : (0 : Int) ≤ (k : Int) * 64 := by omega
              have x2 : (k : Int) * 64 ≤ ((k : Int) + 1) * 64 := by omega
              have x3 : ((k : Int) + 1) * 64 ≤ (c6 : Int) := by omega
              have x4 : ¬ c6 = k * 64 := by omega
              have hcut := part_cut HYX.out hkn
              rw [Nat.mul_comm 64 k] at hcut
              have hi : ((L.next + k : Nat) : Int) = 1 + (us : Int) + (k : Int) := by have := HL.out.1; omega
              have hwr := RefWriteM_any _ (pT p r s g l m mb A B) m A B (some ⟨g6, o6 + k * 64, none⟩) cA cB 64 (c6 - k * 64) Dy ((L.next + k : Nat) : Int) _ HPX.out.ref hcut (by omega) (fun g' o' e _ => by cases e; exact fun e => HG6T.out m (.inr (.inl (.inl rfl))) e.symm) HPX.out.lt (by rw [HWR.out.calls]; have := HBE.out.mcalls; omega)
              have hst := HWR.out.step (by rw [HBE.out.mn]; have := HL.out.1; omega)
              rw [Nat.mul_comm 64 k] at hst
              rw [hi] at hwr hst
              have HWRT := Lib.hid hwr
              have HST := Lib.hid hst
              clear hcut hwr hi hst
              go_wp2_with fail
              rw [show (k + 1) * 64 - k * 64 = 64 by omega]
              go_at_call 59
              refine HWRT.out.mono ?_
              rintro e w7 ⟨rfl, hr7, hu7⟩
              have HP7 := Lib.hid (HPX.out.refw HAP.out hu7 hr7)
              have HY7 := Lib.hid (HYX.out.upd hu7 (fun g' o' e _ hk => by cases e; exact HG6T.out _ (.inr (.inl hk)) rfl))
              clear hr7 hu7
              go_wp2_with fail
              refine ⟨⟨k + 1, _, by go_num, by omega, HST, HP7, HY7⟩, ?_⟩
              show nd - ((k : Int) + 1).toNat < nd - (k : Int).toNat
              omega
            · obtain rfl : k = nd := by omega
              obtain ⟨x, hx⟩ : ∃ x, x = L.m (ct / 8) := ⟨_, rfl⟩
              have hx8 : x < 256 := by rw [hx]; exact HPX.out.mlt _
              have kg : wr.cell? ⟨mb, ct / 8, none⟩ = some (.int .u8 (x : Int)) := by rw [hx]; exact HPX.out.mrk.cell (by omega)
              have fg : wr.frozen? ⟨mb, ct / 8, none⟩ = false := HPX.out.mrk.frozen _
              have i1 : (0 : Int) ≤ (ct : Int) / 8 := by omega
              have i2 : (ct : Int) / 8 < 64 := by omega
              have w1' : IntKind.i64.wrap ((ct : Int) / 8) = (ct : Int) / 8 := by rw [IntKind.wrap_i64]; omega
              have w2' : IntKind.i64.wrap ((ct : Int) % 8) = (ct : Int) % 8 := by rw [IntKind.wrap_i64]; omega
              have w3' : IntKind.i64.wrap (7 - (ct : Int) % 8) = 7 - (ct : Int) % 8 := by rw [IntKind.wrap_i64]; omega
              have w0' : (ct : Int).tmod 8 = (ct : Int) % 8 := Int.tmod_eq_emod_of_nonneg (by omega)
              have i3 : (0 : Int) ≤ 7 - (ct : Int) % 8 := by omega
              have i4 : ((ct : Int) / 8).toNat = ct / 8 := by omega
              have HX := Lib.hid hx
              clear hx
              go_wp2_with fail
              rw [or_mark x ct hx8]
              have hy8 : x ||| 2 ^ (7 - ct % 8) < 256 := Nat.or_lt_two_pow (n := 8) hx8 (Nat.pow_lt_pow_right (by decide) (by omega))
              have hp3 := (HPX.out.put HAP.out (ct / 8) (x ||| 2 ^ (7 - ct % 8)) hy8).marks (M' := Wl.setMark L.m L.n) (fun j _ => by
                unfold Wl.setMark
                rw [HL.out.2, HX.out]
                by_cases e : j = ct / 8
                · rw [if_pos e, if_pos e, e]
                · rw [if_neg e, if_neg e]) (fun j => Wl.setMark_lt HPX.out.mlt _ _)
              obtain ⟨W3, hW3⟩ : ∃ W3, W3 = wr.setCell ⟨mb, ct / 8, none⟩ (.int .u8 ((x ||| 2 ^ (7 - ct % 8) : Nat) : Int)) := ⟨_, rfl⟩
              rw [← hW3] at hp3 ⊢
              have hwr := RefWriteM_any W3 (pT p r s g l m mb A B) m A B (some ⟨mb, 0, none⟩) cA cB 64 64 Dy 1 _ hp3.ref hp3.mbytes (by omega) (fun g' o' e _ => by cases e; exact fun e => HAP.out.rm m (.inl rfl) e.symm) hp3.lt (by rw [HWR.out.calls]; have := HBE.out.mcalls; omega)
              have HP3 := Lib.hid hp3
              have HWRT := Lib.hid hwr
              clear hp3 hwr hW3 kg fg w0' w1' w2' w3' i1 i2 i3 i4 HX
              go_at_call 59
              refine HWRT.out.mono ?_
              rintro e w7 ⟨rfl, hr7, hu7⟩
              have HP7 := Lib.hid (HP3.out.refw HAP.out hu7 hr7)
              have HA7 := Lib.hid (HAPP.out w7 HP7.out.sys HP7.out.bel)
              have kr7 := HK1.out w7 HP7.out.bel
              have HWR2 : Hid (Wl.Wr Dm Dy L.next (fun k => (Wl.bin b).getD k 0) (Wl.need b.length)) := Lib.hid (by rw [← HBL.out, ← HND.out, ← HF.out]; exact HWR.out)
              clear hr7 hu7 HWRT HP3 HLen HFree
              go_wp2_with (first
                | (go_at_call 50
                   refine HA7.out.mono ?_
                   rintro e w8 ⟨D5, L5, rfl, hs5, hu5, hn5, hf5, hfr5, hto5, _, _, _, hdn5⟩
                   have hdone := hdn5 trivial
                   obtain ⟨hbe5, hmk5⟩ := HBE.out.step (by rw [← HBL.out]; exact hshort) hdone hfr5 hto5 hf5 hn5 HWR2.out
                   have HBE5 := Lib.hid hbe5
                   have HP8 := Lib.hid ((HP7.out.app HAP.out hu5 hs5).marks hmk5 hs5.lg.mlt)
                   have HL5 : Hid (L5.next = (us + k) + 1 ∧ L5.n = ct + 1) := Lib.hid ⟨by rw [hdone.next, HL.out.1, ← HBL.out, ← HND.out]; omega, by rw [hdone.n, HL.out.2]⟩
                   have hLen5 := LLen_any l g cap p L5 w8 hs5.lg
                   have hFree5 := LFree_any l g cap p L5 w8 hs5.lg (by have := hbe5.nx; rw [hbe5.to]; omega) (by rw [hbe5.to]; omega)
                   rw [HL5.out.2] at hLen5
                   rw [HL5.out.1, hbe5.to, show ((M + 1 - (us + k + 1) : Nat) : Int) = (M : Int) - ((us : Int) + (k : Int)) by omega] at hFree5
                   rw [show ((ct + 1 : Nat) : Int) = (ct : Int) + 1 by omega] at hLen5
                   have HLen5 := Lib.hid hLen5
                   have HFree5 := Lib.hid hFree5
                   clear hs5 hu5 hn5 hf5 hfr5 hto5 hdn5 hdone hbe5 hmk5 hLen5 hFree5)
                | (go_at_call 57; refine HLen5.out.mono ?_; rintro e w9 ⟨rfl, rfl⟩)
                | (go_at_call 58; refine HFree5.out.mono ?_; rintro e w9 ⟨rfl, mm, rfl⟩))
              refine ⟨⟨i + 1, ct + 1, us + k, _, _, _, _, by go_num, by go_num, by go_num, by omega, by omega, by omega, by omega, HL5, HBE5, Lib.hid (HP8.out.below ⟨rfl, rfl, rfl, Nat.le_refl _, fun _ _ => rfl⟩)⟩, ?_⟩
              show 40 - ((i : Int) + 1).toNat < 40 - (i : Int).toNat
              omega
    · have hbe := HBE.out
      have hpb := HPB.out
      have hbd : Below wr.heap.size wr wr.drew := ⟨rfl, rfl, rfl, Nat.le_refl _, fun _ _ => rfl⟩
      have hall := all_any p r s M2 M2 D wr.drew hpb.sys.d.drew hbe.holds.area.up
      have hdn : D.n = M2 := by rw [hbe.dn, HM3.out]
      have hdm : Dm.n = M2 := by rw [hbe.mn, HM3.out]
      rw [hdn] at hall
      have hlist : Wl.part Dm.R 0 (64 * M2) = Wl.part D.R 0 (64 * M2) := Wl.part_congr fun j _ hj => hbe.same j (by have := HM3.out; omega)
      have hlt8 : ∀ x ∈ Wl.part D.R 0 (64 * M2), x < 256 := Wl.part_lt hpb.sys.d.ok.R _ _
      have harea : Hid (∀ W, Below wr.heap.size wr W → Calls Try.prog 60 #[.pointer (some ⟨m, 0, none⟩), .int .i64 0, .int .i64 (M2 : Int)] W fun e w' => ∃ v, e = .returned v ∧ Own w' W.heap.size v (Wl.part D.R 0 (64 * M2)) ∧ Below W.heap.size W w') := Lib.hid (fun W hW => by
        have := RefArea_any W _ m A B cA cB Dm M2 (hpb.ref.below hW) (by omega) (by omega)
        rw [hlist] at this
        exact this)
      obtain ⟨bs, hbs⟩ : ∃ bs, bs = Wl.part D.R 0 (64 * M2) := ⟨_, rfl⟩
      rw [← hbs] at hall hlt8
      simp only [← hbs] at harea
      have HALL := Lib.hid hall
      have HLT8 := Lib.hid hlt8
      obtain ⟨sb, hsb⟩ : ∃ sb, sb = strOf bs := ⟨_, rfl⟩
      have HSB := Lib.hid hsb
      have hq : (sb.toList == sb.toList) = true := beq_self_eq_true _
      have HBD := Lib.hid hbd
      have hwrap : IntKind.i64.wrap (M2 : Int) = (M2 : Int) := by rw [IntKind.wrap_i64]; omega
      have HBEL := Lib.hid hpb.bel
      clear hall hlt8 hbs hlist hdn hdm hbe hpb hsb hbd
      rcases (show (ln ≤ i) ∨ (i < ln ∧ i = 40) by omega) with h1 | ⟨h1, rfl⟩
      · have h1' : (ln : Int) ≤ (i : Int) := by omega
        go_wp2_with fail
        go_region_with (first
          | (go_at_call 55
             refine HALL.out.mono ?_
             rintro e w5 ⟨v5, rfl, ho5, hb5⟩
             obtain ⟨A5, c5, rfl, hy5, _⟩ := ho5.bytes HLT8.out
             have HY5 := Lib.hid hy5
             have HB5 : Hid (Below wr.heap.size wr w5) := Lib.hid (HBD.out.trans hb5)
             have HC5 : Hid (∀ W, Below w5.heap.size w5 W → (convert 22 9 (.slice A5 bs.length c5)).run Try.prog W = .ok (.string sb) W) := Lib.hid (fun W hW => by
               rw [HSB.out]
               exact (HY5.out.below hW).to_string 22 9 5 c5 Try.underlying22 Try.underlying5 Try.underlying9)
             have hc5 := HC5.out w5 (Below.refl _ _)
             have HAR := Lib.hid (harea.out w5 HB5.out)
             clear ho5 hb5 hy5)
          | (go_at_call 60
             refine HAR.out.mono ?_
             rintro e w6 ⟨v6, rfl, ho6, hb6⟩
             obtain ⟨A6, c6, rfl, hy6, _⟩ := ho6.bytes HLT8.out
             have hc56 := HC5.out w6 hb6
             have HB6 : Hid (Below wr.heap.size wr w6) := Lib.hid (HB5.out.trans (hb6.mono HB5.out.size))
             have hc6 : (convert 22 9 (.slice A6 bs.length c6)).run Try.prog w6 = .ok (.string sb) w6 := by
               rw [HSB.out]
               exact hy6.to_string 22 9 5 c6 Try.underlying22 Try.underlying5 Try.underlying9
             clear ho6 hb6 hy6)
          | (go_at_call 47
             refine (awake3_any _).mono ?_
             rintro e w7 ⟨rfl, hb7⟩
             have HB7 : Hid (Below wr.heap.size wr w7) := Lib.hid (HB6.out.trans (hb7.mono HB6.out.size))
             clear hb7))
        all_goals
          go_wp2_with fail
          go_ret
          exact ⟨rfl, HBEL.out.trans (HB7.out.mono HBEL.out.size)⟩
      · have h1' : ((40 : Nat) : Int) < (ln : Int) := by omega
        go_wp2_with fail
        go_region_with (first
          | (go_at_call 55
             refine HALL.out.mono ?_
             rintro e w5 ⟨v5, rfl, ho5, hb5⟩
             obtain ⟨A5, c5, rfl, hy5, _⟩ := ho5.bytes HLT8.out
             have HY5 := Lib.hid hy5
             have HB5 : Hid (Below wr.heap.size wr w5) := Lib.hid (HBD.out.trans hb5)
             have HC5 : Hid (∀ W, Below w5.heap.size w5 W → (convert 22 9 (.slice A5 bs.length c5)).run Try.prog W = .ok (.string sb) W) := Lib.hid (fun W hW => by
               rw [HSB.out]
               exact (HY5.out.below hW).to_string 22 9 5 c5 Try.underlying22 Try.underlying5 Try.underlying9)
             have hc5 := HC5.out w5 (Below.refl _ _)
             have HAR := Lib.hid (harea.out w5 HB5.out)
             clear ho5 hb5 hy5)
          | (go_at_call 60
             refine HAR.out.mono ?_
             rintro e w6 ⟨v6, rfl, ho6, hb6⟩
             obtain ⟨A6, c6, rfl, hy6, _⟩ := ho6.bytes HLT8.out
             have hc56 := HC5.out w6 hb6
             have HB6 : Hid (Below wr.heap.size wr w6) := Lib.hid (HB5.out.trans (hb6.mono HB5.out.size))
             have hc6 : (convert 22 9 (.slice A6 bs.length c6)).run Try.prog w6 = .ok (.string sb) w6 := by
               rw [HSB.out]
               exact hy6.to_string 22 9 5 c6 Try.underlying22 Try.underlying5 Try.underlying9
             clear ho6 hb6 hy6)
          | (go_at_call 47
             refine (awake3_any _).mono ?_
             rintro e w7 ⟨rfl, hb7⟩
             have HB7 : Hid (Below wr.heap.size wr w7) := Lib.hid (HB6.out.trans (hb7.mono HB6.out.size))
             clear hb7))
        all_goals
          go_wp2_with fail
          go_ret
          exact ⟨rfl, HBEL.out.trans (HB7.out.mono HBEL.out.size)⟩
section
open Go.ChangeShapes Go.WideShapes Go.ChangeAt
theorem walPlays_walk {H : Type} {enc : TypeId × Value → H} (W : World) {base : Nat} (v0 v1 : Value) {d0 d1 : DataW H} {p0 p1 : List MemPlace} (h0 : DataW.Trod enc Try.prog W 0 (fun _ => true) true 3 v0 d0 p0) (o0 : Value.okWide Try.prog W .any base 3 v0)
    (h1 : DataW.Trod enc Try.prog W 0 (fun _ => true) true 57 v1 d1 p1) (o1 : Value.okWide Try.prog W .any base 57 v1) (hk : Rows.uptoBulkAll [d0, d1] ≤ 1048576) :
    Calls Try.prog 18 #[v0, v1] W fun e w' => e = .returned (.bool true) ∧ Below W.heap.size W w' := by
  obtain ⟨n, rfl, rfl, rfl, wn⟩ := open_int Try.underlying3 o0 h0
  obtain ⟨La, ha, hla, hla2⟩ := open_rows h1 o1
  simp only [Rows.uptoBulkAll] at hk
  exact walPlays_any n v1 La W ha (by omega) (fun b hb => by have := hla2 b hb; omega)
end
end Go.Proofs.Ytiiegimnnngnnaa
