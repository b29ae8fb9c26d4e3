/- chandlerref4.Stanzas: the walk. -/
import Derived.Test.YtjkaigfpjebfbaaDoorSt10
import Derived.RegionTactic
import Derived.StillTailTactics
namespace Go.Proofs.YtjkaigfpjebfbaaDoor
open Go.RowKit
set_option linter.unusedVariables false

set_option maxRecDepth 100000 in
set_option maxHeartbeats 16000000 in
theorem Stanzas_any (A : Option Addr) (n cp : Nat) (bs : List Nat) (w : World) (hb : Bytes w A n bs) (hcp : n ≤ cp) (hn : n < 4294967281) :
    Calls Tryd.prog 12 #[.slice A n cp] w fun e w' =>
      ∃ v, e = .returned (.tuple #[v, .agg #[.int .i64 (errS (parseS (toS bs))).1, .int .i64 ((errS (parseS (toS bs))).2 : Int)]]) ∧ StzAt w' v (gotS (parseS (toS bs))) ∧ Below w.heap.size w w' := by
  have HLN : Hid (∀ W, Below w.heap.size w W → Calls Tryd.prog 26 #[.slice A n cp] W fun e w' => ∃ v, e = .returned (.tuple #[v, .agg #[.int .i64 ((linesErr (toS bs)).1 : Int), .int .i64 ((linesErr (toS bs)).2 : Int)]]) ∧ TextsAt w' v (linesGot (toS bs)) ∧ Below W.heap.size W w') := Lib.hid (fun W hW => RefLines_any A n cp bs W (hb.below hW) hcp hn)
  have hsm := got_small (s := toS bs)
  have hps : parseS (toS bs) = if (linesErr (toS bs)).1 = 0 then runS (linesGot (toS bs)) 0 (.shut []) else .error (((linesErr (toS bs)).1 : Int), (linesErr (toS bs)).2) := rfl
  obtain ⟨R, hR⟩ : ∃ R, R = parseS (toS bs) := ⟨_, rfl⟩
  rw [← hR] at hps ⊢
  obtain ⟨M, hMM⟩ : ∃ M, M = linesGot (toS bs) := ⟨_, rfl⟩
  obtain ⟨z, hz⟩ : ∃ z, z = linesErr (toS bs) := ⟨_, rfl⟩
  rw [← hMM, ← hz] at HLN hps hsm
  clear hR hMM hz
  obtain ⟨b0, hb0⟩ : ∃ b0, b0 = w.heap.size := ⟨_, rfl⟩
  obtain ⟨W0, hW0⟩ : ∃ W0, W0 = w.alloc (.cells #[.int .i64 0, .int .i64 0] 26) := ⟨_, rfl⟩
  have HAT : Hid (Blk W0 b0 26 #[.int .i64 0, .int .i64 0]) := Lib.hid (by rw [hW0, hb0]; exact Blk.new w _ _)
  have HB0 : Hid (Below b0 w W0) := Lib.hid (by rw [hW0, hb0]; exact (Below.refl _ _).alloc (Nat.le_refl _) _)
  have HW0S : Hid (W0.heap.size = b0 + 1) := Lib.hid (by rw [hW0, hb0]; simp)
  have HL0 := Lib.hid (HLN.out W0 (by rw [← hb0]; exact HB0.out))
  clear hb HLN hcp
  by_cases h0 : z.1 = 0
  case neg =>
    have HR : Hid (R = .error ((z.1 : Int), z.2)) := Lib.hid (by rw [hps, if_neg h0])
    have q1 : ((z.1 : Int) != 0) = true := (bne_iff_ne).2 (by omega)
    clear hps h0 hsm
    go_enter Tryd.func12, Tryd.ntmps12
    go_wp2_with (go_at_call 26; rw [← hb0, ← hW0]; refine HL0.out.mono ?_; rintro e w1 ⟨v, rfl, ht, hb1⟩; have HB1 := Lib.hid hb1; have HAT1 := Lib.hid (HAT.out.below hb1 HAT.out.lt); clear hb1 ht)
    obtain ⟨b5, hb5⟩ : ∃ b5, b5 = w1.heap.size := ⟨_, rfl⟩
    obtain ⟨w2, hw2⟩ : ∃ w2, w2 = w1.alloc (.cells #[.int .i64 (z.1 : Int), .int .i64 (z.2 : Int)] 26) := ⟨_, rfl⟩
    have HA5 : Hid (Blk w2 b5 26 #[.int .i64 (z.1 : Int), .int .i64 (z.2 : Int)]) := Lib.hid (by rw [hw2, hb5]; exact Blk.new w1 _ _)
    have HA0 : Hid (Blk w2 b0 26 #[.int .i64 0, .int .i64 0]) := Lib.hid (by rw [hw2]; exact HAT1.out.alloc _)
    have HB2 : Hid (Below b0 w w2) := Lib.hid (by rw [hw2]; exact (HB0.out.trans (HB1.out.mono (by rw [hW0, hb0]; simp))).alloc (by have := HB0.out.size; have := HB1.out.size; rw [hb0] at *; omega) _)
    have k0 : w2.cell? ⟨b0, 0, none⟩ = some (.int .i64 0) := HA0.out.cell 0
    have k1 : w2.cell? ⟨b0, 1, none⟩ = some (.int .i64 0) := HA0.out.cell 1
    have k2 : w2.cell? ⟨b5, 0, none⟩ = some (.int .i64 (z.1 : Int)) := HA5.out.cell 0
    have k3 : w2.cell? ⟨b5, 1, none⟩ = some (.int .i64 (z.2 : Int)) := HA5.out.cell 1
    have k4 : w2.frozen? ⟨b0, 0, none⟩ = false := HA0.out.frozen 0
    have k5 : w2.frozen? ⟨b0, 1, none⟩ = false := HA0.out.frozen 1
    rw [← hb0, ← hw2, ← hb5]
    have HBW := Lib.hid hb0
    clear hw2 hb5 HB1 HAT1 HAT HL0 hW0 hb0
    go_region
    go_wp2_with fail
    refine ret_at Tryd.results12 b0 _ ((HA0.out.set_ 0 _).set_ 1 _) rfl rfl rfl ?_
    rw [HR.out]
    rw [← HBW.out]
    exact ⟨_, rfl, StzAt.nil _, ((HB2.out.setCell (p := ⟨b0, 0, none⟩) (Nat.le_refl _) _).setCell (p := ⟨b0, 1, none⟩) (Nat.le_refl _) _).drew⟩
  have HR : Hid (R = runS M 0 (.shut [])) := Lib.hid (by rw [hps, if_pos h0])
  obtain ⟨hM1, hM2⟩ := hsm h0
  have HM2 := Lib.hid hM2
  have q1 : ((z.1 : Int) != 0) = false := by rw [h0]; rfl
  clear hps h0 hsm hM2
  go_enter Tryd.func12, Tryd.ntmps12
  go_upto_region 4 with (go_at_call 26; rw [← hb0, ← hW0]; refine HL0.out.mono ?_; rintro e w1 ⟨v, rfl, ht, hb1⟩; have HB1 := Lib.hid hb1; have HTX := Lib.hid ht; have HAT1 := Lib.hid (HAT.out.below hb1 HAT.out.lt); clear hb1 ht)
  rw [← hb0]
  obtain ⟨w2, hw2⟩ : ∃ w2, w2 = w1.alloc (.cells #[.int .i64 (z.1 : Int), .int .i64 (z.2 : Int)] 26) := ⟨_, rfl⟩
  have HB2 : Hid (Below (b0 + 1) W0 w2) := Lib.hid (by
    have h1 := HB1.out.mono (Nat.le_of_eq HW0S.out.symm)
    rw [hw2]
    exact h1.alloc (Nat.le_trans (Nat.le_of_eq HW0S.out.symm) h1.size) _)
  have HTX2 : Hid (TextsAt w2 v M) := Lib.hid (by rw [hw2]; exact HTX.out.later ((Below.refl _ _).alloc (Nat.le_refl _) _))
  rw [← hw2]
  have HBW := Lib.hid hb0
  clear hw2 HB1 HAT1 HL0 hW0 hb0 HTX
  obtain ⟨ao, cap, rfl, hc⟩ := HTX2.out
  have HC := Lib.hid hc
  clear hc
  obtain ⟨B, hB⟩ : ∃ B, B = w2.heap.size := ⟨_, rfl⟩
  have HQ : Hid (b0 + 1 ≤ B) := Lib.hid (by rw [hB]; exact Nat.le_trans (Nat.le_of_eq HW0S.out.symm) HB2.out.size)
  have HQ2 := Lib.hid hB
  clear hB
  go_wp2_with fail
  go_loopw [27, 6, 7] (fun p v o wr => ∃ (i : Nat) (σ : PS) (b : Bool), p = .int .i64 i ∧ o = .bool b ∧ i ≤ M.length ∧ Hid (LdS wr B v b σ ∧ Small i σ ∧ Below B w2 wr ∧ R = runS (M.drop i) i σ)) (fun p _ _ _ => M.length - (match p with | .int _ a => a.toNat | _ => 0))
  case atStart => exact ⟨0, _, false, rfl, rfl, Nat.zero_le _, Lib.hid ⟨LdS.new w2 B, Nat.zero_le _, Below.refl _ _, HR.out⟩⟩
  case round =>
    obtain ⟨i, σ, b, rfl, rfl, hi, HI⟩ := hrel
    have HBWR : Hid (Below (b0 + 1) W0 wr) := Lib.hid (HB2.out.trans (HI.out.2.2.1.mono HQ.out))
    have HAW : Hid (Blk wr b0 26 #[.int .i64 0, .int .i64 0]) := Lib.hid (HAT.out.below HBWR.out (by omega))
    obtain ⟨vA, vn, vc, rfl⟩ := HI.out.1.shape
    by_cases hlt : i < M.length
    case neg =>
      have hln : ¬ (i : Int) < (M.length : Int) := by omega
      have HE : Hid (R = .ok σ) := Lib.hid (by rw [HI.out.2.2.2, List.drop_of_length_le (by omega)]; rfl)
      obtain ⟨G, hst, hGq⟩ := HI.out.1.res
      have HST := Lib.hid hst
      have HGQ := Lib.hid hGq
      clear hst hGq
      have k0 : wr.cell? ⟨b0, 0, none⟩ = some (.int .i64 0) := HAW.out.cell 0
      have k1 : wr.cell? ⟨b0, 1, none⟩ = some (.int .i64 0) := HAW.out.cell 1
      have k4 : wr.frozen? ⟨b0, 0, none⟩ = false := HAW.out.frozen 0
      have k5 : wr.frozen? ⟨b0, 1, none⟩ = false := HAW.out.frozen 1
      go_wp2_with fail
      refine ret_at Tryd.results12 b0 _ ((HAW.out.set_ 0 _).set_ 1 _) rfl rfl rfl ?_
      rw [HE.out, ← HBW.out]
      have hu : Upd (fun k => k = b0) wr ((wr.setCell ⟨b0, 0, none⟩ (.int .i64 0)).setCell ⟨b0, 1, none⟩ (.int .i64 0)) := ((Upd.refl (fun k => k = b0) wr).setCell (p := ⟨b0, 0, none⟩) (.inl rfl) _).setCell (p := ⟨b0, 1, none⟩) (.inl rfl) _
      refine ⟨_, rfl, ⟨G, ?_⟩, ((HB0.out.trans (HBWR.out.mono (by omega))).setCell (p := ⟨b0, 0, none⟩) (Nat.le_refl _) _).setCell (p := ⟨b0, 1, none⟩) (Nat.le_refl _) _⟩
      exact HST.out.upd hu (fun k hk e => by have := HGQ.out k hk; have := HQ.out; omega)
    have hln : (i : Int) < (M.length : Int) := by omega
    obtain ⟨g, rfl, hcg⟩ := HC.out i hlt
    have k1 : wr.cell? ⟨g, i, none⟩ = some (.string M[i]) := by
      have hg := World.block_lt_of_cell? w2 _ hcg
      have h1 := HQ2.out
      rw [HI.out.2.2.1.cell (p := ⟨g, i, none⟩) (by show g < B; have : g < w2.heap.size := hg; omega)]
      exact hcg
    have hdr := List.drop_eq_getElem_cons hlt
    obtain ⟨s, hs⟩ : ∃ s, s = M[i] := ⟨_, rfl⟩
    have hss : s.size ≤ 1048576 := by have := HM2.out s (by rw [hs]; exact List.getElem_mem hlt); omega
    rw [← hs] at k1 hdr
    have hbw : B ≤ wr.heap.size := by have h1 := HQ2.out; have h2 := HI.out.2.2.1.size; omega
    have HD := Lib.hid hdr
    have HIM := Lib.hid hlt
    have HRN : Hid (∀ σ', takeS s ((i : Int) + 1) σ = .ok σ' → Small (i + 1) σ' ∧ R = runS (M.drop (i + 1)) (i + 1) σ') := Lib.hid (fun σ' h => ⟨HI.out.2.1.take (by omega) hss h, by rw [HI.out.2.2.2, hdr]; exact runS_ok h⟩)
    have HRE : Hid (∀ k, takeS s ((i : Int) + 1) σ = .error k → R = .error (k, i + 1)) := Lib.hid (fun k h => by rw [HI.out.2.2.2, hdr]; exact runS_err h)
    clear hcg hs hdr HC HTX2
    by_cases hr : isRem s = true
    · obtain ⟨z0, hx⟩ := isRem_facts hr
      have g0 := byteAt_get s 0 z0
      rw [hx] at g0
      have g' : ((s[0]'z0).toNat : Nat) = 35 := g0.symm
      have hz : (0 : Int) < (s.size : Int) := by omega
      have HN := Lib.hid (HRN.out σ (by unfold takeS; rw [if_pos hr]))
      clear g0 hx hr HRN HRE
      go_wp2_with fail
      refine ⟨⟨i + 1, σ, b, by go_num, rfl, by omega, Lib.hid ⟨HI.out.1, HN.out.1, HI.out.2.2.1, HN.out.2⟩⟩, ?_⟩
      show M.length - ((i : Int) + 1).toNat < M.length - (i : Int).toNat
      omega
    have hr : isRem s = false := by simpa using hr
    obtain ⟨x, hx⟩ : ∃ x, x = trimB s := ⟨_, rfl⟩
    have htr := fun W => RefTrim_any s W (by omega)
    rw [← hx] at htr
    have HTR := Lib.hid htr
    have hbe := blank_eq x
    have hsz : x.size ≠ 0 → 0 < s.size := fun h => trim_some (by rw [← hx]; exact h)
    clear htr
    by_cases hb : x.size = 0
    · have HN := Lib.hid (HRN.out (.shut σ.all) (by unfold takeS; rw [if_neg (by rw [hr]; simp), if_pos (by rw [← hx]; exact hb)]))
      have HLD := Lib.hid HI.out.1.blank
      rw [decide_eq_true hb] at hbe
      clear hx hb HRN HRE hsz
      by_cases z0 : 0 < s.size
      · have g0 := byteAt_get s 0 z0
        have g' : ((s[0]'z0).toNat : Nat) = byteAt s 0 := g0.symm
        have hy : byteAt s 0 ≠ 35 := fun e => by unfold isRem at hr; rw [decide_eq_true z0, decide_eq_true e] at hr; cases hr
        have q35 : ((byteAt s 0 : Int) == 35) = false := by rw [beq_eq_false_iff_ne]; omega
        have hz : (0 : Int) < (s.size : Int) := by omega
        obtain ⟨y, hyy⟩ : ∃ y, y = byteAt s 0 := ⟨_, rfl⟩
        rw [← hyy] at g' q35
        clear g0 hy hyy hr
        go_wp2_with (go_at_call 21; refine (HTR.out _).mono ?_; rintro e w3 ⟨rfl, rfl⟩)
        refine ⟨⟨i + 1, .shut σ.all, false, by go_num, rfl, by omega, Lib.hid ⟨HLD.out, HN.out.1, HI.out.2.2.1, HN.out.2⟩⟩, ?_⟩
        show M.length - ((i : Int) + 1).toNat < M.length - (i : Int).toNat
        omega
      · have hz : ¬ (0 : Int) < (s.size : Int) := by omega
        clear z0 hr
        go_wp2_with (go_at_call 21; refine (HTR.out _).mono ?_; rintro e w3 ⟨rfl, rfl⟩)
        refine ⟨⟨i + 1, .shut σ.all, false, by go_num, rfl, by omega, Lib.hid ⟨HLD.out, HN.out.1, HI.out.2.2.1, HN.out.2⟩⟩, ?_⟩
        show M.length - ((i : Int) + 1).toNat < M.length - (i : Int).toNat
        omega
    have z0 := hsz hb
    have HTS : Hid (takeS s ((i : Int) + 1) σ = if isWh s then furS s σ else fieldS s ((i : Int) + 1) σ) := Lib.hid (by unfold takeS; rw [if_neg (by rw [hr]; simp), if_neg (by rw [← hx]; exact hb)])
    rw [HTS.out] at HRN HRE
    rw [decide_eq_false hb] at hbe
    have g0 := byteAt_get s 0 z0
    have g' : ((s[0]'z0).toNat : Nat) = byteAt s 0 := g0.symm
    have hy : byteAt s 0 ≠ 35 := fun e => by unfold isRem at hr; rw [decide_eq_true z0, decide_eq_true e] at hr; cases hr
    have q35 : ((byteAt s 0 : Int) == 35) = false := by rw [beq_eq_false_iff_ne]; omega
    have hz : (0 : Int) < (s.size : Int) := by omega
    have hwh : isWh s = wB (byteAt s 0) := by unfold isWh; rw [decide_eq_true z0]; rfl
    have hy256 := byteAt_lt s 0
    obtain ⟨y, hyy⟩ : ∃ y, y = byteAt s 0 := ⟨_, rfl⟩
    rw [← hyy] at g' q35 hwh hy256
    have hw := fun W => refWhite_any y W hy256
    rw [← hwh] at hw
    have HW := Lib.hid hw
    clear g0 hy hyy hr hx hb hsz hwh hy256 hw HTS
    by_cases hwt : isWh s = true
    · rw [hwt, if_pos rfl] at HRN HRE
      rw [hwt] at HW
      clear hwt
      cases σ with
      | shut L =>
        have HE := Lib.hid (HRE.out 3 rfl)
        obtain ⟨G, A', c', xs, e1, e2, _⟩ := HI.out.1
        subst e2
        clear e1 HRN HRE
        have k0 : wr.cell? ⟨b0, 0, none⟩ = some (.int .i64 0) := HAW.out.cell 0
        have k2 : wr.cell? ⟨b0, 1, none⟩ = some (.int .i64 0) := HAW.out.cell 1
        have k4 : wr.frozen? ⟨b0, 0, none⟩ = false := HAW.out.frozen 0
        have k5 : wr.frozen? ⟨b0, 1, none⟩ = false := HAW.out.frozen 1
        go_wp2_with (first | (go_at_call 21; refine (HTR.out _).mono ?_; rintro e w3 ⟨rfl, rfl⟩) | (go_at_call 27; refine (HW.out _).mono ?_; rintro e w4 ⟨rfl, rfl⟩))
        refine ret_at Tryd.results12 b0 _ ((HAW.out.set_ 0 _).set_ 1 _) rfl rfl rfl ?_
        rw [HE.out, ← HBW.out]
        exact ⟨_, rfl, StzAt.nil _, ((HB0.out.trans (HBWR.out.mono (by omega))).setCell (p := ⟨b0, 0, none⟩) (Nat.le_refl _) _).setCell (p := ⟨b0, 1, none⟩) (Nat.le_refl _) _⟩
      | opn Lp l0 Fp nm ls =>
        obtain ⟨i0, hi0, hz0, hz1, hz2⟩ := info_parts str_row
        have HN := Lib.hid (HRN.out _ rfl)
        obtain ⟨G, ko, co, kf, cf, kl, cl, xs, fx, e1, e2, ho, hG⟩ := HI.out.1
        injection e1 with e1 e1' e1''
        subst e1 e1' e1'' e2
        have HO := Lib.hid ho
        have HGQ := Lib.hid hG
        clear ho hG HRN HRE
        obtain ⟨X, hX⟩ : ∃ X, X = trimR (s.extract 1 s.size) := ⟨_, rfl⟩
        have HT := Lib.hid (fun W => tail_any (s.extract 1 s.size) W (by rw [ByteArray.size_extract]; omega))
        rw [← hX] at HT
        obtain ⟨x2, hx2⟩ : ∃ x, x = furT s := ⟨_, rfl⟩
        have HX : Hid (x2 = if X = dotB then ⟨#[]⟩ else X) := Lib.hid (by rw [hx2, hX]; rfl)
        rw [← hx2] at HN
        have hex : (s.extract 1 s.size) = s.extract 1 s.size := rfl
        have hp1 : (1 : Int) ≤ (s.size : Int) := by omega
        clear hX hx2
        go_upto_if 58 with (first | (go_at_call 21; refine (HTR.out _).mono ?_; rintro e w3 ⟨rfl, rfl⟩) | (go_at_call 27; refine (HW.out _).mono ?_; rintro e w4 ⟨rfl, rfl⟩) | (go_at_call 28; refine (HT.out _).mono ?_; rintro e w5 ⟨rfl, rfl⟩))
        have HPOS := Lib.hid (And.intro z0 hp1)
        clear HT k1 hbe HTR HW g' q35 hz hp1
        go_cut [10] (fun v wx => v = .string x2 ∧ wr = wx)
        case first =>
          go_wp2_with fail
          · go_meet
            have h9 : (X.toList == [46]) = true := by assumption
            rw [← dot_list, str_eq, decide_eq_true_eq] at h9
            exact ⟨by rw [HX.out, if_pos h9], rfl⟩
          · go_meet
            have h9 : (X.toList == [46]) = false := by assumption
            rw [← dot_list, str_eq, decide_eq_false_iff_not] at h9
            exact ⟨by rw [HX.out, if_neg h9], rfl⟩
        case rest =>
          obtain ⟨rfl, rfl⟩ := hcut
          obtain ⟨m, hm⟩ : ∃ m, m = Lp.length := ⟨_, rfl⟩
          obtain ⟨p, hp⟩ : ∃ p, p = Fp.length := ⟨_, rfl⟩
          obtain ⟨r, hr⟩ : ∃ r, r = ls.length := ⟨_, rfl⟩
          have HM := Lib.hid hm
          have HPL := Lib.hid hp
          have HRL := Lib.hid hr
          have hx := HO.out.xlen
          rw [← hm, ← hp] at hx
          have kso : wr.cell? ⟨ko, m * 2 + 1, none⟩ = some (.slice (some ⟨kf, 0, none⟩) (p + 1) cf) := by
            rw [HO.out.o.cellAt (m * 2 + 1) (by rw [hm]; omega), hp, ← hx.1]
            simp
          have ksf : wr.cell? ⟨kf, p * 2 + 1, none⟩ = some (.slice (some ⟨kl, 0, none⟩) r cl) := by
            rw [HO.out.f.cellAt (p * 2 + 1) (by rw [hp]; omega), hr, ← hx.2]
            simp
          have fsf : wr.frozen? ⟨kf, p * 2 + 1, none⟩ = false := HO.out.f.frozenAt _
          have hsm := HI.out.2.1
          have hLp : m ≤ 1048576 := by have := hsm.1; omega
          have hFp : p ≤ 1048576 := by have := hsm.2.1; omega
          have hls : r ≤ 1048576 := by have := hsm.2.2.1; omega
          have b1 : (m : Int) < (m : Int) + 1 := by omega
          have b2 : (p : Int) < (p : Int) + 1 := by omega
          have HL2 : Hid (wr.ownsRow B 9 1 (.slice (some ⟨kl, 0, none⟩) r cl) r (ls.map Value.string)) := Lib.hid (by rw [hr]; exact HO.out.l)
          rw [← hm]
          clear hm hp hr hx HX hsm
          go_wp2_with (at_builtin; refine wpList_append_any _ rfl (.tmp 76) (.tmp 78) 38 rfl B 9 i0 _ 1 16 Tryd.underlying38 hi0 hz0 hz1 hz2 rfl (by decide) (.slice (some ⟨kl, 0, none⟩) r cl) r (ls.map Value.string) rfl (HL2.out.alloc _) (wr.heap.size + 1) (some ⟨wr.heap.size, 0, none⟩) 1 1 [.string x2] rfl (reads_one (Blk.new wr _ _) (by simp)) (fun u hu => by simp at hu; subst hu; rfl) (by unfold maxLen; omega) (by omega) (by simp; omega) ?_; intro v5 w5 hown5 hg5 hat5; obtain ⟨kl', c5, rfl, hkl5, hlt5⟩ := hown5.form (by omega); have hu5 : Upd (fun k => k = kl) wr w5 := ((Upd.refl _ wr).alloc _).grown hg5 (fun j hj => .inl (own_blk hj)); have HU5 := Lib.hid hu5; have HK5 : Hid (kl' = kl ∨ wr.heap.size ≤ kl') := Lib.hid (own_at hat5); have HW5 := Lib.hid hown5; have k5 : w5.cell? ⟨kf, p * 2 + 1, none⟩ = some (.slice (some ⟨kl, 0, none⟩) r cl) := (hu5.cell (p := ⟨kf, p * 2 + 1, none⟩) (World.block_lt_of_cell? wr _ ksf) HO.out.ne.2.2).trans ksf; have f5 : w5.frozen? ⟨kf, p * 2 + 1, none⟩ = false := (hu5.frozen (p := ⟨kf, p * 2 + 1, none⟩) (World.block_lt_of_cell? wr _ ksf) HO.out.ne.2.2).trans (HO.out.f.frozenAt _); clear hown5 hg5 hat5 hu5 hkl5 hlt5)
          have hfin := HO.out.line (x := x2) (kl' := kl') (c5 := c5) HU5.out HK5.out (by rw [← HRL.out]; exact HW5.out)
          rw [← HPL.out, ← HRL.out] at hfin
          have HLD : Hid (LdS _ B (.slice (some ⟨ko, 0, none⟩) (m + 1) vc) true (.opn Lp l0 Fp nm (ls ++ [x2]))) := Lib.hid ⟨G, ko, vc, kf, cf, kl', c5, xs, fx, by rw [HM.out], rfl, hfin.1, HGQ.out⟩
          have HBF := Lib.hid (HI.out.2.2.1.trans (hfin.2.below (fun k hk => by
            rcases hk with rfl | rfl
            · exact (own_is HO.out.l rfl).1
            · exact (own_is HO.out.f rfl).1) hbw))
          refine ⟨⟨i + 1, .opn Lp l0 Fp nm (ls ++ [x2]), true, by go_num, rfl, by omega, Lib.hid ⟨HLD.out, HN.out.1, HBF.out, HN.out.2⟩⟩, ?_⟩
          show M.length - ((i : Int) + 1).toNat < M.length - (i : Int).toNat
          omega
    have hwt : isWh s = false := by simpa using hwt
    rw [hwt, if_neg (by simp)] at HRN HRE
    rw [hwt] at HW
    clear hwt
    have hfn := fun W => fieldName_any s W (by omega)
    by_cases hn0 : nameN s = 0 ∨ nameN s = s.size
    · have HE := Lib.hid (HRE.out 3 (by unfold fieldS; rw [if_pos hn0]))
      simp only [if_pos hn0] at hfn
      have HFN := Lib.hid hfn
      clear hfn hn0 HRN HRE
      have k0 : wr.cell? ⟨b0, 0, none⟩ = some (.int .i64 0) := HAW.out.cell 0
      have k2 : wr.cell? ⟨b0, 1, none⟩ = some (.int .i64 0) := HAW.out.cell 1
      have k4 : wr.frozen? ⟨b0, 0, none⟩ = false := HAW.out.frozen 0
      have k5 : wr.frozen? ⟨b0, 1, none⟩ = false := HAW.out.frozen 1
      go_wp2_with (first | (go_at_call 21; refine (HTR.out _).mono ?_; rintro e w3 ⟨rfl, rfl⟩) | (go_at_call 27; refine (HW.out _).mono ?_; rintro e w4 ⟨rfl, rfl⟩) | (go_at_call 29; refine (HFN.out _).mono ?_; rintro e w5 ⟨rfl, rfl⟩))
      refine ret_at Tryd.results12 b0 _ ((HAW.out.set_ 0 _).set_ 1 _) rfl rfl rfl ?_
      rw [HE.out, ← HBW.out]
      exact ⟨_, rfl, StzAt.nil _, ((HB0.out.trans (HBWR.out.mono (by omega))).setCell (p := ⟨b0, 0, none⟩) (Nat.le_refl _) _).setCell (p := ⟨b0, 1, none⟩) (Nat.le_refl _) _⟩
    simp only [if_neg hn0] at hfn
    have hle := nameN_le s
    obtain ⟨N, hnn⟩ : ∃ n, n = nameN s := ⟨_, rfl⟩
    rw [← hnn] at hfn hle
    have hn0' : N ≠ 0 ∧ N ≠ s.size := by rw [hnn]; exact ⟨fun h => hn0 (.inl h), fun h => hn0 (.inr h)⟩
    have p1 : (N : Int) + 1 ≤ (s.size : Int) := by omega
    have p2 : (N : Int) ≤ (s.size : Int) := by omega
    have p3 : (0 : Int) ≤ (N : Int) + 1 := by omega
    have p4 : IntKind.i64.wrap ((N : Int) + 1) = (N : Int) + 1 := IntWalk.i64_in _ (by omega)
    have p5 : ((N : Int) + 1).toNat = N + 1 := by omega
    obtain ⟨x2, hx2⟩ : ∃ x, x = trimB (s.extract (N + 1) s.size) := ⟨_, rfl⟩
    have htr2 := fun W => RefTrim_any (s.extract (N + 1) s.size) W (by rw [ByteArray.size_extract]; omega)
    rw [← hx2] at htr2
    have HTR2 := Lib.hid htr2
    obtain ⟨nm', hnm'⟩ : ∃ nm', nm' = s.extract 0 N := ⟨_, rfl⟩
    have hex : s.extract 0 N = nm' := hnm'.symm
    have hnms : nm'.size ≤ 1048576 := by rw [hnm', ByteArray.size_extract]; omega
    have HFN := Lib.hid hfn
    have hfs : fieldS s ((i : Int) + 1) σ = match σ with
      | .shut L => if L.length = 200 then .error 12 else .ok (.opn L ((i : Int) + 1) [] nm' [x2])
      | .opn Lp l0 Fp nm ls => if Fp.length + 1 = 40 then .error 12 else if hasN (Fp ++ [⟨nm, ls⟩]) nm' then .error 4 else .ok (.opn Lp l0 (Fp ++ [⟨nm, ls⟩]) nm' [x2]) := by
      unfold fieldS
      rw [if_neg hn0, hnm', hx2, hnn]
      cases σ <;> rfl
    rw [hfs] at HRN HRE
    clear hn0 hnn hn0' hx2 hnm' htr2 hfn hfs hle
    cases σ with
    | shut L =>
      obtain ⟨G, A', c', xs, e1, e2, ho, hG⟩ := HI.out.1
      injection e1 with e1 e1' e1''
      subst e1 e1' e1'' e2
      by_cases h200 : L.length = 200
      · have HE := Lib.hid (HRE.out 12 (if_pos h200))
        have q200 : ((L.length : Int) == 200) = true := by rw [beq_iff_eq]; omega
        clear HRN HRE ho hG
        rw [h200]
        have k0 : wr.cell? ⟨b0, 0, none⟩ = some (.int .i64 0) := HAW.out.cell 0
        have k2 : wr.cell? ⟨b0, 1, none⟩ = some (.int .i64 0) := HAW.out.cell 1
        have k4 : wr.frozen? ⟨b0, 0, none⟩ = false := HAW.out.frozen 0
        have k5 : wr.frozen? ⟨b0, 1, none⟩ = false := HAW.out.frozen 1
        go_wp2_with (first | (go_at_call 21; refine (HTR.out _).mono ?_; rintro e w3 ⟨rfl, rfl⟩) | (go_at_call 27; refine (HW.out _).mono ?_; rintro e w4 ⟨rfl, rfl⟩) | (go_at_call 29; refine (HFN.out _).mono ?_; rintro e w5 ⟨rfl, rfl⟩))
        refine ret_at Tryd.results12 b0 _ ((HAW.out.set_ 0 _).set_ 1 _) rfl rfl rfl ?_
        rw [HE.out, ← HBW.out]
        exact ⟨_, rfl, StzAt.nil _, ((HB0.out.trans (HBWR.out.mono (by omega))).setCell (p := ⟨b0, 0, none⟩) (Nat.le_refl _) _).setCell (p := ⟨b0, 1, none⟩) (Nat.le_refl _) _⟩
      have HN := Lib.hid (HRN.out _ (if_neg h200))
      have q200 : ((L.length : Int) == 200) = false := by rw [beq_eq_false_iff_ne]; omega
      obtain ⟨i0, hi0, hz0, hz1, hz2⟩ := info_parts fd_row
      obtain ⟨j0, hj0, hy0, hy1, hy2⟩ := info_parts st_row
      have hL2 : L.length ≤ 200 := HI.out.2.1
      obtain ⟨m, hm⟩ : ∃ m, m = L.length := ⟨_, rfl⟩
      have HM := Lib.hid hm
      have HO := Lib.hid ho
      have HGQ := Lib.hid hG
      have HOW3 : Hid (wr.ownsRow B 34 2 (.slice vA m vc) m xs) := Lib.hid (by rw [hm]; exact ho.o)
      rw [← hm] at q200 hL2 ⊢
      clear hm ho hG HRN HRE h200
      go_upto_region 27 with (first | (at_builtin; refine wpList_append_any _ rfl (.tmp 97) (.tmp 101) 23 rfl B 34 j0 (.agg #[.int .i64 0, .slice none 0 0]) 2 32 Tryd.underlying23 hj0 hy0 hy1 hy2 rfl (by decide) (.slice vA m vc) m xs rfl (HOW3.out.alloc _) (wr.heap.size + 1) (some ⟨wr.heap.size, 0, none⟩) 1 1 [.int .i64 ((i : Int) + 1), .slice none 0 0] rfl (reads_two (Blk.new wr _ _) (by simp)) (fun u hu => by simp at hu; rcases hu with rfl | rfl <;> rfl) (by unfold maxLen; omega) (by omega) (Nat.le_trans hbw (by simp)) ?_; intro v4 w4 hown4 hg4 hat4; obtain ⟨ko', c4, rfl, hkl4, hlt4⟩ := hown4.form (by omega); have hu4 : Upd (fun k => (Value.slice vA m vc).ownBlock = some k) wr w4 := ((Upd.refl _ wr).alloc _).grown hg4 (fun j hj => .inl hj); have HU4 := Lib.hid hu4; have HK4 : Hid (vA = some ⟨ko', 0, none⟩ ∨ wr.heap.size ≤ ko') := Lib.hid (own_at2 HOW3.out hat4); have HW4 := Lib.hid hown4; clear hown4 hg4 hat4 hu4 hkl4 hlt4) | (go_at_call 21; refine (HTR.out _).mono ?_; rintro e w3 ⟨rfl, rfl⟩) | (go_at_call 27; refine (HW.out _).mono ?_; rintro e w4 ⟨rfl, rfl⟩) | (go_at_call 29; refine (HFN.out _).mono ?_; rintro e w5 ⟨rfl, rfl⟩))
      have hx := HO.out.sv.len
      rw [← HM.out] at hx
      have ks4 : w4.cell? ⟨ko', m * 2 + 1, none⟩ = some (.slice none 0 0) := by
        rw [HW4.out.cellAt (m * 2 + 1) (by omega), ← hx]
        simp
      have b1 : (m : Int) < (m : Int) + 1 := by omega
      have b2 : ((m : Int) + 1 - 1) = (m : Int) := by omega
      clear hx g' q35 hz hbe HTR HW k1 q200
      have f4 : w4.frozen? ⟨ko', m * 2 + 1, none⟩ = false := HW4.out.frozenAt _
      have hz4 : B ≤ w4.heap.size := Nat.le_trans hbw HU4.out.size
      have hko4 : ko' < w4.heap.size := World.block_lt_of_cell? w4 _ ks4
      go_wp2_with fail
      go_loopw [122] (fun p wx => p = .int .i64 0 ∧ w4 = wx) (fun _ _ => 0)
      case atStart => exact ⟨rfl, rfl⟩
      case round =>
        obtain ⟨rfl, rfl⟩ := hrel
        go_upto_region 37 with fail
        go_region_law (first | (refine step_append_any _ (by rfl) (.tmp 140) (.tmp 151) 32 (by rfl) B 40 i0 (.agg #[.string ⟨#[]⟩, .slice none 0 0]) 2 40 Tryd.underlying32 hi0 hz0 hz1 hz2 rfl (by decide) (.slice none 0 0) 0 [] (by simp [Act.eval]) (World.ownsRow_nil _ _ _ _) (w4.heap.size + 2) (some ⟨w4.heap.size + 1, 0, none⟩) 1 1 [.string nm', .slice (some ⟨w4.heap.size, 0, none⟩) 1 1] (by simp [Act.eval]) (reads_two (blk_new2 w4 _ _ _ _) (by omega)) (fun u hu => by simp at hu; rcases hu with rfl | rfl <;> rfl) (by unfold maxLen; omega) (by omega) (size_new2 hz4 _ _) ?_; intro v5 w9 hown5 hg5 hat5; obtain ⟨kf', c5, rfl, hkl5, hlt5⟩ := hown5.form (by omega); have hu9 : Upd (fun _ => False) w4 w9 := (((Upd.refl _ w4).alloc _).alloc _).drew.grown hg5 (fun j hj => by cases hj); have HU9 := Lib.hid hu9; have HK5 : Hid (w4.heap.size ≤ kf') := Lib.hid (own_at4 hat5); have HW5 := Lib.hid hown5; have HBS9 := Lib.hid ((blk_new1 w4 9 40 #[.string x2] #[.string nm', .slice (some ⟨w4.heap.size, 0, none⟩) 1 1]).grown hg5 (by intro h; cases h)); have k9 : w9.cell? ⟨ko', m * 2 + 1, none⟩ = some (.slice none 0 0) := (hu9.cell (p := ⟨ko', m * 2 + 1, none⟩) hko4 (fun h => h)).trans ks4; have f9 : w9.frozen? ⟨ko', m * 2 + 1, none⟩ = false := (hu9.frozen (p := ⟨ko', m * 2 + 1, none⟩) hko4 (fun h => h)).trans f4; clear hown5 hg5 hat5 hu9 hkl5 hlt5) | (go_simp; go_at_call 21; refine (HTR2.out _).mono ?_; rintro e w3 ⟨rfl, rfl⟩))
        all_goals
          go_wp2_with fail
          have hfin := HO.out.field (w4 := w4) (w5 := w9) (ko' := ko') (c4 := c4) (kf' := kf') (c5 := c5) (kl' := w4.heap.size) (cl' := 1) (nm' := nm') (x := x2) (ln := (i : Int) + 1) HU4.out (fun k hk h => by
            refine (HO.out.g k hk).2 ?_
            rcases HOW3.out.2 with ⟨e, _⟩ | ⟨g, cap, cur, e, _⟩
            · rw [e] at h; cases h
            · rw [e] at h
              have h : some g = some k := h
              injection h with h
              injection e with e _ _
              rw [e, h]) HK4.out (by rw [← HM.out]; exact HW4.out) HU9.out (fun k hk e => by have h1 := (HO.out.g k hk).1; have h2 := HK5.out; have h3 := HU4.out.size; omega) (fun k hk e => by have h1 := (HO.out.g k hk).1; have h3 := HU4.out.size; omega) HW5.out (own_of_blk HBS9.out hz4)
          rw [← HM.out] at hfin
          have HLD : Hid (LdS _ B (.slice (some ⟨ko', 0, none⟩) (m + 1) c4) true (.opn L ((i : Int) + 1) [] nm' [x2])) := Lib.hid ⟨G, ko', c4, kf', c5, w4.heap.size, 1, xs, [], by rw [HM.out], rfl, hfin.1, HGQ.out⟩
          have HBF := Lib.hid (HI.out.2.2.1.trans (hfin.2.below (fun k hk => by
            rcases hk with hk | hk
            · exact (own_is HOW3.out hk).1
            · rw [hk]; exact (own_is HW4.out rfl).1) hbw))
          refine ⟨⟨i + 1, .opn L ((i : Int) + 1) [] nm' [x2], true, by go_num, rfl, by omega, Lib.hid ⟨HLD.out, HN.out.1, HBF.out, HN.out.2⟩⟩, ?_⟩
          show M.length - ((i : Int) + 1).toNat < M.length - (i : Int).toNat
          omega
    | opn Lp l0 Fp nm ls =>
      obtain ⟨G, ko, co, kf, cf, kl, cl, xs, fx, e1, e2, ho, hG⟩ := HI.out.1
      injection e1 with e1 e1' e1''
      subst e1 e1' e1'' e2
      have hsm := HI.out.2.1
      obtain ⟨m, hm⟩ : ∃ m, m = Lp.length := ⟨_, rfl⟩
      obtain ⟨p, hp⟩ : ∃ p, p = Fp.length := ⟨_, rfl⟩
      have HM := Lib.hid hm
      have HPL := Lib.hid hp
      have HO := Lib.hid ho
      have HGQ := Lib.hid hG
      have hx := HO.out.xlen
      rw [← hm, ← hp] at hx
      have kso : wr.cell? ⟨ko, m * 2 + 1, none⟩ = some (.slice (some ⟨kf, 0, none⟩) (p + 1) cf) := by
        rw [HO.out.o.cellAt (m * 2 + 1) (by rw [hm]; omega), hp, ← hx.1]
        simp
      have b1 : (m : Int) < (m : Int) + 1 := by omega
      have hLp : m ≤ 199 := by have := hsm.1; omega
      have hFp : p ≤ 39 := by have := hsm.2.1; omega
      have HFN2 : Hid (∀ f ∈ Fp ++ [(⟨nm, ls⟩ : Fd)], f.n.size ≤ 1048576) := Lib.hid (fun f hf => by
        rcases List.mem_append.1 hf with h | h
        · exact hsm.2.2.2.1 f h
        · rw [List.mem_singleton] at h; subst h; exact hsm.2.2.2.2)
      have HFV : Hid (FV wr (fun k => G k ∨ k = kl) (fx ++ [.string nm, .slice (some ⟨kl, 0, none⟩) ls.length cl]) (Fp ++ [⟨nm, ls⟩])) := Lib.hid (FV.snoc (f := ⟨nm, ls⟩) ⟨_, _, rfl, own_cap ho.l, RowG.of_own ho.l (fun k e => by injection e with e; injection e with e; exact .inr e.symm)⟩ (ho.fv.mono (fun k hk => .inl hk)))
      have HLEN : Hid ((Fp ++ [(⟨nm, ls⟩ : Fd)]).length = p + 1) := Lib.hid (by rw [List.length_append, hp]; rfl)
      rw [← hm]
      by_cases h40 : p + 1 = 40
      · have HE := Lib.hid (HRE.out 12 (if_pos (by rw [← hp]; exact h40)))
        have q40 : (((p : Int) + 1) == 40) = true := by rw [beq_iff_eq]; omega
        clear HRN HRE ho hG hx hm hp
        have k0 : wr.cell? ⟨b0, 0, none⟩ = some (.int .i64 0) := HAW.out.cell 0
        have k2 : wr.cell? ⟨b0, 1, none⟩ = some (.int .i64 0) := HAW.out.cell 1
        have k4 : wr.frozen? ⟨b0, 0, none⟩ = false := HAW.out.frozen 0
        have k5 : wr.frozen? ⟨b0, 1, none⟩ = false := HAW.out.frozen 1
        go_wp2_with (first | (go_at_call 21; refine (HTR.out _).mono ?_; rintro e w3 ⟨rfl, rfl⟩) | (go_at_call 27; refine (HW.out _).mono ?_; rintro e w4 ⟨rfl, rfl⟩) | (go_at_call 29; refine (HFN.out _).mono ?_; rintro e w5 ⟨rfl, rfl⟩))
        refine ret_at Tryd.results12 b0 _ ((HAW.out.set_ 0 _).set_ 1 _) rfl rfl rfl ?_
        rw [HE.out, ← HBW.out]
        exact ⟨_, rfl, StzAt.nil _, ((HB0.out.trans (HBWR.out.mono (by omega))).setCell (p := ⟨b0, 0, none⟩) (Nat.le_refl _) _).setCell (p := ⟨b0, 1, none⟩) (Nat.le_refl _) _⟩
      have q40 : (((p : Int) + 1) == 40) = false := by rw [beq_eq_false_iff_ne]; omega
      have HNO : Hid (hasN (Fp ++ [⟨nm, ls⟩]) nm' = false → Small (i + 1) (.opn Lp l0 (Fp ++ [⟨nm, ls⟩]) nm' [x2]) ∧ R = runS (M.drop (i + 1)) (i + 1) (.opn Lp l0 (Fp ++ [⟨nm, ls⟩]) nm' [x2])) := Lib.hid (fun h => HRN.out _ (by
        show (if Fp.length + 1 = 40 then _ else _) = _
        rw [if_neg (by rw [← hp]; exact h40), h, if_neg (by simp)]))
      have HYES : Hid (hasN (Fp ++ [⟨nm, ls⟩]) nm' = true → R = .error (4, i + 1)) := Lib.hid (fun h => HRE.out _ (by
        show (if Fp.length + 1 = 40 then _ else _) = _
        rw [if_neg (by rw [← hp]; exact h40), h, if_pos rfl]))
      clear HRN HRE ho hG hx hm hp h40 hsm
      go_wp2_with (first | (go_at_call 21; refine (HTR.out _).mono ?_; rintro e w3 ⟨rfl, rfl⟩) | (go_at_call 27; refine (HW.out _).mono ?_; rintro e w4 ⟨rfl, rfl⟩) | (go_at_call 29; refine (HFN.out _).mono ?_; rintro e w5 ⟨rfl, rfl⟩))
      obtain ⟨i0, hi0, hz0, hz1, hz2⟩ := info_parts fd_row
      have HKO : Hid (ko < wr.heap.size) := Lib.hid (World.block_lt_of_cell? wr _ kso)
      clear g' q35 hz hbe HTR HW k1 q40 b1 HFN
      obtain ⟨FL, hFL⟩ : ∃ FL, FL = Fp ++ [(⟨nm, ls⟩ : Fd)] := ⟨_, rfl⟩
      rw [← hFL] at HNO HYES HLEN HFV HFN2
      have HFL := Lib.hid hFL
      clear hFL
      go_loopw [122] (fun p' wx => ∃ j : Nat, p' = .int .i64 (j : Int) ∧ j ≤ p + 1 ∧ Hid (∀ l (hl : l < FL.length), l < j → sameN FL[l].n nm' = false) ∧ Hid (Below wr.heap.size wr wx)) (fun p' _ => p + 1 - (match p' with | .int _ a => a.toNat | _ => 0))
      case atStart => exact ⟨0, rfl, Nat.zero_le _, Lib.hid (fun l hl h => by omega), Lib.hid (Below.refl _ _)⟩
      case round =>
        obtain ⟨j, rfl, hj, HJ, HBX⟩ := hrel
        rename World => wx
        have hux : Upd (fun _ => False) wr wx := Upd.of_below HBX.out (T := fun _ => False) (fun k h1 h2 => by omega)
        have HOX := Lib.hid (HO.out.upd hux (fun h => h) (fun h => h) (fun h => h) (fun _ _ h => h))
        have ksx : wx.cell? ⟨ko, m * 2 + 1, none⟩ = some (.slice (some ⟨kf, 0, none⟩) (p + 1) cf) := (HBX.out.cell (p := ⟨ko, m * 2 + 1, none⟩) HKO.out).trans kso
        have hzx : B ≤ wx.heap.size := Nat.le_trans hbw HBX.out.size
        by_cases hjl : j < p + 1
        case neg =>
          have hjn : ¬ (j : Int) < (p : Int) + 1 := by omega
          have HN := Lib.hid (HNO.out (hasN_no (fun l hl => HJ.out l hl (by have := HLEN.out; omega))))
          have HF : Hid (wx.ownsRow B 40 2 (.slice (some ⟨kf, 0, none⟩) (p + 1) cf) (p + 1) (fx ++ [.string nm, .slice (some ⟨kl, 0, none⟩) ls.length cl])) := Lib.hid (by rw [HPL.out]; exact HOX.out.f)
          have fx4 : wx.frozen? ⟨ko, m * 2 + 1, none⟩ = false := HOX.out.o.frozenAt _
          have hkx : ko < wx.heap.size := World.block_lt_of_cell? wx _ ksx
          clear kso
          go_upto_region 37 with fail
          go_region_law (first | (refine step_append_any _ (by rfl) (.tmp 140) (.tmp 151) 32 (by rfl) B 40 i0 (.agg #[.string ⟨#[]⟩, .slice none 0 0]) 2 40 Tryd.underlying32 hi0 hz0 hz1 hz2 rfl (by decide) (.slice (some ⟨kf, 0, none⟩) (p + 1) cf) (p + 1) (fx ++ [.string nm, .slice (some ⟨kl, 0, none⟩) ls.length cl]) (by simp [Act.eval]) (((HF.out.alloc _).alloc _).drew) (wx.heap.size + 2) (some ⟨wx.heap.size + 1, 0, none⟩) 1 1 [.string nm', .slice (some ⟨wx.heap.size, 0, none⟩) 1 1] (by simp [Act.eval]) (reads_two (blk_new2 wx _ _ _ _) (by omega)) (fun u hu => by simp at hu; rcases hu with rfl | rfl <;> rfl) (by unfold maxLen; omega) (by omega) (size_new2 hzx _ _) ?_; intro v5 w9 hown5 hg5 hat5; obtain ⟨kf', c5, rfl, hkl5, hlt5⟩ := hown5.form (by omega); have hu9 : Upd (fun k => k = kf) wx w9 := (((Upd.refl _ wx).alloc _).alloc _).drew.grown hg5 (fun j hj => .inl (own_blk hj)); have HU9 := Lib.hid hu9; have HK5 : Hid (kf' = kf ∨ wx.heap.size ≤ kf') := Lib.hid (own_at5 hat5); have HW5 := Lib.hid hown5; have HBS9 := Lib.hid ((blk_new1 wx 9 40 #[.string x2] #[.string nm', .slice (some ⟨wx.heap.size, 0, none⟩) 1 1]).grown hg5 (own_far HF.out)); have k9 : w9.cell? ⟨ko, m * 2 + 1, none⟩ = some (.slice (some ⟨kf, 0, none⟩) (p + 1) cf) := (hu9.cell (p := ⟨ko, m * 2 + 1, none⟩) hkx HOX.out.ne.1).trans ksx; have f9 : w9.frozen? ⟨ko, m * 2 + 1, none⟩ = false := (hu9.frozen (p := ⟨ko, m * 2 + 1, none⟩) hkx HOX.out.ne.1).trans fx4; clear hown5 hg5 hat5 hu9 hkl5 hlt5) | (go_simp; go_at_call 21; refine (HTR2.out _).mono ?_; rintro e w3 ⟨rfl, rfl⟩))
          all_goals
            go_wp2_with fail
            have hfin := HOX.out.field (w5 := w9) (kf' := kf') (c5 := c5) (kl' := wx.heap.size) (cl' := 1) (nm' := nm') (x := x2) HU9.out HK5.out (fun k hk e => by
              rcases hk with hk | hk
              · have := (HOX.out.g k hk).1; omega
              · obtain ⟨_, cur, hc⟩ := own_is HOX.out.l (k := kl) rfl
                have := Blk.lt hc
                omega) (by rw [← HPL.out]; exact HW5.out) (own_of_blk HBS9.out hzx)
            rw [← HM.out, ← HPL.out, ← HFL.out] at hfin
            have HLD : Hid (LdS _ B (.slice (some ⟨ko, 0, none⟩) (m + 1) vc) true (.opn Lp l0 FL nm' [x2])) := Lib.hid ⟨fun k => G k ∨ k = kl, ko, vc, kf', c5, wx.heap.size, 1, xs, _, by rw [HM.out], rfl, hfin.1, fun k hk => by
              rcases hk with hk | hk
              · exact HGQ.out k hk
              · rw [hk]; exact (own_is HOX.out.l rfl).1⟩
            have HBF := Lib.hid ((HI.out.2.2.1.trans (HBX.out.mono hbw)).trans (hfin.2.below (fun k hk => by
              rcases hk with rfl | rfl
              · exact (own_is HOX.out.f rfl).1
              · exact (own_is HOX.out.o rfl).1) hzx))
            refine ⟨⟨i + 1, .opn Lp l0 FL nm' [x2], true, by go_num, rfl, by omega, Lib.hid ⟨HLD.out, HN.out.1, HBF.out, HN.out.2⟩⟩, ?_⟩
            show M.length - ((i : Int) + 1).toNat < M.length - (i : Int).toNat
            omega
        have hjn : (j : Int) < (p : Int) + 1 := by omega
        have hjf : j < FL.length := by rw [HLEN.out]; exact hjl
        obtain ⟨c1, lv, c2, lA, lc, rfl, _⟩ := HFV.out.at_ j hjf
        have hpl : (Fp.length + 1) = p + 1 := by rw [HPL.out]
        have kj1 : wx.cell? ⟨kf, j * 2, none⟩ = some (.string FL[j].n) := by rw [HOX.out.f.cellAt (j * 2) (by omega)]; exact c1
        have kj2 : wx.cell? ⟨kf, j * 2 + 1, none⟩ = some (.slice lA FL[j].ls.length lc) := by rw [HOX.out.f.cellAt (j * 2 + 1) (by omega)]; exact c2
        have hns := HFN2.out FL[j] (List.getElem_mem hjf)
        obtain ⟨nj, hnj⟩ : ∃ nj, nj = FL[j].n := ⟨_, rfl⟩
        obtain ⟨lj, hlj⟩ : ∃ lj, lj = FL[j].ls.length := ⟨_, rfl⟩
        have HSX : Hid (∀ W, Calls Tryd.prog 17 #[.string nj, .string nm'] W fun e w' => e = .returned (.bool (sameN nj nm')) ∧ Below W.heap.size W w') := Lib.hid (fun W => RSame_any nj nm' W (by rw [hnj]; omega) (by omega))
        rw [← hnj] at kj1
        rw [← hlj] at kj2
        have HNJ := Lib.hid hnj
        obtain ⟨bs, hbs⟩ : ∃ bs, bs = sameN nj nm' := ⟨_, rfl⟩
        rw [← hbs] at HSX
        have HBS := Lib.hid hbs
        clear c1 c2 hpl hns hnj hlj hbs hux
        go_upto_region 34 with fail
        obtain ⟨b', hb'⟩ : ∃ b', b' = wx.heap.size := ⟨_, rfl⟩
        obtain ⟨wy, hwy⟩ : ∃ wy, wy = wx.alloc (.cells #[.string nj, .slice lA lj lc] 40) := ⟨_, rfl⟩
        have hbk : Blk wy b' 40 #[.string nj, .slice lA lj lc] := by rw [hwy, hb']; exact Blk.new wx _ _
        have kb : wy.cell? ⟨b', 0, none⟩ = some (.string nj) := hbk.cell 0
        have HBY : Hid (Below wr.heap.size wr wy) := Lib.hid (by rw [hwy]; exact HBX.out.alloc HBX.out.size _)
        rw [← hwy, ← hb']
        clear hbk hwy hb' kj1 kj2 ksx kso hzx
        cases bs with
        | false =>
          have HJ2 : Hid (∀ l (hl : l < FL.length), l < j + 1 → sameN FL[l].n nm' = false) := Lib.hid (fun l hl h => by
            by_cases e : l = j
            · subst e; rw [← HNJ.out, ← HBS.out]
            · exact HJ.out l hl (by omega))
          go_still_tail 5, (by kernel_rfl)
          change wpList _ _ _ _ _ wy.drew
          obtain ⟨wz, hwz⟩ : ∃ wz, wz = wy.drew := ⟨_, rfl⟩
          have kz : wz.cell? ⟨b', 0, none⟩ = some (.string nj) := by rw [hwz]; exact kb
          have HBZ : Hid (Below wr.heap.size wr wz) := Lib.hid (by rw [hwz]; exact HBY.out.drew)
          rw [← hwz]
          clear hwz kb
          go_wp2_with (go_at_call 17; refine (HSX.out _).mono ?_; rintro e w7 ⟨rfl, hb7⟩; have HB7 := Lib.hid hb7; clear hb7)
          refine ⟨⟨j + 1, by go_num, by omega, HJ2, Lib.hid (HBZ.out.trans (HB7.out.mono HBZ.out.size))⟩, ?_⟩
          show p + 1 - ((j : Int) + 1).toNat < p + 1 - (j : Int).toNat
          omega
        | true =>
          have HE := Lib.hid (HYES.out (hasN_yes hjf (by rw [← HNJ.out, ← HBS.out])))
          go_still_tail 5, (by kernel_rfl)
          change wpList _ _ _ _ _ wy.drew
          obtain ⟨wz, hwz⟩ : ∃ wz, wz = wy.drew := ⟨_, rfl⟩
          have kz : wz.cell? ⟨b', 0, none⟩ = some (.string nj) := by rw [hwz]; exact kb
          have HBZ : Hid (Below wr.heap.size wr wz) := Lib.hid (by rw [hwz]; exact HBY.out.drew)
          rw [← hwz]
          clear hwz kb
          go_upto_region 35 with (go_at_call 17; refine (HSX.out _).mono ?_; rintro e w7 ⟨rfl, hb7⟩; have HB7 := Lib.hid hb7; clear hb7)
          have HBA : Hid (Below (b0 + 1) wr w7) := Lib.hid ((HBZ.out.trans (HB7.out.mono HBZ.out.size)).mono (Nat.le_trans HQ.out hbw))
          have HAW7 : Hid (Blk w7 b0 26 #[.int .i64 0, .int .i64 0]) := Lib.hid (HAW.out.below HBA.out (by omega))
          have k0 : w7.cell? ⟨b0, 0, none⟩ = some (.int .i64 0) := HAW7.out.cell 0
          have k2 : w7.cell? ⟨b0, 1, none⟩ = some (.int .i64 0) := HAW7.out.cell 1
          have k4 : w7.frozen? ⟨b0, 0, none⟩ = false := HAW7.out.frozen 0
          have k5 : w7.frozen? ⟨b0, 1, none⟩ = false := HAW7.out.frozen 1
          go_wp2_with fail
          refine ret_at Tryd.results12 b0 _ ((HAW7.out.set_ 0 _).set_ 1 _) rfl rfl rfl ?_
          rw [HE.out, ← HBW.out]
          exact ⟨_, rfl, StzAt.nil _, ((HB0.out.trans ((HBWR.out.trans HBA.out).mono (by omega))).setCell (p := ⟨b0, 0, none⟩) (Nat.le_refl _) _).setCell (p := ⟨b0, 1, none⟩) (Nat.le_refl _) _⟩
end Go.Proofs.YtjkaigfpjebfbaaDoor
