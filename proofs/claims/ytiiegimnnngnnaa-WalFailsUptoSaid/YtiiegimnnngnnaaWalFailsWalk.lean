/- WalFails: the walk. -/
import Derived.Test.YtiiegimnnngnnaaLog12
namespace Go.Proofs.Ytiiegimnnngnnaa
open Go.RowKit
set_option linter.unusedVariables false

theorem RowsAt.row {w : World} {A : Option Addr} {c : Nat} {L : List (List Nat)} (h : RowsAt w (.slice A L.length c) L) {j : Nat} (hj : j < L.length) : ∃ g o Aj cj, A = some ⟨g, o, none⟩ ∧ w.cell? ⟨g, o + j, none⟩ = some (.slice Aj (L[j]).length cj) ∧ Bytes w Aj (L[j]).length L[j] := by
  obtain ⟨A', cap, hv, _, _, h3⟩ := h
  cases hv
  obtain ⟨g, o, Aj, cj, k0, k1, k2, k3, k4⟩ := h3 j hj
  exact ⟨g, o, Aj, cj, k0, k1, k4⟩
def again : List Nat := [97, 103, 97, 105, 110]
theorem again_out {L : Wl.Lg} (h1 : L.n < 512) (h2 : L.next < L.to) : Wl.appOut L again = 0 := by
  have e : Wl.need again.length = 1 := by simp [again, Wl.need]
  unfold Wl.appOut
  rw [if_neg (by simp [again]), if_neg (by rw [e]; omega)]
/-- What stands of the log and its disk. -/
structure Fl (w0 w : World) (p r s l g cap : Nat) (D : Dk) (L : Wl.Lg) (c : Nat) : Prop where
  sys : Sys w p r s 40 40 l g cap D L
  bel : Below w0.heap.size w0 w
  fr : L.fr = 0
  to : L.to = 30
  next : L.next ≤ 30
  n : L.n ≤ 20
  calls : D.calls ≤ c
set_option maxRecDepth 100000 in
set_option maxHeartbeats 4000000 in
theorem walFails_any (va vb : Value) (La Lb : List (List Nat)) (m : Int) (w : World) (ha : RowsAt w va La) (hb : RowsAt w vb Lb) (hla : La.length ≤ 1048576) (hlb : Lb.length ≤ 1048576) (hlb2 : ∀ b ∈ Lb, b.length ≤ 1048576) :
    Calls Try.prog 22 #[va, vb, .int .i64 m] w fun e w' => e = .returned (.bool true) ∧ Below w.heap.size w w' := by
  obtain ⟨F, hF, hF20⟩ := small_k m 20 (by omega) (by omega)
  have hF' : (IntKind.u64.wrap m).tmod 20 = (F : Int) := hF
  clear hF
  have HA := Lib.hid ha.far
  have HRB := Lib.hid hb
  have HB2 := Lib.hid hlb2
  obtain ⟨AB, cB, rfl, _⟩ := hb
  clear ha hlb2
  have HN := Lib.hid (New_any 40 40 (by decide) (by decide) (by decide) w)
  have kc := fun (w : World) (C : Array Value) (n c : Nat) => Lib.run_convert_bytes_const (P := Try.prog) w 22 5 C n c Try.underlying22 Try.underlying5
  go_enter Try.func22, Try.ntmps22
  go_wp2_with fail
  go_at_call 30
  refine HN.out.mono ?_
  rintro e w1 ⟨p, r, s, rfl, hd1, hb1, hp, hr, hs⟩
  have HB1 := Lib.hid hb1
  have HF := Lib.hid (Format_good p r s 40 40 (Dk.new 40) 0 30 w1 hd1 rfl rfl (by omega) (by simp [Dk.new]) (by simp [Dk.new]))
  have HP := Lib.hid (show w.heap.size ≤ p ∧ w.heap.size ≤ r ∧ w.heap.size ≤ s from ⟨hp, hr, hs⟩)
  clear hb1 hd1 hp hr hs
  go_wp2_with fail
  go_at_call 48
  refine HF.out.mono ?_
  rintro e w2 ⟨D2, rfl, hd2, hu2, ha2, hn2, hf2, hc2, _, _⟩
  have HBW2 := Lib.hid (HB1.out.trans (hu2.below (dT_far HP.out) HB1.out.size))
  have HO := Lib.hid (Open_area p r s 40 40 D2 0 30 1 [] w2 hd2 ha2)
  have HD2 := Lib.hid hd2
  have HA2 := Lib.hid ha2
  have hc2' : D2.calls = 2 := hc2
  have HC2 := Lib.hid hc2'
  clear hd2 hu2 ha2 hn2 hf2 hc2 hc2'
  go_wp2_with fail
  go_at_call 49
  refine HO.out.mono ?_
  rintro e w3 ⟨l, g, cap, v, rfl, hl3, hr3, h1, h2, hb3⟩
  have hs3 := opened HD2.out hb3 hl3 h1 h2
  have HS3 := Lib.hid hs3
  have HB3 := Lib.hid (HBW2.out.trans (hb3.mono HBW2.out.size))
  have HLG := Lib.hid (show w.heap.size ≤ l ∧ w.heap.size ≤ g from ⟨Nat.le_trans HBW2.out.size h1, Nat.le_trans HBW2.out.size h2⟩)
  have HFU := Lib.hid (Fuse_any p r s 40 40 D2 ((F : Int) + 1) w3 hs3.d (by omega))
  clear hl3 hr3 h1 h2 hb3 hs3
  go_wp2_with fail
  clear hF'
  go_at_call 38
  refine HFU.out.mono ?_
  rintro e w4 ⟨rfl, hd4, hu4⟩
  have HB4 := Lib.hid (HB3.out.trans (hu4.below (dT_far HP.out) HB3.out.size))
  have HS4 := Lib.hid (HS3.out.disk hd4 hu4)
  have HH4 : Hid (∃ rs, Wl.Holds (D2.setFuse ((F : Int) + 1)) ⟨0, 30, ([] : List (List Nat)).length, 1, fun k => D2.R (64 * 0 + k), false⟩ rs) := Lib.hid ⟨_, HA2.out.holds.setFuse _⟩
  have HU4 : Hid (Upd (fun k => w.heap.size ≤ k) w w4) := Lib.hid (Upd.of_below HB4.out (fun _ _ h => h))
  have HRA := Lib.hid (HA.out.upd HU4.out (fun k h1 _ h2 => by omega))
  have HSM := Lib.hid (small_any _ va La w4 HRA.out (fun k h => Nat.lt_of_lt_of_le h HB4.out.size) (by omega))
  clear hd4 hu4
  go_wp2_with fail
  go_at_call 51
  refine HSM.out.mono ?_
  rintro e w5 ⟨vP, rfl, hr5, hb5⟩
  obtain ⟨P, hPP⟩ : ∃ P, P = smallL La 0 := ⟨_, rfl⟩
  have hP20 : P.length ≤ 20 := by rw [hPP]; exact smallL_len La 0
  have HP3 : Hid (∀ b ∈ P, b.length ≤ 300) := Lib.hid (fun b hb => by rw [hPP] at hb; exact (smallL_mem La 0 b hb).1)
  rw [← hPP] at hr5
  have HRP := Lib.hid hr5
  have HFT : Hid (∀ k, aT p r s g l k → w.heap.size ≤ k ∧ k < w4.heap.size) := Lib.hid (fun k hk => ⟨blk_far HP.out HLG.out k hk, by
    have h1 := HS4.out.d.lt
    have h2 := HS4.out.lg.blk.lt
    have h3 := HS4.out.lg.marks.lt
    rcases hk with (hk | hk) | hk
    · rcases hk with rfl | rfl | rfl <;> omega
    · omega
    · omega⟩)
  have HFL : Hid (Fl w w5 p r s l g cap (D2.setFuse ((F : Int) + 1)) ⟨0, 30, ([] : List (List Nat)).length, 1, fun k => D2.R (64 * 0 + k), false⟩ (10 + 200 * 0)) := Lib.hid ⟨HS4.out.below hb5, HB4.out.trans (hb5.mono HB4.out.size), rfl, rfl, by show 1 ≤ 30; omega, by show 0 ≤ 20; omega, by show D2.calls ≤ _; rw [HC2.out]; omega⟩
  obtain ⟨AP, cP, rfl, _⟩ := hr5
  clear hPP hb5
  go_wp2_with fail
  go_loopw [11, 50] (fun a b wr => ∃ (fl : Bool) (i : Nat) (D : Dk) (L : Wl.Lg), a = .bool fl ∧ b = .int .i64 i ∧ Hid (Fl w wr p r s l g cap D L (10 + 200 * i)) ∧ Hid (RowsT wr (fun k => k < w.heap.size ∨ (w4.heap.size ≤ k ∧ k < w5.heap.size)) (.slice AP P.length cP) P) ∧ Hid (fl = false → (∃ rs, Wl.Holds D L rs) ∧ L.n ≤ i) ∧ Hid (fl = true → L.failed = true ∧ Wl.Heals D 0 30 (fun _ => True)) ∧ i ≤ P.length) (fun _ b _ => P.length - (match b with | .int _ x => x.toNat | _ => 0))
  case atStart => exact ⟨false, 0, _, _, rfl, rfl, HFL, HRP, Lib.hid (fun _ => ⟨HH4.out, Nat.le_refl _⟩), Lib.hid (fun h => by cases h), Nat.zero_le _⟩
  case round =>
    obtain ⟨fl, i, D, L, rfl, rfl, HFL, HRP, HFF, HFT', hiP⟩ := hrel
    clear HS4 HH4 HSM HFU HO HF HN HRA HA
    have i1 : (0 : Int) ≤ (i : Int) := by omega
    by_cases hlt : i < P.length
    · have i2 : (i : Int) < (P.length : Int) := by omega
      obtain ⟨_, _, hv, _, _, hrow⟩ := HRP.out
      cases hv
      obtain ⟨g1, o1, B1, d1, e1, q1, qq1, k1, kl1, km1, ky1, kq1⟩ := hrow i hlt
      cases e1
      have hb300 := HP3.out _ (List.getElem_mem hlt)
      obtain ⟨b1, hb1⟩ : ∃ b, b = P[i] := ⟨_, rfl⟩
      rw [← hb1] at k1 ky1 hb300
      have HKY := Lib.hid ky1
      clear hrow q1 qq1 kl1 km1 ky1 kq1 hb1
      by_cases h10 : i < 10
      · have h10' : (i : Int) < 10 := by omega
        cases fl with
        | true =>
          obtain ⟨hlf, hhe⟩ := HFT'.out (by first | rfl | trivial)
          have HLF := Lib.hid hlf
          have HHE := Lib.hid hhe
          clear hlf hhe
          go_wp2_with fail
          go_loopw [81] (fun a wq => ∃ (k : Nat) (E : Dk), a = .int .i64 k ∧ Hid (Fl w wq p r s l g cap E L 5000) ∧ Hid (Wl.Heals E 0 30 (fun _ => True)) ∧ k ≤ Lb.length ∧ k ≤ 6) (fun a _ => 7 - (match a with | .int _ x => x.toNat | _ => 0))
          case atStart => exact ⟨0, D, rfl, Lib.hid ⟨HFL.out.sys, HFL.out.bel, HFL.out.fr, HFL.out.to, HFL.out.next, HFL.out.n, by have := HFL.out.calls; omega⟩, HHE, Nat.zero_le _, by omega⟩
          case round =>
            obtain ⟨k, E, rfl, HFQ, HHQ, hkl, hk6⟩ := hrel
            obtain ⟨wq, rfl⟩ : ∃ wq : World, wq = wr := ⟨_, rfl⟩
            have j1 : (0 : Int) ≤ (k : Int) := by omega
            by_cases hkt : k < Lb.length
            · have j2 : (k : Int) < (Lb.length : Int) := by omega
              have hrb := HRB.out.below HFQ.out.bel
              obtain ⟨gk, ok, Bk, dk, ek, kk, hyk⟩ := hrb.row hkt
              subst ek
              have hb2 := HB2.out _ (List.getElem_mem hkt)
              obtain ⟨bk, hbk⟩ : ∃ bk, bk = Lb[k] := ⟨_, rfl⟩
              rw [← hbk] at kk hyk hb2
              have HYK := Lib.hid hyk
              have HKK := Lib.hid kk
              have HBK := Lib.hid hbk
              clear hrb hyk hbk
              by_cases hk7 : k = 6
              · have l1 : ((k : Int) == 1) = false := beq_eq_false_iff_ne.2 (by omega)
                have l2 : (6 : Int) ≤ (k : Int) := by omega
                clear hk7
                have HCR := Lib.hid (Crash_nil p r s 40 40 E wq HFQ.out.sys.d)
                have hcl := HFQ.out.calls
                obtain ⟨rs, nx, _, har⟩ := HHQ.out HFQ.out.sys.d.ok [] (fun x hx => by cases hx)
                have HAR := Lib.hid har
                have HLE := Lib.hid har.laid.le
                have hnx := har.nx
                clear har
                go_wp2_with fail
                go_at_call 37
                refine HCR.out.mono ?_
                rintro e wx ⟨rfl, hdx, hux⟩
                have HBX := Lib.hid (HFQ.out.bel.trans (hux.below (dT_far HP.out) HFQ.out.bel.size))
                have HDX := Lib.hid hdx
                have HOX := Lib.hid (Open_area p r s 40 40 (E.crash []) 0 30 nx rs wx hdx HAR.out)
                clear hdx hux
                go_wp2_with fail
                go_at_call 49
                refine HOX.out.mono ?_
                rintro e wy ⟨ly, gy, cy, vy, rfl, hly, hry, h1, h2, hby⟩
                have HSY := Lib.hid (opened HDX.out hby hly h1 h2)
                have HBY := Lib.hid (HBX.out.trans (hby.mono HBX.out.size))
                have HLY := Lib.hid (show w.heap.size ≤ ly ∧ w.heap.size ≤ gy from ⟨Nat.le_trans HBX.out.size h1, Nat.le_trans HBX.out.size h2⟩)
                have HFRY := Lib.hid (LFree_any ly gy cy p _ wy hly hnx (by show 30 ≤ 4096; omega))
                obtain ⟨Ay, cyy, rfl, _⟩ := hry
                clear hly h1 h2 hby
                by_cases h30 : nx = 30
                · subst h30
                  go_wp2_with fail
                  go_at_call 58
                  refine HFRY.out.mono ?_
                  rintro e wz ⟨rfl, mm, rfl⟩
                  go_wp2_with (go_at_call 47; refine (awake3_any _).mono ?_; rintro e w9 ⟨rfl, hb9⟩)
                  go_ret
                  have hbd : Below w.heap.size w (wy.drewN mm) := HBY.out.trans ⟨rfl, rfl, rfl, Nat.le_refl _, fun _ _ => rfl⟩
                  exact ⟨rfl, hbd.trans (hb9.mono hbd.size)⟩
                · have hfree : (1 : Int) ≤ ((30 - nx : Nat) : Int) := by omega
                  obtain ⟨fz, hfz⟩ : ∃ fz, fz = 30 - nx := ⟨_, rfl⟩
                  have hfre := HFRY.out
                  rw [show (⟨0, 30, rs.length, nx, fun k => (E.crash []).R (64 * 0 + k), false⟩ : Wl.Lg).to - (⟨0, 30, rs.length, nx, fun k => (E.crash []).R (64 * 0 + k), false⟩ : Wl.Lg).next = fz from hfz.symm] at hfre
                  rw [← hfz] at hfree
                  have HFRZ := Lib.hid hfre
                  have hrl : rs.length ≤ 29 := by have := HLE.out; omega
                  clear hfre hfz
                  go_wp2_with fail
                  go_at_call 58
                  refine HFRZ.out.mono ?_
                  rintro e wz ⟨rfl, mm, rfl⟩
                  have HSZ : Hid (Sys (wy.drewN mm) p r s 40 40 ly gy cy (E.crash []) ⟨0, 30, rs.length, nx, fun k => (E.crash []).R (64 * 0 + k), false⟩) := Lib.hid (HSY.out.below ⟨rfl, rfl, rfl, Nat.le_refl _, fun _ _ => rfl⟩)
                  have HBZ : Hid (Below w.heap.size w (wy.drewN mm)) := Lib.hid (HBY.out.trans ⟨rfl, rfl, rfl, Nat.le_refl _, fun _ _ => rfl⟩)
                  obtain ⟨wz, hwz⟩ : ∃ wz, wz = wy.drewN mm := ⟨_, rfl⟩
                  rw [← hwz] at HSZ HBZ ⊢
                  clear hwz
                  have hbc := Bytes.of_new wz #[.int .u8 97, .int .u8 103, .int .u8 97, .int .u8 105, .int .u8 110] 5 (5, 6) 5 again rfl (by decide) rfl
                  have hW : Below wz.heap.size wz (wz.alloc (.cells #[.int .u8 97, .int .u8 103, .int .u8 97, .int .u8 105, .int .u8 110] 5 (5, 6))) := (Below.refl _ _).alloc (Nat.le_refl _) _
                  have hap := Append_good ly gy cy p r s 40 40 (E.crash []) _ rs (some ⟨wz.heap.size, 0, none⟩) 5 5 again _ (HSZ.out.below hW) HAR.out.holds rfl hbc (by omega) (by show E.calls + 200 < _; omega)
                  rw [again_out (by show rs.length < 512; omega) (by show nx < 30; omega)] at hap
                  have HAPZ := Lib.hid hap
                  have HWZ := Lib.hid (HBZ.out.trans (hW.mono HBZ.out.size))
                  clear hbc hW hap
                  go_wp2_with fail
                  go_at_call 50
                  refine HAPZ.out.mono ?_
                  rintro e wu ⟨Du, Lu, rfl, hsu, huu, _, _, hfru, htou, _, _, _, hdnu⟩
                  have haru := (hdnu trivial).holds.area
                  rw [hfru, htou] at haru
                  have HBU := Lib.hid (HWZ.out.trans (huu.below (blk_far HP.out HLY.out) HWZ.out.size))
                  have HOU := Lib.hid (Open_area p r s 40 40 Du 0 30 Lu.next _ wu hsu.d haru)
                  clear hsu huu hfru htou hdnu haru
                  go_wp2_with fail
                  go_at_call 49
                  refine HOU.out.mono ?_
                  rintro e wv ⟨lv, gv, cv, vv, rfl, hlv, hrv, _, _, hbv⟩
                  have HBV := Lib.hid (HBU.out.trans (hbv.mono HBU.out.size))
                  obtain ⟨Av, cvv, rfl, _⟩ := id hrv
                  obtain ⟨gk, ok, Ak, ck, rfl, kk, hyk⟩ := hrv.row (j := rs.length) (by simp)
                  have eln : (rs ++ [again]).length = rs.length + 1 := by simp
                  have eat : (rs ++ [again])[rs.length]'(by simp) = again := by simp
                  rw [eat] at kk hyk
                  have kk' : wv.cell? ⟨gk, ok + rs.length, none⟩ = some (.slice Ak 5 ck) := kk
                  have hcv : (convert 22 9 (.slice Ak 5 ck)).run Try.prog wv = .ok (.string ⟨#[97, 103, 97, 105, 110]⟩) wv := hyk.to_string 22 9 5 ck Try.underlying22 Try.underlying5 Try.underlying9
                  rw [eln]
                  have q1 : (0 : Int) ≤ (rs.length : Int) := by omega
                  have q2 : (rs.length : Int) < (rs.length : Int) + 1 := by omega
                  clear hlv hbv kk hyk eln eat hrv
                  go_wp2_with (go_at_call 47; refine (awake3_any _).mono ?_; rintro e w9 ⟨rfl, hb9⟩)
                  go_ret
                  exact ⟨rfl, HBV.out.trans (hb9.mono HBV.out.size)⟩
              · have l2 : (k : Int) < 6 := by omega
                by_cases hk1 : k = 1
                · have l1 : ((k : Int) == 1) = true := beq_iff_eq.2 (by omega)
                  have HCR := Lib.hid (Crash_nil p r s 40 40 E wq HFQ.out.sys.d)
                  have HHC : Hid (Wl.Heals (E.crash []) 0 30 (fun _ => True)) := Lib.hid (by
                    obtain ⟨rs, nx, _, har⟩ := HHQ.out HFQ.out.sys.d.ok [] (fun x hx => by cases hx)
                    exact har.heals.weak (fun _ _ => trivial))
                  clear hk1
                  go_wp2_with fail
                  go_at_call 37
                  refine HCR.out.mono ?_
                  rintro e wx ⟨rfl, hdx, hux⟩
                  have HSX := Lib.hid (HFQ.out.sys.disk hdx hux)
                  have HBX := Lib.hid (HFQ.out.bel.trans (hux.below (dT_far HP.out) HFQ.out.bel.size))
                  obtain ⟨gx, ox, Bx, dx, ex, kx, hyx⟩ := (HRB.out.below HBX.out).row hkt
                  cases ex
                  have kw := HRB.out.row hkt
                  obtain ⟨gw, ow, Bw, dw, ew, kw, hyw⟩ := kw
                  cases ew
                  have eq1 := ((HBX.out.cell (World.block_lt_of_cell? w _ kw)).trans kw).symm.trans kx
                  have eq2 := ((HFQ.out.bel.cell (World.block_lt_of_cell? w _ kw)).trans kw).symm.trans (HKK.out)
                  have HYX : Hid (Bytes wx Bk bk.length bk) := Lib.hid (by
                    have hy := hyw.below HBX.out
                    rw [← HBK.out] at hy eq2
                    simp only [Option.some.injEq, Value.slice.injEq] at eq2
                    rw [← eq2.1]; exact hy)
                  clear hdx hux hyx kx kw hyw eq1 eq2
                  have HAPF := Lib.hid (Append_failed l g cap p r s 40 40 (E.crash []) L Bk bk.length dk bk wx HSX.out HLF.out (by have := HFQ.out.n; omega) (by have := HFQ.out.next; have := HFQ.out.to; omega) (by have := HFQ.out.to; omega) (by have := HFQ.out.fr; omega) HYX.out (by omega) (by have := HFQ.out.calls; show (E.crash []).calls + 200 < _; first | omega | (simp only [Dk.crash]; omega)))
                  by_cases c1 : 8192 < bk.length
                  · have hapf := HAPF.out
                    rw [if_pos c1] at hapf
                    have HAPG := Lib.hid hapf
                    clear hapf HAPF
                    have c1' : (8192 : Int) < (bk.length : Int) := by omega
                    go_wp2_with fail
                    go_at_call 50
                    refine HAPG.out.mono ?_
                    rintro e wt ⟨rfl, hsq2, hut⟩
                    go_wp2_with fail
                    refine ⟨⟨k + 1, _, by go_num, Lib.hid ⟨hsq2, HBX.out.trans (hut.below (blk_far HP.out HLG.out) HBX.out.size), HFQ.out.fr, HFQ.out.to, HFQ.out.next, HFQ.out.n, HFQ.out.calls⟩, HHC, by omega, by omega⟩, ?_⟩
                    show 7 - ((k : Int) + 1).toNat < 7 - (k : Int).toNat
                    omega
                  · have c1' : (bk.length : Int) ≤ 8192 := by omega
                    obtain ⟨kn, hkn⟩ : ∃ kn, kn = Wl.need bk.length := ⟨_, rfl⟩
                    have HRN := Lib.hid (fun W => RefNeed_nat bk.length W (by omega))
                    simp only [← hkn] at HRN
                    obtain ⟨fz, hfz⟩ : ∃ fz, fz = L.to - L.next := ⟨_, rfl⟩
                    have hfre := LFree_any l g cap p L wx HSX.out.lg (by have := HFQ.out.next; have := HFQ.out.to; omega) (by have := HFQ.out.to; omega)
                    rw [← hfz] at hfre
                    have HFRE := Lib.hid hfre
                    have HFX := Lib.hid (fun mm => Append_failed l g cap p r s 40 40 (E.crash []) L Bk bk.length dk bk (wx.drewN mm) (HSX.out.below ⟨rfl, rfl, rfl, Nat.le_refl _, fun _ _ => rfl⟩) HLF.out (by have := HFQ.out.n; omega) (by have := HFQ.out.next; have := HFQ.out.to; omega) (by have := HFQ.out.to; omega) (by have := HFQ.out.fr; omega) (HYX.out.below ⟨rfl, rfl, rfl, Nat.le_refl _, fun _ _ => rfl⟩) (by omega) (by have := HFQ.out.calls; show (E.crash []).calls + 200 < _; first | omega | (simp only [Dk.crash]; omega)))
                    rw [if_neg c1, ← hkn, ← hfz] at HFX
                    clear hfre HAPF
                    by_cases c2 : fz < kn
                    · have c2' : decide ((fz : Int) < (kn : Int)) = true := decide_eq_true (by omega)
                      rw [if_pos c2] at HFX
                      clear hkn hfz
                      go_wp2_with (go_at_call 46; refine (HRN.out _).mono ?_; rintro e wn ⟨rfl, rfl⟩)
                      go_at_call 58
                      refine HFRE.out.mono ?_
                      rintro e wm ⟨rfl, mm, rfl⟩
                      go_wp2_with fail
                      go_at_call 50
                      refine (HFX.out mm).mono ?_
                      rintro e wt ⟨rfl, hsq2, hut⟩
                      have hbd : Below w.heap.size w (wx.drewN mm) := HBX.out.trans ⟨rfl, rfl, rfl, Nat.le_refl _, fun _ _ => rfl⟩
                      go_wp2_with fail
                      refine ⟨⟨k + 1, _, by go_num, Lib.hid ⟨hsq2, hbd.trans (hut.below (blk_far HP.out HLG.out) hbd.size), HFQ.out.fr, HFQ.out.to, HFQ.out.next, HFQ.out.n, HFQ.out.calls⟩, HHC, by omega, by omega⟩, ?_⟩
                      show 7 - ((k : Int) + 1).toNat < 7 - (k : Int).toNat
                      omega
                    · have c2' : decide ((fz : Int) < (kn : Int)) = false := decide_eq_false (by omega)
                      rw [if_neg c2] at HFX
                      clear hkn hfz
                      go_wp2_with (go_at_call 46; refine (HRN.out _).mono ?_; rintro e wn ⟨rfl, rfl⟩)
                      go_at_call 58
                      refine HFRE.out.mono ?_
                      rintro e wm ⟨rfl, mm, rfl⟩
                      go_wp2_with fail
                      go_at_call 50
                      refine (HFX.out mm).mono ?_
                      rintro e wt ⟨rfl, hsq2, hut⟩
                      have hbd : Below w.heap.size w (wx.drewN mm) := HBX.out.trans ⟨rfl, rfl, rfl, Nat.le_refl _, fun _ _ => rfl⟩
                      go_wp2_with fail
                      refine ⟨⟨k + 1, _, by go_num, Lib.hid ⟨hsq2, hbd.trans (hut.below (blk_far HP.out HLG.out) hbd.size), HFQ.out.fr, HFQ.out.to, HFQ.out.next, HFQ.out.n, HFQ.out.calls⟩, HHC, by omega, by omega⟩, ?_⟩
                      show 7 - ((k : Int) + 1).toNat < 7 - (k : Int).toNat
                      omega
                · have l1 : ((k : Int) == 1) = false := beq_eq_false_iff_ne.2 (by omega)
                  have HSX := Lib.hid HFQ.out.sys
                  have HBX := Lib.hid HFQ.out.bel
                  clear hk1
                  have HAPF := Lib.hid (Append_failed l g cap p r s 40 40 E L Bk bk.length dk bk wq HSX.out HLF.out (by have := HFQ.out.n; omega) (by have := HFQ.out.next; have := HFQ.out.to; omega) (by have := HFQ.out.to; omega) (by have := HFQ.out.fr; omega) HYK.out (by omega) (by have := HFQ.out.calls; show E.calls + 200 < _; first | omega | (simp only [Dk.crash]; omega)))
                  by_cases c1 : 8192 < bk.length
                  · have hapf := HAPF.out
                    rw [if_pos c1] at hapf
                    have HAPG := Lib.hid hapf
                    clear hapf HAPF
                    have c1' : (8192 : Int) < (bk.length : Int) := by omega
                    go_wp2_with fail
                    go_at_call 50
                    refine HAPG.out.mono ?_
                    rintro e wt ⟨rfl, hsq2, hut⟩
                    go_wp2_with fail
                    refine ⟨⟨k + 1, _, by go_num, Lib.hid ⟨hsq2, HBX.out.trans (hut.below (blk_far HP.out HLG.out) HBX.out.size), HFQ.out.fr, HFQ.out.to, HFQ.out.next, HFQ.out.n, HFQ.out.calls⟩, HHQ, by omega, by omega⟩, ?_⟩
                    show 7 - ((k : Int) + 1).toNat < 7 - (k : Int).toNat
                    omega
                  · have c1' : (bk.length : Int) ≤ 8192 := by omega
                    obtain ⟨kn, hkn⟩ : ∃ kn, kn = Wl.need bk.length := ⟨_, rfl⟩
                    have HRN := Lib.hid (fun W => RefNeed_nat bk.length W (by omega))
                    simp only [← hkn] at HRN
                    obtain ⟨fz, hfz⟩ : ∃ fz, fz = L.to - L.next := ⟨_, rfl⟩
                    have hfre := LFree_any l g cap p L wq HSX.out.lg (by have := HFQ.out.next; have := HFQ.out.to; omega) (by have := HFQ.out.to; omega)
                    rw [← hfz] at hfre
                    have HFRE := Lib.hid hfre
                    have HFX := Lib.hid (fun mm => Append_failed l g cap p r s 40 40 E L Bk bk.length dk bk (wq.drewN mm) (HSX.out.below ⟨rfl, rfl, rfl, Nat.le_refl _, fun _ _ => rfl⟩) HLF.out (by have := HFQ.out.n; omega) (by have := HFQ.out.next; have := HFQ.out.to; omega) (by have := HFQ.out.to; omega) (by have := HFQ.out.fr; omega) (HYK.out.below ⟨rfl, rfl, rfl, Nat.le_refl _, fun _ _ => rfl⟩) (by omega) (by have := HFQ.out.calls; show E.calls + 200 < _; first | omega | (simp only [Dk.crash]; omega)))
                    rw [if_neg c1, ← hkn, ← hfz] at HFX
                    clear hfre HAPF
                    by_cases c2 : fz < kn
                    · have c2' : decide ((fz : Int) < (kn : Int)) = true := decide_eq_true (by omega)
                      rw [if_pos c2] at HFX
                      clear hkn hfz
                      go_wp2_with (go_at_call 46; refine (HRN.out _).mono ?_; rintro e wn ⟨rfl, rfl⟩)
                      go_at_call 58
                      refine HFRE.out.mono ?_
                      rintro e wm ⟨rfl, mm, rfl⟩
                      go_wp2_with fail
                      go_at_call 50
                      refine (HFX.out mm).mono ?_
                      rintro e wt ⟨rfl, hsq2, hut⟩
                      have hbd : Below w.heap.size w (wq.drewN mm) := HBX.out.trans ⟨rfl, rfl, rfl, Nat.le_refl _, fun _ _ => rfl⟩
                      go_wp2_with fail
                      refine ⟨⟨k + 1, _, by go_num, Lib.hid ⟨hsq2, hbd.trans (hut.below (blk_far HP.out HLG.out) hbd.size), HFQ.out.fr, HFQ.out.to, HFQ.out.next, HFQ.out.n, HFQ.out.calls⟩, HHQ, by omega, by omega⟩, ?_⟩
                      show 7 - ((k : Int) + 1).toNat < 7 - (k : Int).toNat
                      omega
                    · have c2' : decide ((fz : Int) < (kn : Int)) = false := decide_eq_false (by omega)
                      rw [if_neg c2] at HFX
                      clear hkn hfz
                      go_wp2_with (go_at_call 46; refine (HRN.out _).mono ?_; rintro e wn ⟨rfl, rfl⟩)
                      go_at_call 58
                      refine HFRE.out.mono ?_
                      rintro e wm ⟨rfl, mm, rfl⟩
                      go_wp2_with fail
                      go_at_call 50
                      refine (HFX.out mm).mono ?_
                      rintro e wt ⟨rfl, hsq2, hut⟩
                      have hbd : Below w.heap.size w (wq.drewN mm) := HBX.out.trans ⟨rfl, rfl, rfl, Nat.le_refl _, fun _ _ => rfl⟩
                      go_wp2_with fail
                      refine ⟨⟨k + 1, _, by go_num, Lib.hid ⟨hsq2, hbd.trans (hut.below (blk_far HP.out HLG.out) hbd.size), HFQ.out.fr, HFQ.out.to, HFQ.out.next, HFQ.out.n, HFQ.out.calls⟩, HHQ, by omega, by omega⟩, ?_⟩
                      show 7 - ((k : Int) + 1).toNat < 7 - (k : Int).toNat
                      omega
            · have j2 : ¬ (k : Int) < (Lb.length : Int) := by omega
              clear hk6
              have HCR := Lib.hid (Crash_nil p r s 40 40 E wq HFQ.out.sys.d)
              have hcl := HFQ.out.calls
              obtain ⟨rs, nx, _, har⟩ := HHQ.out HFQ.out.sys.d.ok [] (fun x hx => by cases hx)
              have HAR := Lib.hid har
              have HLE := Lib.hid har.laid.le
              have hnx := har.nx
              clear har
              go_wp2_with fail
              go_at_call 37
              refine HCR.out.mono ?_
              rintro e wx ⟨rfl, hdx, hux⟩
              have HBX := Lib.hid (HFQ.out.bel.trans (hux.below (dT_far HP.out) HFQ.out.bel.size))
              have HDX := Lib.hid hdx
              have HOX := Lib.hid (Open_area p r s 40 40 (E.crash []) 0 30 nx rs wx hdx HAR.out)
              clear hdx hux
              go_wp2_with fail
              go_at_call 49
              refine HOX.out.mono ?_
              rintro e wy ⟨ly, gy, cy, vy, rfl, hly, hry, h1, h2, hby⟩
              have HSY := Lib.hid (opened HDX.out hby hly h1 h2)
              have HBY := Lib.hid (HBX.out.trans (hby.mono HBX.out.size))
              have HLY := Lib.hid (show w.heap.size ≤ ly ∧ w.heap.size ≤ gy from ⟨Nat.le_trans HBX.out.size h1, Nat.le_trans HBX.out.size h2⟩)
              have HFRY := Lib.hid (LFree_any ly gy cy p _ wy hly hnx (by show 30 ≤ 4096; omega))
              obtain ⟨Ay, cyy, rfl, _⟩ := hry
              clear hly h1 h2 hby
              by_cases h30 : nx = 30
              · subst h30
                go_wp2_with fail
                go_at_call 58
                refine HFRY.out.mono ?_
                rintro e wz ⟨rfl, mm, rfl⟩
                go_wp2_with (go_at_call 47; refine (awake3_any _).mono ?_; rintro e w9 ⟨rfl, hb9⟩)
                go_ret
                have hbd : Below w.heap.size w (wy.drewN mm) := HBY.out.trans ⟨rfl, rfl, rfl, Nat.le_refl _, fun _ _ => rfl⟩
                exact ⟨rfl, hbd.trans (hb9.mono hbd.size)⟩
              · have hfree : (1 : Int) ≤ ((30 - nx : Nat) : Int) := by omega
                obtain ⟨fz, hfz⟩ : ∃ fz, fz = 30 - nx := ⟨_, rfl⟩
                have hfre := HFRY.out
                rw [show (⟨0, 30, rs.length, nx, fun k => (E.crash []).R (64 * 0 + k), false⟩ : Wl.Lg).to - (⟨0, 30, rs.length, nx, fun k => (E.crash []).R (64 * 0 + k), false⟩ : Wl.Lg).next = fz from hfz.symm] at hfre
                rw [← hfz] at hfree
                have HFRZ := Lib.hid hfre
                have hrl : rs.length ≤ 29 := by have := HLE.out; omega
                clear hfre hfz
                go_wp2_with fail
                go_at_call 58
                refine HFRZ.out.mono ?_
                rintro e wz ⟨rfl, mm, rfl⟩
                have HSZ : Hid (Sys (wy.drewN mm) p r s 40 40 ly gy cy (E.crash []) ⟨0, 30, rs.length, nx, fun k => (E.crash []).R (64 * 0 + k), false⟩) := Lib.hid (HSY.out.below ⟨rfl, rfl, rfl, Nat.le_refl _, fun _ _ => rfl⟩)
                have HBZ : Hid (Below w.heap.size w (wy.drewN mm)) := Lib.hid (HBY.out.trans ⟨rfl, rfl, rfl, Nat.le_refl _, fun _ _ => rfl⟩)
                obtain ⟨wz, hwz⟩ : ∃ wz, wz = wy.drewN mm := ⟨_, rfl⟩
                rw [← hwz] at HSZ HBZ ⊢
                clear hwz
                have hbc := Bytes.of_new wz #[.int .u8 97, .int .u8 103, .int .u8 97, .int .u8 105, .int .u8 110] 5 (5, 6) 5 again rfl (by decide) rfl
                have hW : Below wz.heap.size wz (wz.alloc (.cells #[.int .u8 97, .int .u8 103, .int .u8 97, .int .u8 105, .int .u8 110] 5 (5, 6))) := (Below.refl _ _).alloc (Nat.le_refl _) _
                have hap := Append_good ly gy cy p r s 40 40 (E.crash []) _ rs (some ⟨wz.heap.size, 0, none⟩) 5 5 again _ (HSZ.out.below hW) HAR.out.holds rfl hbc (by omega) (by show E.calls + 200 < _; omega)
                rw [again_out (by show rs.length < 512; omega) (by show nx < 30; omega)] at hap
                have HAPZ := Lib.hid hap
                have HWZ := Lib.hid (HBZ.out.trans (hW.mono HBZ.out.size))
                clear hbc hW hap
                go_wp2_with fail
                go_at_call 50
                refine HAPZ.out.mono ?_
                rintro e wu ⟨Du, Lu, rfl, hsu, huu, _, _, hfru, htou, _, _, _, hdnu⟩
                have haru := (hdnu trivial).holds.area
                rw [hfru, htou] at haru
                have HBU := Lib.hid (HWZ.out.trans (huu.below (blk_far HP.out HLY.out) HWZ.out.size))
                have HOU := Lib.hid (Open_area p r s 40 40 Du 0 30 Lu.next _ wu hsu.d haru)
                clear hsu huu hfru htou hdnu haru
                go_wp2_with fail
                go_at_call 49
                refine HOU.out.mono ?_
                rintro e wv ⟨lv, gv, cv, vv, rfl, hlv, hrv, _, _, hbv⟩
                have HBV := Lib.hid (HBU.out.trans (hbv.mono HBU.out.size))
                obtain ⟨Av, cvv, rfl, _⟩ := id hrv
                obtain ⟨gk, ok, Ak, ck, rfl, kk, hyk⟩ := hrv.row (j := rs.length) (by simp)
                have eln : (rs ++ [again]).length = rs.length + 1 := by simp
                have eat : (rs ++ [again])[rs.length]'(by simp) = again := by simp
                rw [eat] at kk hyk
                have kk' : wv.cell? ⟨gk, ok + rs.length, none⟩ = some (.slice Ak 5 ck) := kk
                have hcv : (convert 22 9 (.slice Ak 5 ck)).run Try.prog wv = .ok (.string ⟨#[97, 103, 97, 105, 110]⟩) wv := hyk.to_string 22 9 5 ck Try.underlying22 Try.underlying5 Try.underlying9
                rw [eln]
                have q1 : (0 : Int) ≤ (rs.length : Int) := by omega
                have q2 : (rs.length : Int) < (rs.length : Int) + 1 := by omega
                clear hlv hbv kk hyk eln eat hrv
                go_wp2_with (go_at_call 47; refine (awake3_any _).mono ?_; rintro e w9 ⟨rfl, hb9⟩)
                go_ret
                exact ⟨rfl, HBV.out.trans (hb9.mono HBV.out.size)⟩
        | false =>
          obtain ⟨⟨rs, hh⟩, hnn⟩ := HFF.out (by first | rfl | trivial)
          have HAL := Lib.hid (Append_all l g cap p r s 40 40 D L rs B1 b1.length d1 b1 wr HFL.out.sys hh HKY.out (by omega) (by have := HFL.out.calls; omega))
          have HNN := Lib.hid hnn
          clear hh hnn
          go_wp2_with fail
          go_at_call 50
          refine HAL.out.mono ?_
          rintro e w6 ⟨D6, L6, x6, rfl, hs6, hu6, hn6, hc6, hfr6, hto6, hnx6, hln6, hout⟩
          have HF6 : Hid (Fl w w6 p r s l g cap D6 L6 (10 + 200 * (i + 1))) := Lib.hid ⟨hs6, HFL.out.bel.trans (hu6.below (blk_far HP.out HLG.out) HFL.out.bel.size), hfr6.trans HFL.out.fr, hto6.trans HFL.out.to, by have := HFL.out.to; omega, by have := HNN.out; omega, by have := HFL.out.calls; omega⟩
          have HR6 := Lib.hid (HRP.out.upd hu6 (fun k hq _ hT => by have := HFT.out k hT; omega))
          have HLN := Lib.hid (show L6.n ≤ i + 1 by have := HNN.out; omega)
          have HFR0 := Lib.hid (And.intro HFL.out.fr HFL.out.to)
          rcases hout with ⟨rfl, hbig, _, _⟩ | ⟨rfl, rfl, rfl⟩ | ⟨rfl, hh6⟩ | ⟨rfl, hf6, hhe6⟩
          · omega
          · have HH6 := Lib.hid (HFF.out (by first | rfl | trivial)).1
            clear hs6 hu6 hn6 hc6 hfr6 hto6 hnx6 hln6
            go_wp2_with fail
            refine ⟨⟨false, i + 1, _, _, rfl, by go_num, HF6, HR6, Lib.hid (fun _ => ⟨HH6.out, HLN.out⟩), Lib.hid (fun h => by cases h), by omega⟩, ?_⟩
            show P.length - ((i : Int) + 1).toNat < P.length - (i : Int).toNat
            omega
          · have HH6 : Hid (∃ rs, Wl.Holds D6 L6 rs) := Lib.hid ⟨_, hh6⟩
            clear hs6 hu6 hn6 hc6 hfr6 hto6 hnx6 hln6 hh6
            go_wp2_with fail
            refine ⟨⟨false, i + 1, _, _, rfl, by go_num, HF6, HR6, Lib.hid (fun _ => ⟨HH6.out, HLN.out⟩), Lib.hid (fun h => by cases h), by omega⟩, ?_⟩
            show P.length - ((i : Int) + 1).toNat < P.length - (i : Int).toNat
            omega
          · have HH6 := Lib.hid (And.intro hf6 hhe6)
            clear hs6 hu6 hn6 hc6 hfr6 hto6 hnx6 hln6 hf6 hhe6
            go_wp2_with fail
            refine ⟨⟨true, i + 1, _, _, rfl, by go_num, HF6, HR6, Lib.hid (fun h => by cases h), Lib.hid (fun _ => ⟨HH6.out.1, by have h9 := HH6.out.2; rw [HFR0.out.1, HFR0.out.2] at h9; exact h9.weak (fun _ _ => trivial)⟩), by omega⟩, ?_⟩
            show P.length - ((i : Int) + 1).toNat < P.length - (i : Int).toNat
            omega
      · have h10' : (10 : Int) ≤ (i : Int) := by omega
        cases fl with
        | true =>
          obtain ⟨hlf, hhe⟩ := HFT'.out (by first | rfl | trivial)
          have HLF := Lib.hid hlf
          have HHE := Lib.hid hhe
          clear hlf hhe
          go_wp2_with fail
          go_loopw [81] (fun a wq => ∃ (k : Nat) (E : Dk), a = .int .i64 k ∧ Hid (Fl w wq p r s l g cap E L 5000) ∧ Hid (Wl.Heals E 0 30 (fun _ => True)) ∧ k ≤ Lb.length ∧ k ≤ 6) (fun a _ => 7 - (match a with | .int _ x => x.toNat | _ => 0))
          case atStart => exact ⟨0, D, rfl, Lib.hid ⟨HFL.out.sys, HFL.out.bel, HFL.out.fr, HFL.out.to, HFL.out.next, HFL.out.n, by have := HFL.out.calls; omega⟩, HHE, Nat.zero_le _, by omega⟩
          case round =>
            obtain ⟨k, E, rfl, HFQ, HHQ, hkl, hk6⟩ := hrel
            obtain ⟨wq, rfl⟩ : ∃ wq : World, wq = wr := ⟨_, rfl⟩
            have j1 : (0 : Int) ≤ (k : Int) := by omega
            by_cases hkt : k < Lb.length
            · have j2 : (k : Int) < (Lb.length : Int) := by omega
              have hrb := HRB.out.below HFQ.out.bel
              obtain ⟨gk, ok, Bk, dk, ek, kk, hyk⟩ := hrb.row hkt
              subst ek
              have hb2 := HB2.out _ (List.getElem_mem hkt)
              obtain ⟨bk, hbk⟩ : ∃ bk, bk = Lb[k] := ⟨_, rfl⟩
              rw [← hbk] at kk hyk hb2
              have HYK := Lib.hid hyk
              have HKK := Lib.hid kk
              have HBK := Lib.hid hbk
              clear hrb hyk hbk
              by_cases hk7 : k = 6
              · have l1 : ((k : Int) == 1) = false := beq_eq_false_iff_ne.2 (by omega)
                have l2 : (6 : Int) ≤ (k : Int) := by omega
                clear hk7
                have HCR := Lib.hid (Crash_nil p r s 40 40 E wq HFQ.out.sys.d)
                have hcl := HFQ.out.calls
                obtain ⟨rs, nx, _, har⟩ := HHQ.out HFQ.out.sys.d.ok [] (fun x hx => by cases hx)
                have HAR := Lib.hid har
                have HLE := Lib.hid har.laid.le
                have hnx := har.nx
                clear har
                go_wp2_with fail
                go_at_call 37
                refine HCR.out.mono ?_
                rintro e wx ⟨rfl, hdx, hux⟩
                have HBX := Lib.hid (HFQ.out.bel.trans (hux.below (dT_far HP.out) HFQ.out.bel.size))
                have HDX := Lib.hid hdx
                have HOX := Lib.hid (Open_area p r s 40 40 (E.crash []) 0 30 nx rs wx hdx HAR.out)
                clear hdx hux
                go_wp2_with fail
                go_at_call 49
                refine HOX.out.mono ?_
                rintro e wy ⟨ly, gy, cy, vy, rfl, hly, hry, h1, h2, hby⟩
                have HSY := Lib.hid (opened HDX.out hby hly h1 h2)
                have HBY := Lib.hid (HBX.out.trans (hby.mono HBX.out.size))
                have HLY := Lib.hid (show w.heap.size ≤ ly ∧ w.heap.size ≤ gy from ⟨Nat.le_trans HBX.out.size h1, Nat.le_trans HBX.out.size h2⟩)
                have HFRY := Lib.hid (LFree_any ly gy cy p _ wy hly hnx (by show 30 ≤ 4096; omega))
                obtain ⟨Ay, cyy, rfl, _⟩ := hry
                clear hly h1 h2 hby
                by_cases h30 : nx = 30
                · subst h30
                  go_wp2_with fail
                  go_at_call 58
                  refine HFRY.out.mono ?_
                  rintro e wz ⟨rfl, mm, rfl⟩
                  go_wp2_with (go_at_call 47; refine (awake3_any _).mono ?_; rintro e w9 ⟨rfl, hb9⟩)
                  go_ret
                  have hbd : Below w.heap.size w (wy.drewN mm) := HBY.out.trans ⟨rfl, rfl, rfl, Nat.le_refl _, fun _ _ => rfl⟩
                  exact ⟨rfl, hbd.trans (hb9.mono hbd.size)⟩
                · have hfree : (1 : Int) ≤ ((30 - nx : Nat) : Int) := by omega
                  obtain ⟨fz, hfz⟩ : ∃ fz, fz = 30 - nx := ⟨_, rfl⟩
                  have hfre := HFRY.out
                  rw [show (⟨0, 30, rs.length, nx, fun k => (E.crash []).R (64 * 0 + k), false⟩ : Wl.Lg).to - (⟨0, 30, rs.length, nx, fun k => (E.crash []).R (64 * 0 + k), false⟩ : Wl.Lg).next = fz from hfz.symm] at hfre
                  rw [← hfz] at hfree
                  have HFRZ := Lib.hid hfre
                  have hrl : rs.length ≤ 29 := by have := HLE.out; omega
                  clear hfre hfz
                  go_wp2_with fail
                  go_at_call 58
                  refine HFRZ.out.mono ?_
                  rintro e wz ⟨rfl, mm, rfl⟩
                  have HSZ : Hid (Sys (wy.drewN mm) p r s 40 40 ly gy cy (E.crash []) ⟨0, 30, rs.length, nx, fun k => (E.crash []).R (64 * 0 + k), false⟩) := Lib.hid (HSY.out.below ⟨rfl, rfl, rfl, Nat.le_refl _, fun _ _ => rfl⟩)
                  have HBZ : Hid (Below w.heap.size w (wy.drewN mm)) := Lib.hid (HBY.out.trans ⟨rfl, rfl, rfl, Nat.le_refl _, fun _ _ => rfl⟩)
                  obtain ⟨wz, hwz⟩ : ∃ wz, wz = wy.drewN mm := ⟨_, rfl⟩
                  rw [← hwz] at HSZ HBZ ⊢
                  clear hwz
                  have hbc := Bytes.of_new wz #[.int .u8 97, .int .u8 103, .int .u8 97, .int .u8 105, .int .u8 110] 5 (5, 6) 5 again rfl (by decide) rfl
                  have hW : Below wz.heap.size wz (wz.alloc (.cells #[.int .u8 97, .int .u8 103, .int .u8 97, .int .u8 105, .int .u8 110] 5 (5, 6))) := (Below.refl _ _).alloc (Nat.le_refl _) _
                  have hap := Append_good ly gy cy p r s 40 40 (E.crash []) _ rs (some ⟨wz.heap.size, 0, none⟩) 5 5 again _ (HSZ.out.below hW) HAR.out.holds rfl hbc (by omega) (by show E.calls + 200 < _; omega)
                  rw [again_out (by show rs.length < 512; omega) (by show nx < 30; omega)] at hap
                  have HAPZ := Lib.hid hap
                  have HWZ := Lib.hid (HBZ.out.trans (hW.mono HBZ.out.size))
                  clear hbc hW hap
                  go_wp2_with fail
                  go_at_call 50
                  refine HAPZ.out.mono ?_
                  rintro e wu ⟨Du, Lu, rfl, hsu, huu, _, _, hfru, htou, _, _, _, hdnu⟩
                  have haru := (hdnu trivial).holds.area
                  rw [hfru, htou] at haru
                  have HBU := Lib.hid (HWZ.out.trans (huu.below (blk_far HP.out HLY.out) HWZ.out.size))
                  have HOU := Lib.hid (Open_area p r s 40 40 Du 0 30 Lu.next _ wu hsu.d haru)
                  clear hsu huu hfru htou hdnu haru
                  go_wp2_with fail
                  go_at_call 49
                  refine HOU.out.mono ?_
                  rintro e wv ⟨lv, gv, cv, vv, rfl, hlv, hrv, _, _, hbv⟩
                  have HBV := Lib.hid (HBU.out.trans (hbv.mono HBU.out.size))
                  obtain ⟨Av, cvv, rfl, _⟩ := id hrv
                  obtain ⟨gk, ok, Ak, ck, rfl, kk, hyk⟩ := hrv.row (j := rs.length) (by simp)
                  have eln : (rs ++ [again]).length = rs.length + 1 := by simp
                  have eat : (rs ++ [again])[rs.length]'(by simp) = again := by simp
                  rw [eat] at kk hyk
                  have kk' : wv.cell? ⟨gk, ok + rs.length, none⟩ = some (.slice Ak 5 ck) := kk
                  have hcv : (convert 22 9 (.slice Ak 5 ck)).run Try.prog wv = .ok (.string ⟨#[97, 103, 97, 105, 110]⟩) wv := hyk.to_string 22 9 5 ck Try.underlying22 Try.underlying5 Try.underlying9
                  rw [eln]
                  have q1 : (0 : Int) ≤ (rs.length : Int) := by omega
                  have q2 : (rs.length : Int) < (rs.length : Int) + 1 := by omega
                  clear hlv hbv kk hyk eln eat hrv
                  go_wp2_with (go_at_call 47; refine (awake3_any _).mono ?_; rintro e w9 ⟨rfl, hb9⟩)
                  go_ret
                  exact ⟨rfl, HBV.out.trans (hb9.mono HBV.out.size)⟩
              · have l2 : (k : Int) < 6 := by omega
                by_cases hk1 : k = 1
                · have l1 : ((k : Int) == 1) = true := beq_iff_eq.2 (by omega)
                  have HCR := Lib.hid (Crash_nil p r s 40 40 E wq HFQ.out.sys.d)
                  have HHC : Hid (Wl.Heals (E.crash []) 0 30 (fun _ => True)) := Lib.hid (by
                    obtain ⟨rs, nx, _, har⟩ := HHQ.out HFQ.out.sys.d.ok [] (fun x hx => by cases hx)
                    exact har.heals.weak (fun _ _ => trivial))
                  clear hk1
                  go_wp2_with fail
                  go_at_call 37
                  refine HCR.out.mono ?_
                  rintro e wx ⟨rfl, hdx, hux⟩
                  have HSX := Lib.hid (HFQ.out.sys.disk hdx hux)
                  have HBX := Lib.hid (HFQ.out.bel.trans (hux.below (dT_far HP.out) HFQ.out.bel.size))
                  obtain ⟨gx, ox, Bx, dx, ex, kx, hyx⟩ := (HRB.out.below HBX.out).row hkt
                  cases ex
                  have kw := HRB.out.row hkt
                  obtain ⟨gw, ow, Bw, dw, ew, kw, hyw⟩ := kw
                  cases ew
                  have eq1 := ((HBX.out.cell (World.block_lt_of_cell? w _ kw)).trans kw).symm.trans kx
                  have eq2 := ((HFQ.out.bel.cell (World.block_lt_of_cell? w _ kw)).trans kw).symm.trans (HKK.out)
                  have HYX : Hid (Bytes wx Bk bk.length bk) := Lib.hid (by
                    have hy := hyw.below HBX.out
                    rw [← HBK.out] at hy eq2
                    simp only [Option.some.injEq, Value.slice.injEq] at eq2
                    rw [← eq2.1]; exact hy)
                  clear hdx hux hyx kx kw hyw eq1 eq2
                  have HAPF := Lib.hid (Append_failed l g cap p r s 40 40 (E.crash []) L Bk bk.length dk bk wx HSX.out HLF.out (by have := HFQ.out.n; omega) (by have := HFQ.out.next; have := HFQ.out.to; omega) (by have := HFQ.out.to; omega) (by have := HFQ.out.fr; omega) HYX.out (by omega) (by have := HFQ.out.calls; show (E.crash []).calls + 200 < _; first | omega | (simp only [Dk.crash]; omega)))
                  by_cases c1 : 8192 < bk.length
                  · have hapf := HAPF.out
                    rw [if_pos c1] at hapf
                    have HAPG := Lib.hid hapf
                    clear hapf HAPF
                    have c1' : (8192 : Int) < (bk.length : Int) := by omega
                    go_wp2_with fail
                    go_at_call 50
                    refine HAPG.out.mono ?_
                    rintro e wt ⟨rfl, hsq2, hut⟩
                    go_wp2_with fail
                    refine ⟨⟨k + 1, _, by go_num, Lib.hid ⟨hsq2, HBX.out.trans (hut.below (blk_far HP.out HLG.out) HBX.out.size), HFQ.out.fr, HFQ.out.to, HFQ.out.next, HFQ.out.n, HFQ.out.calls⟩, HHC, by omega, by omega⟩, ?_⟩
                    show 7 - ((k : Int) + 1).toNat < 7 - (k : Int).toNat
                    omega
                  · have c1' : (bk.length : Int) ≤ 8192 := by omega
                    obtain ⟨kn, hkn⟩ : ∃ kn, kn = Wl.need bk.length := ⟨_, rfl⟩
                    have HRN := Lib.hid (fun W => RefNeed_nat bk.length W (by omega))
                    simp only [← hkn] at HRN
                    obtain ⟨fz, hfz⟩ : ∃ fz, fz = L.to - L.next := ⟨_, rfl⟩
                    have hfre := LFree_any l g cap p L wx HSX.out.lg (by have := HFQ.out.next; have := HFQ.out.to; omega) (by have := HFQ.out.to; omega)
                    rw [← hfz] at hfre
                    have HFRE := Lib.hid hfre
                    have HFX := Lib.hid (fun mm => Append_failed l g cap p r s 40 40 (E.crash []) L Bk bk.length dk bk (wx.drewN mm) (HSX.out.below ⟨rfl, rfl, rfl, Nat.le_refl _, fun _ _ => rfl⟩) HLF.out (by have := HFQ.out.n; omega) (by have := HFQ.out.next; have := HFQ.out.to; omega) (by have := HFQ.out.to; omega) (by have := HFQ.out.fr; omega) (HYX.out.below ⟨rfl, rfl, rfl, Nat.le_refl _, fun _ _ => rfl⟩) (by omega) (by have := HFQ.out.calls; show (E.crash []).calls + 200 < _; first | omega | (simp only [Dk.crash]; omega)))
                    rw [if_neg c1, ← hkn, ← hfz] at HFX
                    clear hfre HAPF
                    by_cases c2 : fz < kn
                    · have c2' : decide ((fz : Int) < (kn : Int)) = true := decide_eq_true (by omega)
                      rw [if_pos c2] at HFX
                      clear hkn hfz
                      go_wp2_with (go_at_call 46; refine (HRN.out _).mono ?_; rintro e wn ⟨rfl, rfl⟩)
                      go_at_call 58
                      refine HFRE.out.mono ?_
                      rintro e wm ⟨rfl, mm, rfl⟩
                      go_wp2_with fail
                      go_at_call 50
                      refine (HFX.out mm).mono ?_
                      rintro e wt ⟨rfl, hsq2, hut⟩
                      have hbd : Below w.heap.size w (wx.drewN mm) := HBX.out.trans ⟨rfl, rfl, rfl, Nat.le_refl _, fun _ _ => rfl⟩
                      go_wp2_with fail
                      refine ⟨⟨k + 1, _, by go_num, Lib.hid ⟨hsq2, hbd.trans (hut.below (blk_far HP.out HLG.out) hbd.size), HFQ.out.fr, HFQ.out.to, HFQ.out.next, HFQ.out.n, HFQ.out.calls⟩, HHC, by omega, by omega⟩, ?_⟩
                      show 7 - ((k : Int) + 1).toNat < 7 - (k : Int).toNat
                      omega
                    · have c2' : decide ((fz : Int) < (kn : Int)) = false := decide_eq_false (by omega)
                      rw [if_neg c2] at HFX
                      clear hkn hfz
                      go_wp2_with (go_at_call 46; refine (HRN.out _).mono ?_; rintro e wn ⟨rfl, rfl⟩)
                      go_at_call 58
                      refine HFRE.out.mono ?_
                      rintro e wm ⟨rfl, mm, rfl⟩
                      go_wp2_with fail
                      go_at_call 50
                      refine (HFX.out mm).mono ?_
                      rintro e wt ⟨rfl, hsq2, hut⟩
                      have hbd : Below w.heap.size w (wx.drewN mm) := HBX.out.trans ⟨rfl, rfl, rfl, Nat.le_refl _, fun _ _ => rfl⟩
                      go_wp2_with fail
                      refine ⟨⟨k + 1, _, by go_num, Lib.hid ⟨hsq2, hbd.trans (hut.below (blk_far HP.out HLG.out) hbd.size), HFQ.out.fr, HFQ.out.to, HFQ.out.next, HFQ.out.n, HFQ.out.calls⟩, HHC, by omega, by omega⟩, ?_⟩
                      show 7 - ((k : Int) + 1).toNat < 7 - (k : Int).toNat
                      omega
                · have l1 : ((k : Int) == 1) = false := beq_eq_false_iff_ne.2 (by omega)
                  have HSX := Lib.hid HFQ.out.sys
                  have HBX := Lib.hid HFQ.out.bel
                  clear hk1
                  have HAPF := Lib.hid (Append_failed l g cap p r s 40 40 E L Bk bk.length dk bk wq HSX.out HLF.out (by have := HFQ.out.n; omega) (by have := HFQ.out.next; have := HFQ.out.to; omega) (by have := HFQ.out.to; omega) (by have := HFQ.out.fr; omega) HYK.out (by omega) (by have := HFQ.out.calls; show E.calls + 200 < _; first | omega | (simp only [Dk.crash]; omega)))
                  by_cases c1 : 8192 < bk.length
                  · have hapf := HAPF.out
                    rw [if_pos c1] at hapf
                    have HAPG := Lib.hid hapf
                    clear hapf HAPF
                    have c1' : (8192 : Int) < (bk.length : Int) := by omega
                    go_wp2_with fail
                    go_at_call 50
                    refine HAPG.out.mono ?_
                    rintro e wt ⟨rfl, hsq2, hut⟩
                    go_wp2_with fail
                    refine ⟨⟨k + 1, _, by go_num, Lib.hid ⟨hsq2, HBX.out.trans (hut.below (blk_far HP.out HLG.out) HBX.out.size), HFQ.out.fr, HFQ.out.to, HFQ.out.next, HFQ.out.n, HFQ.out.calls⟩, HHQ, by omega, by omega⟩, ?_⟩
                    show 7 - ((k : Int) + 1).toNat < 7 - (k : Int).toNat
                    omega
                  · have c1' : (bk.length : Int) ≤ 8192 := by omega
                    obtain ⟨kn, hkn⟩ : ∃ kn, kn = Wl.need bk.length := ⟨_, rfl⟩
                    have HRN := Lib.hid (fun W => RefNeed_nat bk.length W (by omega))
                    simp only [← hkn] at HRN
                    obtain ⟨fz, hfz⟩ : ∃ fz, fz = L.to - L.next := ⟨_, rfl⟩
                    have hfre := LFree_any l g cap p L wq HSX.out.lg (by have := HFQ.out.next; have := HFQ.out.to; omega) (by have := HFQ.out.to; omega)
                    rw [← hfz] at hfre
                    have HFRE := Lib.hid hfre
                    have HFX := Lib.hid (fun mm => Append_failed l g cap p r s 40 40 E L Bk bk.length dk bk (wq.drewN mm) (HSX.out.below ⟨rfl, rfl, rfl, Nat.le_refl _, fun _ _ => rfl⟩) HLF.out (by have := HFQ.out.n; omega) (by have := HFQ.out.next; have := HFQ.out.to; omega) (by have := HFQ.out.to; omega) (by have := HFQ.out.fr; omega) (HYK.out.below ⟨rfl, rfl, rfl, Nat.le_refl _, fun _ _ => rfl⟩) (by omega) (by have := HFQ.out.calls; show E.calls + 200 < _; first | omega | (simp only [Dk.crash]; omega)))
                    rw [if_neg c1, ← hkn, ← hfz] at HFX
                    clear hfre HAPF
                    by_cases c2 : fz < kn
                    · have c2' : decide ((fz : Int) < (kn : Int)) = true := decide_eq_true (by omega)
                      rw [if_pos c2] at HFX
                      clear hkn hfz
                      go_wp2_with (go_at_call 46; refine (HRN.out _).mono ?_; rintro e wn ⟨rfl, rfl⟩)
                      go_at_call 58
                      refine HFRE.out.mono ?_
                      rintro e wm ⟨rfl, mm, rfl⟩
                      go_wp2_with fail
                      go_at_call 50
                      refine (HFX.out mm).mono ?_
                      rintro e wt ⟨rfl, hsq2, hut⟩
                      have hbd : Below w.heap.size w (wq.drewN mm) := HBX.out.trans ⟨rfl, rfl, rfl, Nat.le_refl _, fun _ _ => rfl⟩
                      go_wp2_with fail
                      refine ⟨⟨k + 1, _, by go_num, Lib.hid ⟨hsq2, hbd.trans (hut.below (blk_far HP.out HLG.out) hbd.size), HFQ.out.fr, HFQ.out.to, HFQ.out.next, HFQ.out.n, HFQ.out.calls⟩, HHQ, by omega, by omega⟩, ?_⟩
                      show 7 - ((k : Int) + 1).toNat < 7 - (k : Int).toNat
                      omega
                    · have c2' : decide ((fz : Int) < (kn : Int)) = false := decide_eq_false (by omega)
                      rw [if_neg c2] at HFX
                      clear hkn hfz
                      go_wp2_with (go_at_call 46; refine (HRN.out _).mono ?_; rintro e wn ⟨rfl, rfl⟩)
                      go_at_call 58
                      refine HFRE.out.mono ?_
                      rintro e wm ⟨rfl, mm, rfl⟩
                      go_wp2_with fail
                      go_at_call 50
                      refine (HFX.out mm).mono ?_
                      rintro e wt ⟨rfl, hsq2, hut⟩
                      have hbd : Below w.heap.size w (wq.drewN mm) := HBX.out.trans ⟨rfl, rfl, rfl, Nat.le_refl _, fun _ _ => rfl⟩
                      go_wp2_with fail
                      refine ⟨⟨k + 1, _, by go_num, Lib.hid ⟨hsq2, hbd.trans (hut.below (blk_far HP.out HLG.out) hbd.size), HFQ.out.fr, HFQ.out.to, HFQ.out.next, HFQ.out.n, HFQ.out.calls⟩, HHQ, by omega, by omega⟩, ?_⟩
                      show 7 - ((k : Int) + 1).toNat < 7 - (k : Int).toNat
                      omega
            · have j2 : ¬ (k : Int) < (Lb.length : Int) := by omega
              clear hk6
              have HCR := Lib.hid (Crash_nil p r s 40 40 E wq HFQ.out.sys.d)
              have hcl := HFQ.out.calls
              obtain ⟨rs, nx, _, har⟩ := HHQ.out HFQ.out.sys.d.ok [] (fun x hx => by cases hx)
              have HAR := Lib.hid har
              have HLE := Lib.hid har.laid.le
              have hnx := har.nx
              clear har
              go_wp2_with fail
              go_at_call 37
              refine HCR.out.mono ?_
              rintro e wx ⟨rfl, hdx, hux⟩
              have HBX := Lib.hid (HFQ.out.bel.trans (hux.below (dT_far HP.out) HFQ.out.bel.size))
              have HDX := Lib.hid hdx
              have HOX := Lib.hid (Open_area p r s 40 40 (E.crash []) 0 30 nx rs wx hdx HAR.out)
              clear hdx hux
              go_wp2_with fail
              go_at_call 49
              refine HOX.out.mono ?_
              rintro e wy ⟨ly, gy, cy, vy, rfl, hly, hry, h1, h2, hby⟩
              have HSY := Lib.hid (opened HDX.out hby hly h1 h2)
              have HBY := Lib.hid (HBX.out.trans (hby.mono HBX.out.size))
              have HLY := Lib.hid (show w.heap.size ≤ ly ∧ w.heap.size ≤ gy from ⟨Nat.le_trans HBX.out.size h1, Nat.le_trans HBX.out.size h2⟩)
              have HFRY := Lib.hid (LFree_any ly gy cy p _ wy hly hnx (by show 30 ≤ 4096; omega))
              obtain ⟨Ay, cyy, rfl, _⟩ := hry
              clear hly h1 h2 hby
              by_cases h30 : nx = 30
              · subst h30
                go_wp2_with fail
                go_at_call 58
                refine HFRY.out.mono ?_
                rintro e wz ⟨rfl, mm, rfl⟩
                go_wp2_with (go_at_call 47; refine (awake3_any _).mono ?_; rintro e w9 ⟨rfl, hb9⟩)
                go_ret
                have hbd : Below w.heap.size w (wy.drewN mm) := HBY.out.trans ⟨rfl, rfl, rfl, Nat.le_refl _, fun _ _ => rfl⟩
                exact ⟨rfl, hbd.trans (hb9.mono hbd.size)⟩
              · have hfree : (1 : Int) ≤ ((30 - nx : Nat) : Int) := by omega
                obtain ⟨fz, hfz⟩ : ∃ fz, fz = 30 - nx := ⟨_, rfl⟩
                have hfre := HFRY.out
                rw [show (⟨0, 30, rs.length, nx, fun k => (E.crash []).R (64 * 0 + k), false⟩ : Wl.Lg).to - (⟨0, 30, rs.length, nx, fun k => (E.crash []).R (64 * 0 + k), false⟩ : Wl.Lg).next = fz from hfz.symm] at hfre
                rw [← hfz] at hfree
                have HFRZ := Lib.hid hfre
                have hrl : rs.length ≤ 29 := by have := HLE.out; omega
                clear hfre hfz
                go_wp2_with fail
                go_at_call 58
                refine HFRZ.out.mono ?_
                rintro e wz ⟨rfl, mm, rfl⟩
                have HSZ : Hid (Sys (wy.drewN mm) p r s 40 40 ly gy cy (E.crash []) ⟨0, 30, rs.length, nx, fun k => (E.crash []).R (64 * 0 + k), false⟩) := Lib.hid (HSY.out.below ⟨rfl, rfl, rfl, Nat.le_refl _, fun _ _ => rfl⟩)
                have HBZ : Hid (Below w.heap.size w (wy.drewN mm)) := Lib.hid (HBY.out.trans ⟨rfl, rfl, rfl, Nat.le_refl _, fun _ _ => rfl⟩)
                obtain ⟨wz, hwz⟩ : ∃ wz, wz = wy.drewN mm := ⟨_, rfl⟩
                rw [← hwz] at HSZ HBZ ⊢
                clear hwz
                have hbc := Bytes.of_new wz #[.int .u8 97, .int .u8 103, .int .u8 97, .int .u8 105, .int .u8 110] 5 (5, 6) 5 again rfl (by decide) rfl
                have hW : Below wz.heap.size wz (wz.alloc (.cells #[.int .u8 97, .int .u8 103, .int .u8 97, .int .u8 105, .int .u8 110] 5 (5, 6))) := (Below.refl _ _).alloc (Nat.le_refl _) _
                have hap := Append_good ly gy cy p r s 40 40 (E.crash []) _ rs (some ⟨wz.heap.size, 0, none⟩) 5 5 again _ (HSZ.out.below hW) HAR.out.holds rfl hbc (by omega) (by show E.calls + 200 < _; omega)
                rw [again_out (by show rs.length < 512; omega) (by show nx < 30; omega)] at hap
                have HAPZ := Lib.hid hap
                have HWZ := Lib.hid (HBZ.out.trans (hW.mono HBZ.out.size))
                clear hbc hW hap
                go_wp2_with fail
                go_at_call 50
                refine HAPZ.out.mono ?_
                rintro e wu ⟨Du, Lu, rfl, hsu, huu, _, _, hfru, htou, _, _, _, hdnu⟩
                have haru := (hdnu trivial).holds.area
                rw [hfru, htou] at haru
                have HBU := Lib.hid (HWZ.out.trans (huu.below (blk_far HP.out HLY.out) HWZ.out.size))
                have HOU := Lib.hid (Open_area p r s 40 40 Du 0 30 Lu.next _ wu hsu.d haru)
                clear hsu huu hfru htou hdnu haru
                go_wp2_with fail
                go_at_call 49
                refine HOU.out.mono ?_
                rintro e wv ⟨lv, gv, cv, vv, rfl, hlv, hrv, _, _, hbv⟩
                have HBV := Lib.hid (HBU.out.trans (hbv.mono HBU.out.size))
                obtain ⟨Av, cvv, rfl, _⟩ := id hrv
                obtain ⟨gk, ok, Ak, ck, rfl, kk, hyk⟩ := hrv.row (j := rs.length) (by simp)
                have eln : (rs ++ [again]).length = rs.length + 1 := by simp
                have eat : (rs ++ [again])[rs.length]'(by simp) = again := by simp
                rw [eat] at kk hyk
                have kk' : wv.cell? ⟨gk, ok + rs.length, none⟩ = some (.slice Ak 5 ck) := kk
                have hcv : (convert 22 9 (.slice Ak 5 ck)).run Try.prog wv = .ok (.string ⟨#[97, 103, 97, 105, 110]⟩) wv := hyk.to_string 22 9 5 ck Try.underlying22 Try.underlying5 Try.underlying9
                rw [eln]
                have q1 : (0 : Int) ≤ (rs.length : Int) := by omega
                have q2 : (rs.length : Int) < (rs.length : Int) + 1 := by omega
                clear hlv hbv kk hyk eln eat hrv
                go_wp2_with (go_at_call 47; refine (awake3_any _).mono ?_; rintro e w9 ⟨rfl, hb9⟩)
                go_ret
                exact ⟨rfl, HBV.out.trans (hb9.mono HBV.out.size)⟩
        | false =>
          go_wp2_with (go_at_call 47; refine (awake3_any _).mono ?_; rintro e w9 ⟨rfl, hb9⟩)
          go_ret
          exact ⟨rfl, HFL.out.bel.trans (hb9.mono HFL.out.bel.size)⟩
    · have i2 : ¬ (i : Int) < (P.length : Int) := by omega
      cases fl with
      | true =>
        obtain ⟨hlf, hhe⟩ := HFT'.out (by first | rfl | trivial)
        have HLF := Lib.hid hlf
        have HHE := Lib.hid hhe
        clear hlf hhe
        go_wp2_with fail
        go_loopw [81] (fun a wq => ∃ (k : Nat) (E : Dk), a = .int .i64 k ∧ Hid (Fl w wq p r s l g cap E L 5000) ∧ Hid (Wl.Heals E 0 30 (fun _ => True)) ∧ k ≤ Lb.length ∧ k ≤ 6) (fun a _ => 7 - (match a with | .int _ x => x.toNat | _ => 0))
        case atStart => exact ⟨0, D, rfl, Lib.hid ⟨HFL.out.sys, HFL.out.bel, HFL.out.fr, HFL.out.to, HFL.out.next, HFL.out.n, by have := HFL.out.calls; omega⟩, HHE, Nat.zero_le _, by omega⟩
        case round =>
          obtain ⟨k, E, rfl, HFQ, HHQ, hkl, hk6⟩ := hrel
          obtain ⟨wq, rfl⟩ : ∃ wq : World, wq = wr := ⟨_, rfl⟩
          have j1 : (0 : Int) ≤ (k : Int) := by omega
          by_cases hkt : k < Lb.length
          · have j2 : (k : Int) < (Lb.length : Int) := by omega
            have hrb := HRB.out.below HFQ.out.bel
            obtain ⟨gk, ok, Bk, dk, ek, kk, hyk⟩ := hrb.row hkt
            subst ek
            have hb2 := HB2.out _ (List.getElem_mem hkt)
            obtain ⟨bk, hbk⟩ : ∃ bk, bk = Lb[k] := ⟨_, rfl⟩
            rw [← hbk] at kk hyk hb2
            have HYK := Lib.hid hyk
            have HKK := Lib.hid kk
            have HBK := Lib.hid hbk
            clear hrb hyk hbk
            by_cases hk7 : k = 6
            · have l1 : ((k : Int) == 1) = false := beq_eq_false_iff_ne.2 (by omega)
              have l2 : (6 : Int) ≤ (k : Int) := by omega
              clear hk7
              have HCR := Lib.hid (Crash_nil p r s 40 40 E wq HFQ.out.sys.d)
              have hcl := HFQ.out.calls
              obtain ⟨rs, nx, _, har⟩ := HHQ.out HFQ.out.sys.d.ok [] (fun x hx => by cases hx)
              have HAR := Lib.hid har
              have HLE := Lib.hid har.laid.le
              have hnx := har.nx
              clear har
              go_wp2_with fail
              go_at_call 37
              refine HCR.out.mono ?_
              rintro e wx ⟨rfl, hdx, hux⟩
              have HBX := Lib.hid (HFQ.out.bel.trans (hux.below (dT_far HP.out) HFQ.out.bel.size))
              have HDX := Lib.hid hdx
              have HOX := Lib.hid (Open_area p r s 40 40 (E.crash []) 0 30 nx rs wx hdx HAR.out)
              clear hdx hux
              go_wp2_with fail
              go_at_call 49
              refine HOX.out.mono ?_
              rintro e wy ⟨ly, gy, cy, vy, rfl, hly, hry, h1, h2, hby⟩
              have HSY := Lib.hid (opened HDX.out hby hly h1 h2)
              have HBY := Lib.hid (HBX.out.trans (hby.mono HBX.out.size))
              have HLY := Lib.hid (show w.heap.size ≤ ly ∧ w.heap.size ≤ gy from ⟨Nat.le_trans HBX.out.size h1, Nat.le_trans HBX.out.size h2⟩)
              have HFRY := Lib.hid (LFree_any ly gy cy p _ wy hly hnx (by show 30 ≤ 4096; omega))
              obtain ⟨Ay, cyy, rfl, _⟩ := hry
              clear hly h1 h2 hby
              by_cases h30 : nx = 30
              · subst h30
                go_wp2_with fail
                go_at_call 58
                refine HFRY.out.mono ?_
                rintro e wz ⟨rfl, mm, rfl⟩
                go_wp2_with (go_at_call 47; refine (awake3_any _).mono ?_; rintro e w9 ⟨rfl, hb9⟩)
                go_ret
                have hbd : Below w.heap.size w (wy.drewN mm) := HBY.out.trans ⟨rfl, rfl, rfl, Nat.le_refl _, fun _ _ => rfl⟩
                exact ⟨rfl, hbd.trans (hb9.mono hbd.size)⟩
              · have hfree : (1 : Int) ≤ ((30 - nx : Nat) : Int) := by omega
                obtain ⟨fz, hfz⟩ : ∃ fz, fz = 30 - nx := ⟨_, rfl⟩
                have hfre := HFRY.out
                rw [show (⟨0, 30, rs.length, nx, fun k => (E.crash []).R (64 * 0 + k), false⟩ : Wl.Lg).to - (⟨0, 30, rs.length, nx, fun k => (E.crash []).R (64 * 0 + k), false⟩ : Wl.Lg).next = fz from hfz.symm] at hfre
                rw [← hfz] at hfree
                have HFRZ := Lib.hid hfre
                have hrl : rs.length ≤ 29 := by have := HLE.out; omega
                clear hfre hfz
                go_wp2_with fail
                go_at_call 58
                refine HFRZ.out.mono ?_
                rintro e wz ⟨rfl, mm, rfl⟩
                have HSZ : Hid (Sys (wy.drewN mm) p r s 40 40 ly gy cy (E.crash []) ⟨0, 30, rs.length, nx, fun k => (E.crash []).R (64 * 0 + k), false⟩) := Lib.hid (HSY.out.below ⟨rfl, rfl, rfl, Nat.le_refl _, fun _ _ => rfl⟩)
                have HBZ : Hid (Below w.heap.size w (wy.drewN mm)) := Lib.hid (HBY.out.trans ⟨rfl, rfl, rfl, Nat.le_refl _, fun _ _ => rfl⟩)
                obtain ⟨wz, hwz⟩ : ∃ wz, wz = wy.drewN mm := ⟨_, rfl⟩
                rw [← hwz] at HSZ HBZ ⊢
                clear hwz
                have hbc := Bytes.of_new wz #[.int .u8 97, .int .u8 103, .int .u8 97, .int .u8 105, .int .u8 110] 5 (5, 6) 5 again rfl (by decide) rfl
                have hW : Below wz.heap.size wz (wz.alloc (.cells #[.int .u8 97, .int .u8 103, .int .u8 97, .int .u8 105, .int .u8 110] 5 (5, 6))) := (Below.refl _ _).alloc (Nat.le_refl _) _
                have hap := Append_good ly gy cy p r s 40 40 (E.crash []) _ rs (some ⟨wz.heap.size, 0, none⟩) 5 5 again _ (HSZ.out.below hW) HAR.out.holds rfl hbc (by omega) (by show E.calls + 200 < _; omega)
                rw [again_out (by show rs.length < 512; omega) (by show nx < 30; omega)] at hap
                have HAPZ := Lib.hid hap
                have HWZ := Lib.hid (HBZ.out.trans (hW.mono HBZ.out.size))
                clear hbc hW hap
                go_wp2_with fail
                go_at_call 50
                refine HAPZ.out.mono ?_
                rintro e wu ⟨Du, Lu, rfl, hsu, huu, _, _, hfru, htou, _, _, _, hdnu⟩
                have haru := (hdnu trivial).holds.area
                rw [hfru, htou] at haru
                have HBU := Lib.hid (HWZ.out.trans (huu.below (blk_far HP.out HLY.out) HWZ.out.size))
                have HOU := Lib.hid (Open_area p r s 40 40 Du 0 30 Lu.next _ wu hsu.d haru)
                clear hsu huu hfru htou hdnu haru
                go_wp2_with fail
                go_at_call 49
                refine HOU.out.mono ?_
                rintro e wv ⟨lv, gv, cv, vv, rfl, hlv, hrv, _, _, hbv⟩
                have HBV := Lib.hid (HBU.out.trans (hbv.mono HBU.out.size))
                obtain ⟨Av, cvv, rfl, _⟩ := id hrv
                obtain ⟨gk, ok, Ak, ck, rfl, kk, hyk⟩ := hrv.row (j := rs.length) (by simp)
                have eln : (rs ++ [again]).length = rs.length + 1 := by simp
                have eat : (rs ++ [again])[rs.length]'(by simp) = again := by simp
                rw [eat] at kk hyk
                have kk' : wv.cell? ⟨gk, ok + rs.length, none⟩ = some (.slice Ak 5 ck) := kk
                have hcv : (convert 22 9 (.slice Ak 5 ck)).run Try.prog wv = .ok (.string ⟨#[97, 103, 97, 105, 110]⟩) wv := hyk.to_string 22 9 5 ck Try.underlying22 Try.underlying5 Try.underlying9
                rw [eln]
                have q1 : (0 : Int) ≤ (rs.length : Int) := by omega
                have q2 : (rs.length : Int) < (rs.length : Int) + 1 := by omega
                clear hlv hbv kk hyk eln eat hrv
                go_wp2_with (go_at_call 47; refine (awake3_any _).mono ?_; rintro e w9 ⟨rfl, hb9⟩)
                go_ret
                exact ⟨rfl, HBV.out.trans (hb9.mono HBV.out.size)⟩
            · have l2 : (k : Int) < 6 := by omega
              by_cases hk1 : k = 1
              · have l1 : ((k : Int) == 1) = true := beq_iff_eq.2 (by omega)
                have HCR := Lib.hid (Crash_nil p r s 40 40 E wq HFQ.out.sys.d)
                have HHC : Hid (Wl.Heals (E.crash []) 0 30 (fun _ => True)) := Lib.hid (by
                  obtain ⟨rs, nx, _, har⟩ := HHQ.out HFQ.out.sys.d.ok [] (fun x hx => by cases hx)
                  exact har.heals.weak (fun _ _ => trivial))
                clear hk1
                go_wp2_with fail
                go_at_call 37
                refine HCR.out.mono ?_
                rintro e wx ⟨rfl, hdx, hux⟩
                have HSX := Lib.hid (HFQ.out.sys.disk hdx hux)
                have HBX := Lib.hid (HFQ.out.bel.trans (hux.below (dT_far HP.out) HFQ.out.bel.size))
                obtain ⟨gx, ox, Bx, dx, ex, kx, hyx⟩ := (HRB.out.below HBX.out).row hkt
                cases ex
                have kw := HRB.out.row hkt
                obtain ⟨gw, ow, Bw, dw, ew, kw, hyw⟩ := kw
                cases ew
                have eq1 := ((HBX.out.cell (World.block_lt_of_cell? w _ kw)).trans kw).symm.trans kx
                have eq2 := ((HFQ.out.bel.cell (World.block_lt_of_cell? w _ kw)).trans kw).symm.trans (HKK.out)
                have HYX : Hid (Bytes wx Bk bk.length bk) := Lib.hid (by
                  have hy := hyw.below HBX.out
                  rw [← HBK.out] at hy eq2
                  simp only [Option.some.injEq, Value.slice.injEq] at eq2
                  rw [← eq2.1]; exact hy)
                clear hdx hux hyx kx kw hyw eq1 eq2
                have HAPF := Lib.hid (Append_failed l g cap p r s 40 40 (E.crash []) L Bk bk.length dk bk wx HSX.out HLF.out (by have := HFQ.out.n; omega) (by have := HFQ.out.next; have := HFQ.out.to; omega) (by have := HFQ.out.to; omega) (by have := HFQ.out.fr; omega) HYX.out (by omega) (by have := HFQ.out.calls; show (E.crash []).calls + 200 < _; first | omega | (simp only [Dk.crash]; omega)))
                by_cases c1 : 8192 < bk.length
                · have hapf := HAPF.out
                  rw [if_pos c1] at hapf
                  have HAPG := Lib.hid hapf
                  clear hapf HAPF
                  have c1' : (8192 : Int) < (bk.length : Int) := by omega
                  go_wp2_with fail
                  go_at_call 50
                  refine HAPG.out.mono ?_
                  rintro e wt ⟨rfl, hsq2, hut⟩
                  go_wp2_with fail
                  refine ⟨⟨k + 1, _, by go_num, Lib.hid ⟨hsq2, HBX.out.trans (hut.below (blk_far HP.out HLG.out) HBX.out.size), HFQ.out.fr, HFQ.out.to, HFQ.out.next, HFQ.out.n, HFQ.out.calls⟩, HHC, by omega, by omega⟩, ?_⟩
                  show 7 - ((k : Int) + 1).toNat < 7 - (k : Int).toNat
                  omega
                · have c1' : (bk.length : Int) ≤ 8192 := by omega
                  obtain ⟨kn, hkn⟩ : ∃ kn, kn = Wl.need bk.length := ⟨_, rfl⟩
                  have HRN := Lib.hid (fun W => RefNeed_nat bk.length W (by omega))
                  simp only [← hkn] at HRN
                  obtain ⟨fz, hfz⟩ : ∃ fz, fz = L.to - L.next := ⟨_, rfl⟩
                  have hfre := LFree_any l g cap p L wx HSX.out.lg (by have := HFQ.out.next; have := HFQ.out.to; omega) (by have := HFQ.out.to; omega)
                  rw [← hfz] at hfre
                  have HFRE := Lib.hid hfre
                  have HFX := Lib.hid (fun mm => Append_failed l g cap p r s 40 40 (E.crash []) L Bk bk.length dk bk (wx.drewN mm) (HSX.out.below ⟨rfl, rfl, rfl, Nat.le_refl _, fun _ _ => rfl⟩) HLF.out (by have := HFQ.out.n; omega) (by have := HFQ.out.next; have := HFQ.out.to; omega) (by have := HFQ.out.to; omega) (by have := HFQ.out.fr; omega) (HYX.out.below ⟨rfl, rfl, rfl, Nat.le_refl _, fun _ _ => rfl⟩) (by omega) (by have := HFQ.out.calls; show (E.crash []).calls + 200 < _; first | omega | (simp only [Dk.crash]; omega)))
                  rw [if_neg c1, ← hkn, ← hfz] at HFX
                  clear hfre HAPF
                  by_cases c2 : fz < kn
                  · have c2' : decide ((fz : Int) < (kn : Int)) = true := decide_eq_true (by omega)
                    rw [if_pos c2] at HFX
                    clear hkn hfz
                    go_wp2_with (go_at_call 46; refine (HRN.out _).mono ?_; rintro e wn ⟨rfl, rfl⟩)
                    go_at_call 58
                    refine HFRE.out.mono ?_
                    rintro e wm ⟨rfl, mm, rfl⟩
                    go_wp2_with fail
                    go_at_call 50
                    refine (HFX.out mm).mono ?_
                    rintro e wt ⟨rfl, hsq2, hut⟩
                    have hbd : Below w.heap.size w (wx.drewN mm) := HBX.out.trans ⟨rfl, rfl, rfl, Nat.le_refl _, fun _ _ => rfl⟩
                    go_wp2_with fail
                    refine ⟨⟨k + 1, _, by go_num, Lib.hid ⟨hsq2, hbd.trans (hut.below (blk_far HP.out HLG.out) hbd.size), HFQ.out.fr, HFQ.out.to, HFQ.out.next, HFQ.out.n, HFQ.out.calls⟩, HHC, by omega, by omega⟩, ?_⟩
                    show 7 - ((k : Int) + 1).toNat < 7 - (k : Int).toNat
                    omega
                  · have c2' : decide ((fz : Int) < (kn : Int)) = false := decide_eq_false (by omega)
                    rw [if_neg c2] at HFX
                    clear hkn hfz
                    go_wp2_with (go_at_call 46; refine (HRN.out _).mono ?_; rintro e wn ⟨rfl, rfl⟩)
                    go_at_call 58
                    refine HFRE.out.mono ?_
                    rintro e wm ⟨rfl, mm, rfl⟩
                    go_wp2_with fail
                    go_at_call 50
                    refine (HFX.out mm).mono ?_
                    rintro e wt ⟨rfl, hsq2, hut⟩
                    have hbd : Below w.heap.size w (wx.drewN mm) := HBX.out.trans ⟨rfl, rfl, rfl, Nat.le_refl _, fun _ _ => rfl⟩
                    go_wp2_with fail
                    refine ⟨⟨k + 1, _, by go_num, Lib.hid ⟨hsq2, hbd.trans (hut.below (blk_far HP.out HLG.out) hbd.size), HFQ.out.fr, HFQ.out.to, HFQ.out.next, HFQ.out.n, HFQ.out.calls⟩, HHC, by omega, by omega⟩, ?_⟩
                    show 7 - ((k : Int) + 1).toNat < 7 - (k : Int).toNat
                    omega
              · have l1 : ((k : Int) == 1) = false := beq_eq_false_iff_ne.2 (by omega)
                have HSX := Lib.hid HFQ.out.sys
                have HBX := Lib.hid HFQ.out.bel
                clear hk1
                have HAPF := Lib.hid (Append_failed l g cap p r s 40 40 E L Bk bk.length dk bk wq HSX.out HLF.out (by have := HFQ.out.n; omega) (by have := HFQ.out.next; have := HFQ.out.to; omega) (by have := HFQ.out.to; omega) (by have := HFQ.out.fr; omega) HYK.out (by omega) (by have := HFQ.out.calls; show E.calls + 200 < _; first | omega | (simp only [Dk.crash]; omega)))
                by_cases c1 : 8192 < bk.length
                · have hapf := HAPF.out
                  rw [if_pos c1] at hapf
                  have HAPG := Lib.hid hapf
                  clear hapf HAPF
                  have c1' : (8192 : Int) < (bk.length : Int) := by omega
                  go_wp2_with fail
                  go_at_call 50
                  refine HAPG.out.mono ?_
                  rintro e wt ⟨rfl, hsq2, hut⟩
                  go_wp2_with fail
                  refine ⟨⟨k + 1, _, by go_num, Lib.hid ⟨hsq2, HBX.out.trans (hut.below (blk_far HP.out HLG.out) HBX.out.size), HFQ.out.fr, HFQ.out.to, HFQ.out.next, HFQ.out.n, HFQ.out.calls⟩, HHQ, by omega, by omega⟩, ?_⟩
                  show 7 - ((k : Int) + 1).toNat < 7 - (k : Int).toNat
                  omega
                · have c1' : (bk.length : Int) ≤ 8192 := by omega
                  obtain ⟨kn, hkn⟩ : ∃ kn, kn = Wl.need bk.length := ⟨_, rfl⟩
                  have HRN := Lib.hid (fun W => RefNeed_nat bk.length W (by omega))
                  simp only [← hkn] at HRN
                  obtain ⟨fz, hfz⟩ : ∃ fz, fz = L.to - L.next := ⟨_, rfl⟩
                  have hfre := LFree_any l g cap p L wq HSX.out.lg (by have := HFQ.out.next; have := HFQ.out.to; omega) (by have := HFQ.out.to; omega)
                  rw [← hfz] at hfre
                  have HFRE := Lib.hid hfre
                  have HFX := Lib.hid (fun mm => Append_failed l g cap p r s 40 40 E L Bk bk.length dk bk (wq.drewN mm) (HSX.out.below ⟨rfl, rfl, rfl, Nat.le_refl _, fun _ _ => rfl⟩) HLF.out (by have := HFQ.out.n; omega) (by have := HFQ.out.next; have := HFQ.out.to; omega) (by have := HFQ.out.to; omega) (by have := HFQ.out.fr; omega) (HYK.out.below ⟨rfl, rfl, rfl, Nat.le_refl _, fun _ _ => rfl⟩) (by omega) (by have := HFQ.out.calls; show E.calls + 200 < _; first | omega | (simp only [Dk.crash]; omega)))
                  rw [if_neg c1, ← hkn, ← hfz] at HFX
                  clear hfre HAPF
                  by_cases c2 : fz < kn
                  · have c2' : decide ((fz : Int) < (kn : Int)) = true := decide_eq_true (by omega)
                    rw [if_pos c2] at HFX
                    clear hkn hfz
                    go_wp2_with (go_at_call 46; refine (HRN.out _).mono ?_; rintro e wn ⟨rfl, rfl⟩)
                    go_at_call 58
                    refine HFRE.out.mono ?_
                    rintro e wm ⟨rfl, mm, rfl⟩
                    go_wp2_with fail
                    go_at_call 50
                    refine (HFX.out mm).mono ?_
                    rintro e wt ⟨rfl, hsq2, hut⟩
                    have hbd : Below w.heap.size w (wq.drewN mm) := HBX.out.trans ⟨rfl, rfl, rfl, Nat.le_refl _, fun _ _ => rfl⟩
                    go_wp2_with fail
                    refine ⟨⟨k + 1, _, by go_num, Lib.hid ⟨hsq2, hbd.trans (hut.below (blk_far HP.out HLG.out) hbd.size), HFQ.out.fr, HFQ.out.to, HFQ.out.next, HFQ.out.n, HFQ.out.calls⟩, HHQ, by omega, by omega⟩, ?_⟩
                    show 7 - ((k : Int) + 1).toNat < 7 - (k : Int).toNat
                    omega
                  · have c2' : decide ((fz : Int) < (kn : Int)) = false := decide_eq_false (by omega)
                    rw [if_neg c2] at HFX
                    clear hkn hfz
                    go_wp2_with (go_at_call 46; refine (HRN.out _).mono ?_; rintro e wn ⟨rfl, rfl⟩)
                    go_at_call 58
                    refine HFRE.out.mono ?_
                    rintro e wm ⟨rfl, mm, rfl⟩
                    go_wp2_with fail
                    go_at_call 50
                    refine (HFX.out mm).mono ?_
                    rintro e wt ⟨rfl, hsq2, hut⟩
                    have hbd : Below w.heap.size w (wq.drewN mm) := HBX.out.trans ⟨rfl, rfl, rfl, Nat.le_refl _, fun _ _ => rfl⟩
                    go_wp2_with fail
                    refine ⟨⟨k + 1, _, by go_num, Lib.hid ⟨hsq2, hbd.trans (hut.below (blk_far HP.out HLG.out) hbd.size), HFQ.out.fr, HFQ.out.to, HFQ.out.next, HFQ.out.n, HFQ.out.calls⟩, HHQ, by omega, by omega⟩, ?_⟩
                    show 7 - ((k : Int) + 1).toNat < 7 - (k : Int).toNat
                    omega
          · have j2 : ¬ (k : Int) < (Lb.length : Int) := by omega
            clear hk6
            have HCR := Lib.hid (Crash_nil p r s 40 40 E wq HFQ.out.sys.d)
            have hcl := HFQ.out.calls
            obtain ⟨rs, nx, _, har⟩ := HHQ.out HFQ.out.sys.d.ok [] (fun x hx => by cases hx)
            have HAR := Lib.hid har
            have HLE := Lib.hid har.laid.le
            have hnx := har.nx
            clear har
            go_wp2_with fail
            go_at_call 37
            refine HCR.out.mono ?_
            rintro e wx ⟨rfl, hdx, hux⟩
            have HBX := Lib.hid (HFQ.out.bel.trans (hux.below (dT_far HP.out) HFQ.out.bel.size))
            have HDX := Lib.hid hdx
            have HOX := Lib.hid (Open_area p r s 40 40 (E.crash []) 0 30 nx rs wx hdx HAR.out)
            clear hdx hux
            go_wp2_with fail
            go_at_call 49
            refine HOX.out.mono ?_
            rintro e wy ⟨ly, gy, cy, vy, rfl, hly, hry, h1, h2, hby⟩
            have HSY := Lib.hid (opened HDX.out hby hly h1 h2)
            have HBY := Lib.hid (HBX.out.trans (hby.mono HBX.out.size))
            have HLY := Lib.hid (show w.heap.size ≤ ly ∧ w.heap.size ≤ gy from ⟨Nat.le_trans HBX.out.size h1, Nat.le_trans HBX.out.size h2⟩)
            have HFRY := Lib.hid (LFree_any ly gy cy p _ wy hly hnx (by show 30 ≤ 4096; omega))
            obtain ⟨Ay, cyy, rfl, _⟩ := hry
            clear hly h1 h2 hby
            by_cases h30 : nx = 30
            · subst h30
              go_wp2_with fail
              go_at_call 58
              refine HFRY.out.mono ?_
              rintro e wz ⟨rfl, mm, rfl⟩
              go_wp2_with (go_at_call 47; refine (awake3_any _).mono ?_; rintro e w9 ⟨rfl, hb9⟩)
              go_ret
              have hbd : Below w.heap.size w (wy.drewN mm) := HBY.out.trans ⟨rfl, rfl, rfl, Nat.le_refl _, fun _ _ => rfl⟩
              exact ⟨rfl, hbd.trans (hb9.mono hbd.size)⟩
            · have hfree : (1 : Int) ≤ ((30 - nx : Nat) : Int) := by omega
              obtain ⟨fz, hfz⟩ : ∃ fz, fz = 30 - nx := ⟨_, rfl⟩
              have hfre := HFRY.out
              rw [show (⟨0, 30, rs.length, nx, fun k => (E.crash []).R (64 * 0 + k), false⟩ : Wl.Lg).to - (⟨0, 30, rs.length, nx, fun k => (E.crash []).R (64 * 0 + k), false⟩ : Wl.Lg).next = fz from hfz.symm] at hfre
              rw [← hfz] at hfree
              have HFRZ := Lib.hid hfre
              have hrl : rs.length ≤ 29 := by have := HLE.out; omega
              clear hfre hfz
              go_wp2_with fail
              go_at_call 58
              refine HFRZ.out.mono ?_
              rintro e wz ⟨rfl, mm, rfl⟩
              have HSZ : Hid (Sys (wy.drewN mm) p r s 40 40 ly gy cy (E.crash []) ⟨0, 30, rs.length, nx, fun k => (E.crash []).R (64 * 0 + k), false⟩) := Lib.hid (HSY.out.below ⟨rfl, rfl, rfl, Nat.le_refl _, fun _ _ => rfl⟩)
              have HBZ : Hid (Below w.heap.size w (wy.drewN mm)) := Lib.hid (HBY.out.trans ⟨rfl, rfl, rfl, Nat.le_refl _, fun _ _ => rfl⟩)
              obtain ⟨wz, hwz⟩ : ∃ wz, wz = wy.drewN mm := ⟨_, rfl⟩
              rw [← hwz] at HSZ HBZ ⊢
              clear hwz
              have hbc := Bytes.of_new wz #[.int .u8 97, .int .u8 103, .int .u8 97, .int .u8 105, .int .u8 110] 5 (5, 6) 5 again rfl (by decide) rfl
              have hW : Below wz.heap.size wz (wz.alloc (.cells #[.int .u8 97, .int .u8 103, .int .u8 97, .int .u8 105, .int .u8 110] 5 (5, 6))) := (Below.refl _ _).alloc (Nat.le_refl _) _
              have hap := Append_good ly gy cy p r s 40 40 (E.crash []) _ rs (some ⟨wz.heap.size, 0, none⟩) 5 5 again _ (HSZ.out.below hW) HAR.out.holds rfl hbc (by omega) (by show E.calls + 200 < _; omega)
              rw [again_out (by show rs.length < 512; omega) (by show nx < 30; omega)] at hap
              have HAPZ := Lib.hid hap
              have HWZ := Lib.hid (HBZ.out.trans (hW.mono HBZ.out.size))
              clear hbc hW hap
              go_wp2_with fail
              go_at_call 50
              refine HAPZ.out.mono ?_
              rintro e wu ⟨Du, Lu, rfl, hsu, huu, _, _, hfru, htou, _, _, _, hdnu⟩
              have haru := (hdnu trivial).holds.area
              rw [hfru, htou] at haru
              have HBU := Lib.hid (HWZ.out.trans (huu.below (blk_far HP.out HLY.out) HWZ.out.size))
              have HOU := Lib.hid (Open_area p r s 40 40 Du 0 30 Lu.next _ wu hsu.d haru)
              clear hsu huu hfru htou hdnu haru
              go_wp2_with fail
              go_at_call 49
              refine HOU.out.mono ?_
              rintro e wv ⟨lv, gv, cv, vv, rfl, hlv, hrv, _, _, hbv⟩
              have HBV := Lib.hid (HBU.out.trans (hbv.mono HBU.out.size))
              obtain ⟨Av, cvv, rfl, _⟩ := id hrv
              obtain ⟨gk, ok, Ak, ck, rfl, kk, hyk⟩ := hrv.row (j := rs.length) (by simp)
              have eln : (rs ++ [again]).length = rs.length + 1 := by simp
              have eat : (rs ++ [again])[rs.length]'(by simp) = again := by simp
              rw [eat] at kk hyk
              have kk' : wv.cell? ⟨gk, ok + rs.length, none⟩ = some (.slice Ak 5 ck) := kk
              have hcv : (convert 22 9 (.slice Ak 5 ck)).run Try.prog wv = .ok (.string ⟨#[97, 103, 97, 105, 110]⟩) wv := hyk.to_string 22 9 5 ck Try.underlying22 Try.underlying5 Try.underlying9
              rw [eln]
              have q1 : (0 : Int) ≤ (rs.length : Int) := by omega
              have q2 : (rs.length : Int) < (rs.length : Int) + 1 := by omega
              clear hlv hbv kk hyk eln eat hrv
              go_wp2_with (go_at_call 47; refine (awake3_any _).mono ?_; rintro e w9 ⟨rfl, hb9⟩)
              go_ret
              exact ⟨rfl, HBV.out.trans (hb9.mono HBV.out.size)⟩
      | false =>
        go_wp2_with (go_at_call 47; refine (awake3_any _).mono ?_; rintro e w9 ⟨rfl, hb9⟩)
        go_ret
        exact ⟨rfl, HFL.out.bel.trans (hb9.mono HFL.out.bel.size)⟩
section
open Go.ChangeShapes Go.WideShapes Go.ChangeAt
theorem walFails_walk {H : Type} {enc : TypeId × Value → H} (W : World) {base : Nat} (v0 v1 v2 : Value) {d0 d1 d2 : DataW H} {p0 p1 p2 : List MemPlace} (h0 : DataW.Trod enc Try.prog W 0 (fun _ => true) true 57 v0 d0 p0) (o0 : Value.okWide Try.prog W .any base 57 v0)
    (h1 : DataW.Trod enc Try.prog W 0 (fun _ => true) true 57 v1 d1 p1) (o1 : Value.okWide Try.prog W .any base 57 v1) (h2 : DataW.Trod enc Try.prog W 0 (fun _ => true) true 3 v2 d2 p2) (o2 : Value.okWide Try.prog W .any base 3 v2) (hk : Rows.uptoBulkAll [d0, d1, d2] ≤ 1048576) :
    Calls Try.prog 22 #[v0, v1, v2] W fun e w' => e = .returned (.bool true) ∧ Below W.heap.size W w' := by
  obtain ⟨La, ha, hla, _⟩ := open_rows h0 o0
  obtain ⟨Lb, hb, hlb, hlb2⟩ := open_rows h1 o1
  obtain ⟨n, rfl, rfl, rfl, wn⟩ := open_int Try.underlying3 o2 h2
  simp only [Rows.uptoBulkAll] at hk
  exact walFails_any v0 v1 La Lb n W ha hb (by omega) (by omega) (fun b hb => by have := hlb2 b hb; omega)
end
end Go.Proofs.Ytiiegimnnngnnaa
