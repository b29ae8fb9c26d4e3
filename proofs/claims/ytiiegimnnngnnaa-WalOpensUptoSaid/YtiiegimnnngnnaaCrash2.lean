/- The contract of disk.Crash. -/
import Derived.Test.YtiiegimnnngnnaaCrash
namespace Go.Proofs.Ytiiegimnnngnnaa
open Go.RowKit Go.Sort
set_option linter.unusedVariables false
set_option linter.unusedSimpArgs false
attribute [local go_sem ↓] Go.wp_at_zero Go.wp_at_succ

theorem sector_info : (Try.prog.info? 92).map (·.size) = some 64 := by kernel_rfl

set_option maxRecDepth 100000 in
set_option maxHeartbeats 2000000 in
theorem Crash_any (p r s cr cs : Nat) (D : Dk) (A : Option Addr) (l c : Nat) (bs : List Nat) (w : World) (h : DiskAt w p r s cr cs D) (hb : Bytes w A l bs) (hlc : l ≤ c) (hc : c ≤ maxLen)
    (hA : ∀ g o, A = some ⟨g, o, none⟩ → 0 < l → ¬ dT p r s g) :
    Calls Try.prog 37 #[.pointer (some ⟨p, 0, none⟩), .slice A l c] w fun e w' =>
      e = .returned (.tuple #[]) ∧ DiskAt w' p r s cr cs (D.crash bs) ∧ Upd (dT p r s) w w' := by
  have HP0 : Hid (PickAt (dT p r s) w bs (D.used 0) (.slice A l c)) := Lib.hid ⟨A, l, c, rfl, hlc, hc, by simpa [Dk.used] using hb, hA⟩
  have HD0 := Lib.hid h
  have hn4 := h.ok.n
  have hne := h.ne
  have HNe := Lib.hid hne
  have HOk := Lib.hid h.ok
  have c0 : w.cell? ⟨p, 0, none⟩ = some (.slice (some ⟨r, 0, none⟩) D.n cr) := h.1.cell 0
  clear h hb hA hne hlc hc
  obtain ⟨n, hn⟩ : ∃ n, n = D.n := ⟨_, rfl⟩
  rw [← hn] at c0 hn4
  have HNn := Lib.hid hn
  clear hn
  go_enter Try.func37, Try.ntmps37
  go_wp2_with fail
  clear c0
  go_loopw [1, 14] (fun v i wr => ∃ j : Nat, j ≤ n ∧ i = .int .i64 j ∧ PickAt (dT p r s) wr bs (D.used j) v ∧ DiskAt wr p r s cr cs (D.mid bs j 0) ∧ Upd (dT p r s) w wr) (fun _ i _ => n - (intOf i).toNat)
  case atStart =>
    refine ⟨0, by omega, rfl, HP0.out, ?_, Upd.refl _ _⟩
    have : D.mid bs 0 0 = D := by unfold Dk.mid; rw [Dk.upto_zero]
    rw [this]; exact HD0.out
  case round =>
    obtain ⟨j, hj, rfl, hpk, hd, hu⟩ := hrel
    have HPk := Lib.hid hpk
    have HD := Lib.hid hd
    have HU := Lib.hid hu
    have c0 : wr.cell? ⟨p, 0, none⟩ = some (.slice (some ⟨r, 0, none⟩) n cr) := by rw [HNn.out]; exact hd.1.cell 0
    have c1 : wr.cell? ⟨p, 1, none⟩ = some (.slice (some ⟨s, 0, none⟩) n cs) := by rw [HNn.out]; exact hd.1.cell 1
    clear hpk hd hu HP0 HD0
    by_cases hlt : j < n
    · have i0 : (0 : Int) ≤ (j : Int) := by omega
      have i1 : (j : Int) < (n : Int) := by omega
      have hrr : wr.rangeAt r (j * 64) (rowA 64 fun k => D.upto bs j 0 (64 * j + k)).toList := HD.out.2.1.range j (by rw [HNn.out] at hlt; exact hlt)
      have hrs : wr.rangeAt s (j * 64) (rowA 64 fun k => D.S (64 * j + k)).toList := HD.out.2.2.1.range j (by rw [HNn.out] at hlt; exact hlt)
      have hq := D.upto_same_all bs j
      have heq := sector_eq (fun k => D.upto bs j 0 (64 * j + k)) (fun k => D.S (64 * j + k))
      obtain ⟨b, hb⟩ : ∃ b, b = D.same j := ⟨_, rfl⟩
      rw [hq, ← hb] at heq
      have HB := Lib.hid hb
      clear hq hb
      go_wp2_with fail
      have hu92 := Try.underlying92
      obtain ⟨X1, hX1⟩ : ∃ X, X = rowA 64 fun k => D.upto bs j 0 (64 * j + k) := ⟨_, rfl⟩
      obtain ⟨X2, hX2⟩ : ∃ X, X = rowA 64 fun k => D.S (64 * j + k) := ⟨_, rfl⟩
      rw [← hX1] at hrr heq
      rw [← hX2] at hrs heq
      have l1 : X1.toList.length = 64 := by rw [hX1]; simp [rowA]
      have l2 : X2.toList.length = 64 := by rw [hX2]; simp [rowA]
      have hi1 : (Try.prog.info? 92).map (·.size) = some X1.toList.length := by rw [l1]; exact sector_info
      have hi2 : (Try.prog.info? 92).map (·.size) = some X2.toList.length := by rw [l2]; exact sector_info
      clear hX1 hX2
      refine wp_region_held_drew (S := fun w' => w'.rangeAt r (j * 64) X1.toList ∧ w'.rangeAt s (j * 64) X2.toList ∧ w'.cell? ⟨p, 0, none⟩ = some (.slice (some ⟨r, 0, none⟩) n cr) ∧ w'.cell? ⟨p, 1, none⟩ = some (.slice (some ⟨s, 0, none⟩) n cs)) (by kernel_rfl) (by go_keep_ranges) (fun hHeld => ?_)
      refine wpAnyH_take (i := 0) (v := ?_) rfl (by kernel_rfl) (by kernel_rfl) (by kernel_rfl) (fun _ _ _ h => h) (Or.inl ⟨by rfl, ?_⟩) (by assumption) ?_
      rotate_left 1
      · intro w' hS; obtain ⟨a1, a2, a3, a4⟩ := hS; go_simp; try with_reducible rfl
      change wpAnyH _ _ _ _ _ _ _ (Act.put _ (some 17) _) _
      simp only [Act.put, List.setIfInBounds_toArray, List.set_cons_zero, List.set_cons_succ]
      refine wpAnyH_take (i := 1) (v := ?_) rfl (by kernel_rfl) (by kernel_rfl) (by kernel_rfl) (fun _ _ _ h => h) (Or.inl ⟨by rfl, ?_⟩) (by assumption) ?_
      rotate_left 1
      · intro w' hS; obtain ⟨a1, a2, a3, a4⟩ := hS; go_simp; try with_reducible rfl
      change wpAnyH _ _ _ _ _ _ _ (Act.put _ (some 18) _) _
      simp only [Act.put, List.setIfInBounds_toArray, List.set_cons_zero, List.set_cons_succ]
      refine wpAnyH_take (i := 2) (v := ?_) rfl (by kernel_rfl) (by kernel_rfl) (by kernel_rfl) (fun _ _ _ h => h) (Or.inl ⟨by rfl, ?_⟩) (by assumption) ?_
      rotate_left 1
      · intro w' hS; obtain ⟨a1, a2, a3, a4⟩ := hS; go_simp; try with_reducible rfl
      change wpAnyH _ _ _ _ _ _ _ (Act.put _ (some 19) _) _
      simp only [Act.put, List.setIfInBounds_toArray, List.set_cons_zero, List.set_cons_succ]
      refine wpAnyH_take (i := 3) (v := ?_) rfl (by kernel_rfl) (by kernel_rfl) (by kernel_rfl) (fun _ _ _ h => h) (Or.inl ⟨by rfl, ?_⟩) (by assumption) ?_
      rotate_left 1
      · intro w' hS; obtain ⟨a1, a2, a3, a4⟩ := hS; go_simp; try with_reducible rfl
      change wpAnyH _ _ _ _ _ _ _ (Act.put _ (some 20) _) _
      simp only [Act.put, List.setIfInBounds_toArray, List.set_cons_zero, List.set_cons_succ]
      refine wpAnyH_take (i := 4) (v := ?_) rfl (by kernel_rfl) (by kernel_rfl) (by kernel_rfl) (fun _ _ _ h => h) (Or.inl ⟨by rfl, ?_⟩) (by assumption) ?_
      rotate_left 1
      · intro w' hS; obtain ⟨a1, a2, a3, a4⟩ := hS; go_simp; try with_reducible rfl
      change wpAnyH _ _ _ _ _ _ _ (Act.put _ (some 21) _) _
      simp only [Act.put, List.setIfInBounds_toArray, List.set_cons_zero, List.set_cons_succ]
      refine wpAnyH_take (i := 5) (v := ?_) rfl (by kernel_rfl) (by kernel_rfl) (by kernel_rfl) (fun _ _ _ h => h) (Or.inl ⟨by rfl, ?_⟩) (by assumption) ?_
      rotate_left 1
      · intro w' hS; obtain ⟨a1, a2, a3, a4⟩ := hS; go_simp; try with_reducible rfl
      change wpAnyH _ _ _ _ _ _ _ (Act.put _ (some 22) _) _
      simp only [Act.put, List.setIfInBounds_toArray, List.set_cons_zero, List.set_cons_succ]
      refine' wpAnyH_take (i := 6) (oi := { dst := some 23, op := .load 92 (.tmp 22), type := 92, pos := "disk.go:122", after := #[{ on := 5, ground := .data }], guard := none }) (v := _) rfl (by kernel_rfl) (by kernel_rfl) (by kernel_rfl) (fun _ _ _ h => h)
        (yieldsIf_load_mid (by rfl) _ _ rfl _ _ rfl _ _ ?hS1 ?hu1 ?hd1 ?hi1) (by assumption) ?re1
      case hS1 => (intro w hw; obtain ⟨a1, a2, a3, a4⟩ := hw; assumption)
      case hu1 => exact hu92
      case hd1 => rfl
      case hi1 => exact hi1
      simp only [Act.put, List.setIfInBounds_toArray, List.set_cons_zero, List.set_cons_succ]
      refine wpAnyH_take (i := 7) (v := ?_) rfl (by kernel_rfl) (by kernel_rfl) (by kernel_rfl) (fun _ _ _ h => h) (Or.inl ⟨by rfl, ?_⟩) (by assumption) ?_
      rotate_left 1
      · intro w' hS; obtain ⟨a1, a2, a3, a4⟩ := hS; go_simp; try with_reducible rfl
      change wpAnyH _ _ _ _ _ _ _ (Act.put _ (some 24) _) _
      simp only [Act.put, List.setIfInBounds_toArray, List.set_cons_zero, List.set_cons_succ]
      refine wpAnyH_take (i := 8) (v := ?_) rfl (by kernel_rfl) (by kernel_rfl) (by kernel_rfl) (fun _ _ _ h => h) (Or.inl ⟨by rfl, ?_⟩) (by assumption) ?_
      rotate_left 1
      · intro w' hS; obtain ⟨a1, a2, a3, a4⟩ := hS; go_simp; try with_reducible rfl
      change wpAnyH _ _ _ _ _ _ _ (Act.put _ (some 25) _) _
      simp only [Act.put, List.setIfInBounds_toArray, List.set_cons_zero, List.set_cons_succ]
      refine wpAnyH_take (i := 9) (v := ?_) rfl (by kernel_rfl) (by kernel_rfl) (by kernel_rfl) (fun _ _ _ h => h) (Or.inl ⟨by rfl, ?_⟩) (by assumption) ?_
      rotate_left 1
      · intro w' hS; obtain ⟨a1, a2, a3, a4⟩ := hS; go_simp; try with_reducible rfl
      change wpAnyH _ _ _ _ _ _ _ (Act.put _ (some 26) _) _
      simp only [Act.put, List.setIfInBounds_toArray, List.set_cons_zero, List.set_cons_succ]
      refine wpAnyH_take (i := 10) (v := ?_) rfl (by kernel_rfl) (by kernel_rfl) (by kernel_rfl) (fun _ _ _ h => h) (Or.inl ⟨by rfl, ?_⟩) (by assumption) ?_
      rotate_left 1
      · intro w' hS; obtain ⟨a1, a2, a3, a4⟩ := hS; go_simp; try with_reducible rfl
      change wpAnyH _ _ _ _ _ _ _ (Act.put _ (some 27) _) _
      simp only [Act.put, List.setIfInBounds_toArray, List.set_cons_zero, List.set_cons_succ]
      refine wpAnyH_take (i := 11) (v := ?_) rfl (by kernel_rfl) (by kernel_rfl) (by kernel_rfl) (fun _ _ _ h => h) (Or.inl ⟨by rfl, ?_⟩) (by assumption) ?_
      rotate_left 1
      · intro w' hS; obtain ⟨a1, a2, a3, a4⟩ := hS; go_simp; try with_reducible rfl
      change wpAnyH _ _ _ _ _ _ _ (Act.put _ (some 28) _) _
      simp only [Act.put, List.setIfInBounds_toArray, List.set_cons_zero, List.set_cons_succ]
      refine wpAnyH_take (i := 12) (v := ?_) rfl (by kernel_rfl) (by kernel_rfl) (by kernel_rfl) (fun _ _ _ h => h) (Or.inl ⟨by rfl, ?_⟩) (by assumption) ?_
      rotate_left 1
      · intro w' hS; obtain ⟨a1, a2, a3, a4⟩ := hS; go_simp; try with_reducible rfl
      change wpAnyH _ _ _ _ _ _ _ (Act.put _ (some 29) _) _
      simp only [Act.put, List.setIfInBounds_toArray, List.set_cons_zero, List.set_cons_succ]
      refine' wpAnyH_take (i := 13) (oi := { dst := some 30, op := .load 92 (.tmp 29), type := 92, pos := "disk.go:122", after := #[{ on := 12, ground := .data }], guard := none }) (v := _) rfl (by kernel_rfl) (by kernel_rfl) (by kernel_rfl) (fun _ _ _ h => h)
        (yieldsIf_load_mid (by rfl) _ _ rfl _ _ rfl _ _ ?hS2 ?hu2 ?hd2 ?hi2) (by assumption) ?re2
      case hS2 => (intro w hw; obtain ⟨a1, a2, a3, a4⟩ := hw; assumption)
      case hu2 => exact hu92
      case hd2 => rfl
      case hi2 => exact hi2
      simp only [Act.put, List.setIfInBounds_toArray, List.set_cons_zero, List.set_cons_succ]
      refine wpAnyH_take (i := 14) (v := ?_) rfl (by kernel_rfl) (by kernel_rfl) (by kernel_rfl) (fun _ _ _ h => h) (Or.inl ⟨by rfl, ?_⟩) (by assumption) ?_
      rotate_left 1
      · intro w' hS; obtain ⟨a1, a2, a3, a4⟩ := hS; go_simp; try with_reducible rfl
      change wpAnyH _ _ _ _ _ _ _ (Act.put _ (some 31) _) _
      simp only [Act.put, List.setIfInBounds_toArray, List.set_cons_zero, List.set_cons_succ]
      refine wpAnyH_done (by kernel_rfl) ?_ _
      clear heq hHeld hrr hrs l1 l2 hi1 hi2 hu92
      cases b
      · go_wp2_with fail
        go_loopw [1, 32] (fun v k wi => ∃ q : Nat, q ≤ 64 ∧ k = .int .i64 q ∧ PickAt (dT p r s) wi bs (D.used j + q) v ∧ DiskAt wi p r s cr cs (D.mid bs j q) ∧ Upd (dT p r s) w wi) (fun _ k _ => 64 - (intOf k).toNat)
        case atStart => exact ⟨0, by omega, rfl, HPk.out, HD.out, HU.out.drew⟩
        case round =>
          obtain ⟨q, hq, rfl, hpk, hd, hu⟩ := hrel
          have HPq := Lib.hid hpk
          have HDq := Lib.hid hd
          have HUq := Lib.hid hu
          clear hpk hd hu
          by_cases hqt : q < 64
          · obtain ⟨A', m, c', rfl, hmc, hcm, hbb, hT'⟩ := HPq.out
            have i2 : (0 : Int) ≤ (q : Int) := by omega
            have i3 : (q : Int) < 64 := by omega
            have c0 : wr.cell? ⟨p, 0, none⟩ = some (.slice (some ⟨r, 0, none⟩) n cr) := by rw [HNn.out]; exact HDq.out.1.cell 0
            have c1 : wr.cell? ⟨p, 1, none⟩ = some (.slice (some ⟨s, 0, none⟩) n cs) := by rw [HNn.out]; exact HDq.out.1.cell 1
            obtain ⟨x, hx⟩ : ∃ x, x = D.R (64 * j + q) := ⟨_, rfl⟩
            obtain ⟨y, hy⟩ : ∃ y, y = D.S (64 * j + q) := ⟨_, rfl⟩
            have hx8 : x < 256 := by rw [hx]; exact HOk.out.R _
            have hy8 : y < 256 := by rw [hy]; exact HOk.out.S _
            have cx : wr.cell? ⟨r, j * 64 + q, none⟩ = some (.int .u8 (x : Int)) := by
              rw [HDq.out.2.1.cell (show j * 64 + q < 64 * D.n by rw [← HNn.out]; omega), hx, Nat.mul_comm j 64]
              show some (Value.int .u8 ((D.upto bs j q (64 * j + q) : Nat) : Int)) = _
              rw [D.upto_now bs j q hqt]
            have cy : wr.cell? ⟨s, j * 64 + q, none⟩ = some (.int .u8 (y : Int)) := by
              rw [HDq.out.2.2.1.cell (show j * 64 + q < 64 * D.n by rw [← HNn.out]; omega), hy, Nat.mul_comm j 64]; rfl
            have fx : wr.frozen? ⟨r, j * 64 + q, none⟩ = false := HDq.out.2.1.frozen _
            have HX := Lib.hid hx
            have HY := Lib.hid hy
            clear hx hy
            rcases m with _ | m
            · obtain ⟨hnx, hg0⟩ := PickAt.done (T := dT p r s) (A := A') hcm hbb
              have HNx := Lib.hid hnx
              have HG0 := Lib.hid hg0
              clear hnx hg0 hbb hT'
              obtain ⟨b1, b2, b3⟩ := mix_bits hx8 hy8 (show 0 < 256 by omega)
              obtain ⟨v1, hv1⟩ : ∃ v, v = x &&& 0 := ⟨_, rfl⟩
              obtain ⟨v2, hv2⟩ : ∃ v, v = y &&& (255 - 0) := ⟨_, rfl⟩
              obtain ⟨v3, hv3⟩ : ∃ v, v = Dk.mix x y 0 := ⟨_, rfl⟩
              rw [← hv1] at b1 b3
              rw [← hv2] at b2 b3
              rw [← hv3] at b3
              have b1' : bits .and .u8 (x : Int) 0 = (v1 : Int) := b1
              have b2' : bits .andNot .u8 (y : Int) 0 = (v2 : Int) := b2
              have HV := Lib.hid hv3
              clear hv1 hv2 hv3 b1 b2
              go_wp2_with fail
              go_region
              go_wp2_with fail
              have hus : Upd (dT p r s) wr (wr.setCell ⟨r, j * 64 + q, none⟩ (.int .u8 (v3 : Int))).drew := (((Upd.refl _ _)).setCell (.inl (.inr (.inl rfl))) _).drew
              have hst := HDq.out.mid_step HOk.out hqt HB.out.symm
              rw [← HX.out, ← HY.out, HG0.out, ← HV.out] at hst
              refine ⟨⟨q + 1, by omega, rfl, HNx.out.upd hus, hst, HUq.out.trans hus⟩, ?_⟩
              show 64 - ((q : Int) + 1).toNat < 64 - (q : Int).toNat
              omega
            · obtain ⟨g, o, rfl, hgl, _⟩ := hbb.2.2 (by omega)
              have hgT : ¬ dT p r s g := hT' g o rfl (by omega)
              have hnx := fun (A2 : Option Addr) (h2 : c' ≠ 1 → A2 = some ⟨g, o + 1, none⟩) => PickAt.next hmc hcm hbb hgT A2 h2
              have cg : wr.cell? ⟨g, o, none⟩ = some (.int .u8 ((bs.getD (D.used j + q) 0 : Nat) : Int)) := (hnx _ (fun _ => rfl)).2.1
              have hg8 : bs.getD (D.used j + q) 0 < 256 := (hnx _ (fun _ => rfl)).2.2
              have HNx := Lib.hid (fun (A2 : Option Addr) (h2 : c' ≠ 1 → A2 = some ⟨g, o + 1, none⟩) => (hnx A2 h2).1)
              obtain ⟨u, hu⟩ : ∃ u, u = bs.getD (D.used j + q) 0 := ⟨_, rfl⟩
              rw [← hu] at cg hg8
              have HG0 := Lib.hid hu
              clear hnx hu hbb hT' hgT
              obtain ⟨b1, b2, b3⟩ := mix_bits hx8 hy8 hg8
              obtain ⟨v1, hv1⟩ : ∃ v, v = x &&& u := ⟨_, rfl⟩
              obtain ⟨v2, hv2⟩ : ∃ v, v = y &&& (255 - u) := ⟨_, rfl⟩
              obtain ⟨v3, hv3⟩ : ∃ v, v = Dk.mix x y u := ⟨_, rfl⟩
              rw [← hv1] at b1 b3
              rw [← hv2] at b2 b3
              rw [← hv3] at b3
              have HV := Lib.hid hv3
              clear hv1 hv2 hv3
              have i4 : (0 : Int) ≤ (m : Int) + 1 := by omega
              have i5 : (0 : Int) < (m : Int) + 1 := by omega
              have i6 : (1 : Int) ≤ (m : Int) + 1 := by omega
              have i7 : (m : Int) + 1 ≤ (c' : Int) := by omega
              have i8 : (1 : Int) ≤ (c' : Int) := by omega
              by_cases hc1 : c' = 1
              · subst hc1
                have hm0 : m = 0 := by omega
                subst hm0
                go_wp2_with fail
                go_region
                go_wp2_with fail
                go_region
                go_wp2_with fail
                have hus : Upd (dT p r s) wr (wr.drew.setCell ⟨r, j * 64 + q, none⟩ (.int .u8 (v3 : Int))).drew := (((Upd.refl _ _).drew).setCell (.inl (.inr (.inl rfl))) _).drew
                have hst := DiskAt.mid_step (w := wr.drew) HDq.out HOk.out hqt HB.out.symm
                rw [← HX.out, ← HY.out, ← HG0.out, ← HV.out] at hst
                refine ⟨⟨q + 1, by omega, rfl, (HNx.out _ (fun h => absurd rfl h)).upd hus, hst, HUq.out.trans hus⟩, ?_⟩
                show 64 - ((q : Int) + 1).toNat < 64 - (q : Int).toNat
                omega
              · go_wp2_with fail
                go_region
                go_wp2_with fail
                go_region
                go_wp2_with fail
                have hus : Upd (dT p r s) wr (wr.drew.setCell ⟨r, j * 64 + q, none⟩ (.int .u8 (v3 : Int))).drew := (((Upd.refl _ _).drew).setCell (.inl (.inr (.inl rfl))) _).drew
                have hst := DiskAt.mid_step (w := wr.drew) HDq.out HOk.out hqt HB.out.symm
                rw [← HX.out, ← HY.out, ← HG0.out, ← HV.out] at hst
                refine ⟨⟨q + 1, by omega, rfl, (HNx.out _ (fun _ => rfl)).upd hus, hst, HUq.out.trans hus⟩, ?_⟩
                show 64 - ((q : Int) + 1).toNat < 64 - (q : Int).toNat
                omega
          · have hq6 : q = 64 := by omega
            subst hq6
            go_wp2_with fail
            have hu1 : D.used (j + 1) = D.used j + 64 := by show D.used j + _ = _; rw [← HB.out]; rfl
            have hm1 : D.mid bs j 64 = D.mid bs (j + 1) 0 := by unfold Dk.mid; rw [Dk.upto_full]
            refine ⟨⟨j + 1, by omega, rfl, by rw [hu1]; exact HPq.out, by rw [← hm1]; exact HDq.out, HUq.out⟩, ?_⟩
            show n - ((j : Int) + 1).toNat < n - (j : Int).toNat
            omega
      · go_wp2_with fail
        have hu1 : D.used (j + 1) = D.used j := by show D.used j + _ = _; rw [← HB.out]; rfl
        have hm1 : D.mid bs j 0 = D.mid bs (j + 1) 0 := by unfold Dk.mid; rw [Dk.upto_same D bs j HB.out.symm]
        refine ⟨⟨j + 1, by omega, rfl, by rw [hu1]; exact HPk.out, by rw [← hm1]; exact HD.out, HU.out.drew⟩, ?_⟩
        show n - ((j : Int) + 1).toNat < n - (j : Int).toNat
        omega
    · have hjn : j = n := by omega
      have HJn := Lib.hid hjn
      clear hjn
      go_wp2_with fail
      obtain ⟨hb1, hr1, ⟨C, hCb, hCs0, hCc0⟩, hrs, hcr, hcs, hok1⟩ := HD.out
      have hCs : 64 * n ≤ C.size := by rw [HNn.out]; exact hCs0
      have hCc : ∀ i, i < 64 * n → C[i]? = some (.int .u8 ((D.S i : Nat) : Int)) := by rw [HNn.out]; exact hCc0
      have hr2 : Sect wr r 92 n (D.upto bs j 0) := by rw [HNn.out]; exact hr1
      have hb2 : Blk wr p 90 #[.slice (some ⟨r, 0, none⟩) n cr, .slice (some ⟨s, 0, none⟩) n cs, .int .i64 (D.calls : Int), .int .i64 (D.fuse : Int), .bool D.down] := by rw [HNn.out]; exact hb1
      have hcr2 : n ≤ cr := by rw [HNn.out]; exact hcr
      have hcs2 : n ≤ cs := by rw [HNn.out]; exact hcs
      clear hCs0 hCc0 hr1 hb1 hcr hcs
      obtain ⟨X, hX⟩ : ∃ X, X = ((List.range (64 * n)).map (D.upto bs j 0)).map (fun x => Value.int .u8 ((x : Nat) : Int)) := ⟨_, rfl⟩
      have hXl : X.length = 64 * n := by rw [hX]; simp
      have hcopy := run_copy_rows (P := Try.prog) wr.drew 88 88 3 92 s 0 n cs ⟨r, 0, none⟩ n cr 64 C 92 X Try.underlying88 sector_size hCb (by rw [hXl, show n.min n = n from Nat.min_self n, Nat.mul_comm]) (by rw [hX]; exact hr2.list) (by omega) (by rw [hX]; exact bytes_one _)
      have HX := Lib.hid hX
      have HXl := Lib.hid hXl
      have HCb := Lib.hid hCb
      have HCc := Lib.hid hCc
      have HR := Lib.hid hr2
      have HB2 := Lib.hid hb2
      have hps := (HD.out).ne
      have f3 : ∀ Y, (wr.drew.setRow s Y).frozen? ⟨p, 3, none⟩ = false := fun Y => (Blk.rowFar (w := wr.drew) hb2 hps.2 Y).frozen 3
      have f4 : ∀ Y, (wr.drew.setRow s Y).frozen? ⟨p, 4, none⟩ = false := fun Y => (Blk.rowFar (w := wr.drew) hb2 hps.2 Y).frozen 4
      have k3 : ∀ Y, (wr.drew.setRow s Y).cell? ⟨p, 3, none⟩ = some (.int .i64 (D.fuse : Int)) := fun Y => (Blk.rowFar (w := wr.drew) hb2 hps.2 Y).cell 3
      have k4 : ∀ Y, (wr.drew.setRow s Y).cell? ⟨p, 4, none⟩ = some (.bool D.down) := fun Y => (Blk.rowFar (w := wr.drew) hb2 hps.2 Y).cell 4
      have HPs := Lib.hid hps
      clear hX hXl hCb hCc hr2 hok1 hb2 hps HD
      go_still_tail 8, (by kernel_rfl)
      go_wp2_with fail
      go_end0
      have hjn := HJn.out
      have hnn := HNn.out
      subst hjn
      subst hnn
      have hps := HPs.out
      refine ⟨rfl, ⟨(((Blk.rowFar (w := wr.drew) HB2.out hps.2 _).set_ 4 (.bool false)).set_ 3 (.int .i64 0)).cast rfl, ?_, ?_, hrs, hcr2, hcs2, HOk.out.crash bs⟩, ?_⟩
      · exact ((((Sect.congr HR.out (D.upto_all bs)).drew).rowFar hrs _).far (Ne.symm hps.1) _).far (Ne.symm hps.1) _
      · refine Sect.far (Sect.far ?_ (Ne.symm hps.2) _) (Ne.symm hps.2) _
        rw [HX.out]
        refine (Sect.splice_ (w := wr.drew) (f := D.S) ⟨C, HCb.out, hCs, HCc.out, Blk.row (w := wr.drew) HCb.out _⟩ (by simp)).congr fun k hk => ?_
        simp only [List.length_map, List.length_range]
        have h3 : 0 ≤ k ∧ k < 0 + 64 * D.n := ⟨by omega, by omega⟩
        simp only [h3, and_self, if_true]
        rw [List.getD_eq_getElem?_getD, Nat.sub_zero, List.getElem?_map, List.getElem?_range (by omega)]
        exact D.upto_all bs k (by omega)
      · exact (((HU.out.drew).setRow (.inl (.inr (.inr rfl))) _).setCell (.inl (.inl rfl)) _).setCell (.inl (.inl rfl)) _
end Go.Proofs.Ytiiegimnnngnnaa
