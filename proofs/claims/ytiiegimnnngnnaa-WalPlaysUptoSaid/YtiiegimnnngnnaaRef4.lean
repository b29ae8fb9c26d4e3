/- The reference's disk: Crash. -/
import Derived.Test.YtiiegimnnngnnaaRef3
namespace Go.Proofs.Ytiiegimnnngnnaa
open Go.RowKit Go.Sort
set_option linter.unusedVariables false

theorem RefAt.congr {w : World} {T : Nat → Prop} {m : Nat} {A B : Option Addr} {cA cB : Nat} {D D' : Dk} (h : RefAt w T m A B cA cB D) (hb : refCells A B cA cB D = refCells A B cA cB D') (hn : D'.n = D.n) (hR : ∀ i, i < D.n → D.sector i = D'.sector i) (hS : ∀ i, i < D.n → D.sectorS i = D'.sectorS i) (hok : D'.Ok) : RefAt w T m A B cA cB D' :=
  ⟨hb ▸ h.blk, h.tm, by rw [hn]; exact h.now.congr hR, by rw [hn]; exact h.sure.congr hS, by rw [hn]; exact h.ne, by rw [hn]; exact h.cA, by rw [hn]; exact h.cB, hok⟩
def mixRow (D : Dk) (bs : List Nat) (j q : Nat) : Array Value := ((List.range 64).map fun k => Value.int .u8 (((if k < q then D.crashR bs (64 * j + k) else 0 : Nat) : Nat) : Int)).toArray
theorem mixRow_zero (D : Dk) (bs : List Nat) (j : Nat) : mixRow D bs j 0 = noughts 64 := by rfl
theorem mixRow_size (D : Dk) (bs : List Nat) (j q : Nat) : (mixRow D bs j q).size = 64 := by simp [mixRow]
theorem mixRow_get (D : Dk) (bs : List Nat) (j q k : Nat) (hk : k < 64) : (mixRow D bs j q)[k]? = some (Value.int .u8 (((if k < q then D.crashR bs (64 * j + k) else 0 : Nat) : Nat) : Int)) := by
  unfold mixRow
  rw [List.getElem?_toArray, List.getElem?_map, List.getElem?_range hk]; rfl
theorem mixRow_set (D : Dk) (bs : List Nat) (j q : Nat) (hq : q < 64) : (mixRow D bs j q).setIfInBounds q (.int .u8 ((D.crashR bs (64 * j + q) : Nat) : Int)) = mixRow D bs j (q + 1) := by
  apply Array.ext_getElem?
  intro k
  rcases Nat.lt_or_ge k 64 with hk | hk
  · rw [Array.getElem?_setIfInBounds, mixRow_size, mixRow_get _ _ _ _ _ hk, mixRow_get _ _ _ _ _ hk]
    by_cases e : q = k
    · subst e
      simp [hq]
    · rw [if_neg e]
      by_cases h1 : k < q
      · rw [if_pos h1, if_pos (by omega)]
      · rw [if_neg h1, if_neg (by omega)]
  · rw [Array.getElem?_eq_none (by simp [mixRow_size]; omega), Array.getElem?_eq_none (by simp [mixRow_size]; omega)]
theorem mixRow_list (D : Dk) (bs : List Nat) (j : Nat) : (mixRow D bs j 64).toList = ((D.mid bs (j + 1) 0).sector j).map fun x => Value.int .u8 ((x : Nat) : Int) := by
  unfold mixRow Dk.sector
  rw [List.map_map]
  apply List.map_congr_left
  intro k hk
  have hk := List.mem_range.1 hk
  simp only [hk, if_true, Function.comp]
  show _ = Value.int .u8 ((D.upto bs (j + 1) 0 (64 * j + k) : Nat) : Int)
  unfold Dk.upto
  rw [if_pos (by omega)]
theorem crashR_at (D : Dk) (bs : List Nat) (j q : Nat) (hq : q < 64) (hs : D.same j = false) : D.crashR bs (64 * j + q) = Dk.mix (D.R (64 * j + q)) (D.S (64 * j + q)) (bs.getD (D.used j + q) 0) := by
  unfold Dk.crashR
  rw [show (64 * j + q) / 64 = j by omega, show (64 * j + q) % 64 = q by omega, hs]
  rfl
theorem mid_sector_now (D : Dk) (bs : List Nat) (j : Nat) : (D.mid bs j 0).sector j = D.sector j := by
  unfold Dk.sector
  apply List.map_congr_left
  intro k hk
  exact D.upto_now bs j 0 (by omega) |> fun _ => by
    show D.upto bs j 0 (64 * j + k) = _
    have hk := List.mem_range.1 hk
    unfold Dk.upto
    rw [if_neg (by omega)]
theorem mid_sector_step (D : Dk) (bs : List Nat) (i j : Nat) (hne : i ≠ j) : (D.mid bs (j + 1) 0).sector i = (D.mid bs j 0).sector i := by
  unfold Dk.sector
  apply List.map_congr_left
  intro k hk
  have hk := List.mem_range.1 hk
  show D.upto bs (j + 1) 0 (64 * i + k) = D.upto bs j 0 (64 * i + k)
  unfold Dk.upto
  by_cases h : i < j
  · rw [if_pos (by omega), if_pos (by omega)]
  · rw [if_neg (by omega), if_neg (by omega)]
theorem mid_sectorS (D : Dk) (bs : List Nat) (i j : Nat) : (D.mid bs j 0).sectorS i = D.sectorS i := rfl
theorem str_eq_of_list {a b : ByteArray} (h : a.toList = b.toList) : a = b := by
  rw [Go.ByteArray.toList_eq, Go.ByteArray.toList_eq] at h
  cases a; cases b
  simp only at h
  rw [Array.toList_inj.1 h]
theorem same_str (D : Dk) (hok : D.Ok) (j : Nat) : ((strOf (D.sector j)).toList == (strOf (D.sectorS j)).toList) = D.same j := by
  rw [Bool.eq_iff_iff, beq_iff_eq, Dk.same_iff]
  constructor
  · intro h k hk
    have h := str_eq_of_list h
    have := strOf_inj (hok.sector j) (hok.sectorS j) h
    rw [← D.sector_getD j k hk, ← D.sectorS_getD j k hk, this]
  · intro h
    have : D.sector j = D.sectorS j := by
      unfold Dk.sector Dk.sectorS
      apply List.map_congr_left
      intro k hk
      exact h k (List.mem_range.1 hk)
    rw [this]
theorem mid_zero (D : Dk) (bs : List Nat) : D.mid bs 0 0 = D := by unfold Dk.mid; rw [Dk.upto_zero]
theorem upd_below {T : Nat → Prop} {w w' : World} (h : Below w.heap.size w w') : Upd T w w' := Upd.mono (T := fun k => w.heap.size ≤ k) (Upd.of_below h (fun _ _ h => h)) (fun k h1 h2 => absurd h1 (by omega))
set_option maxRecDepth 100000 in
set_option maxHeartbeats 2000000 in
theorem RefCrash_any (w : World) (T : Nat → Prop) (m : Nat) (A B P : Option Addr) (cA cB l c : Nat) (D : Dk) (bs : List Nat) (h : RefAt w T m A B cA cB D) (hb : Bytes w P l bs) (hlc : l ≤ c) (hc : c ≤ maxLen)
    (hP : ∀ g o, P = some ⟨g, o, none⟩ → 0 < l → ¬ T g) (hT : ∀ k, T k → k < w.heap.size) :
    Calls Try.prog 66 #[.pointer (some ⟨m, 0, none⟩), .slice P l c] w fun e w' =>
      e = .returned (.tuple #[]) ∧ RefAt w' T m A B cA cB (D.crash bs) ∧ Upd (rT m A B) w w' := by
  have HP0 : Hid (PickAt T w bs (D.used 0) (.slice P l c)) := Lib.hid ⟨P, l, c, rfl, hlc, hc, by simpa [Dk.used] using hb, hP⟩
  have HR0 := Lib.hid h
  have HT := Lib.hid hT
  have HOk := Lib.hid h.ok
  have hb0 := h.blk
  unfold refCells at hb0
  have c0 : w.cell? ⟨m, 0, none⟩ = some (.slice A D.n cA) := hb0.cell 0
  clear h hb hP hT hlc hc hb0
  obtain ⟨n, hn⟩ : ∃ n, n = D.n := ⟨_, rfl⟩
  rw [← hn] at c0
  have hn4 : n ≤ 4096 := by rw [hn]; exact HOk.out.n
  have HNn := Lib.hid hn
  clear hn
  go_enter Try.func66, Try.ntmps66
  go_wp2_with fail
  clear c0
  go_loopw [1, 13] (fun v i wr => ∃ j : Nat, j ≤ n ∧ i = .int .i64 j ∧ PickAt T wr bs (D.used j) v ∧ RefAt wr T m A B cA cB (D.mid bs j 0) ∧ Upd (rT m A B) w wr) (fun _ i _ => n - (intOf i).toNat)
  case atStart =>
    refine ⟨0, by omega, rfl, HP0.out, ?_, Upd.refl _ _⟩
    rw [mid_zero]; exact HR0.out
  case round =>
    obtain ⟨j, hj, rfl, hpk, hd, hu⟩ := hrel
    have HPk := Lib.hid hpk
    have HD := Lib.hid hd
    have HU := Lib.hid hu
    have hb0 := hd.blk
    unfold refCells at hb0
    have c0 : wr.cell? ⟨m, 0, none⟩ = some (.slice A n cA) := by rw [HNn.out]; exact hb0.cell 0
    have c1 : wr.cell? ⟨m, 1, none⟩ = some (.slice B n cB) := by rw [HNn.out]; exact hb0.cell 1
    clear hpk hd hu HP0 HR0 hb0
    by_cases hlt : j < n
    · have i0 : (0 : Int) ≤ (j : Int) := by omega
      have i1 : (j : Int) < (n : Int) := by omega
      have hjn : j < (D.mid bs j 0).n := by show j < D.n; rw [← HNn.out]; exact hlt
      obtain ⟨r, C, rfl, hC, hCs, hTr, hrow⟩ := HD.out.now (by omega)
      obtain ⟨s, C', rfl, hC', hCs', hTs, hrow'⟩ := HD.out.sure (by omega)
      obtain ⟨v1, hv1, g1, o1, k1, rfl, hk1, hk1', hbt1, hg1⟩ := hrow j hjn
      obtain ⟨v2, hv2, g2, o2, k2, rfl, hk2, hk2', hbt2, hg2⟩ := hrow' j hjn
      rw [mid_sector_now] at hbt1
      rw [mid_sectorS] at hbt2
      have cr : wr.cell? ⟨r, j, none⟩ = some (.slice (some ⟨g1, o1, none⟩) 64 k1) := by rw [hC.cell, hv1]
      have cs : wr.cell? ⟨s, j, none⟩ = some (.slice (some ⟨g2, o2, none⟩) 64 k2) := by rw [hC'.cell, hv2]
      have fr : wr.frozen? ⟨r, j, none⟩ = false := hC.frozen j
      have hcx : ∀ n : Nat, (convert 22 9 (.slice (some ⟨g1, o1, none⟩) 64 k1)).run Try.prog (wr.drewN n) = .ok (.string (strOf (D.sector j))) (wr.drewN n) :=
        fun n => (show Bytes (wr.drewN n) _ _ _ from hbt1).to_string 22 9 5 k1 Try.underlying22 Try.underlying5 Try.underlying9
      have hco : ∀ n : Nat, (convert 22 9 (.slice (some ⟨g2, o2, none⟩) 64 k2)).run Try.prog (wr.drewN n) = .ok (.string (strOf (D.sectorS j))) (wr.drewN n) :=
        fun n => (show Bytes (wr.drewN n) _ _ _ from hbt2).to_string 22 9 5 k2 Try.underlying22 Try.underlying5 Try.underlying9
      have hss := same_str D HOk.out j
      have HC := Lib.hid hC
      have HBt1 := Lib.hid hbt1
      have HBt2 := Lib.hid hbt2
      have HTr := Lib.hid hTr
      clear hrow hrow' hv1 hv2 hC hC' hbt1 hbt2 hTr hTs
      generalize strOf (D.sector j) = S1 at *
      generalize strOf (D.sectorS j) = S2 at *
      cases hsm : D.same j
      · rw [hsm] at hss
        have HSm := Lib.hid hsm
        clear hsm
        go_wp2_with fail
        go_quiet (fail)
        have hmk : ∀ W : World, (Instr.makeSlice 22 (.int .i64 64) (.int .i64 64)).run Try.prog W = .ok (.slice (some ⟨W.heap.size, 0, none⟩) 64 64) (W.alloc (.cells (noughts 64) 5)) := make_bytes 64 (by omega)
        obtain ⟨R0, hR0⟩ : ∃ R, R = mixRow D bs j 0 := ⟨_, rfl⟩
        rw [← mixRow_zero D bs j, ← hR0] at hmk
        have HR0 := Lib.hid hR0
        clear hR0 hcx hco
        go_wp2_with fail
        clear hss
        obtain ⟨wo, rfl⟩ : ∃ wo : World, wo = wr := ⟨_, rfl⟩
        go_loopw [1, 36] (fun v k wi => ∃ q : Nat, q ≤ 64 ∧ k = .int .i64 q ∧ PickAt T wo bs (D.used j + q) v ∧ Blk wi wo.heap.size 5 (mixRow D bs j q) ∧ Below wo.heap.size wo wi) (fun _ k _ => 64 - (intOf k).toNat)
        case atStart =>
          refine ⟨0, by omega, rfl, HPk.out, ?_, (show Below wo.heap.size wo (wo.drewN _) from ⟨rfl, rfl, rfl, Nat.le_refl _, fun _ _ => rfl⟩).alloc (Nat.le_refl _) _⟩
          rw [← HR0.out]
          exact Blk.new (wo.drewN _) _ _
        case round =>
          obtain ⟨q, hq, rfl, hpk, hbk, hbel⟩ := hrel
          have HPq := Lib.hid hpk
          have HBk := Lib.hid hbk
          have HBel := Lib.hid hbel
          clear hpk hbk hbel
          by_cases hqt : q < 64
          · obtain ⟨A', mm, c', rfl, hmc, hcm, hbb, hT'⟩ := HPq.out
            have i2 : (0 : Int) ≤ (q : Int) := by omega
            have i3 : (q : Int) < 64 := by omega
            have hml := HD.out.blk.lt
            have hrl := HC.out.lt
            have hsl := lt_of_cell cs
            have d0 : wr.cell? ⟨m, 0, none⟩ = some (.slice (some ⟨r, 0, none⟩) n cA) := (HBel.out.cell (p := ⟨m, 0, none⟩) hml).trans c0
            have d1 : wr.cell? ⟨m, 1, none⟩ = some (.slice (some ⟨s, 0, none⟩) n cB) := (HBel.out.cell (p := ⟨m, 1, none⟩) hml).trans c1
            have d2 : wr.cell? ⟨r, j, none⟩ = some (.slice (some ⟨g1, o1, none⟩) 64 k1) := (HBel.out.cell (p := ⟨r, j, none⟩) hrl).trans cr
            have d3 : wr.cell? ⟨s, j, none⟩ = some (.slice (some ⟨g2, o2, none⟩) 64 k2) := (HBel.out.cell (p := ⟨s, j, none⟩) hsl).trans cs
            obtain ⟨x, hx⟩ : ∃ x, x = D.R (64 * j + q) := ⟨_, rfl⟩
            obtain ⟨y, hy⟩ : ∃ y, y = D.S (64 * j + q) := ⟨_, rfl⟩
            have hx8 : x < 256 := by rw [hx]; exact HOk.out.R _
            have hy8 : y < 256 := by rw [hy]; exact HOk.out.S _
            obtain ⟨_, _, e1, hgl1, hc1⟩ := HBt1.out.2.2 (by omega)
            cases e1
            obtain ⟨_, _, e2, hgl2, hc2⟩ := HBt2.out.2.2 (by omega)
            cases e2
            have cx : wr.cell? ⟨g1, o1 + q, none⟩ = some (.int .u8 (x : Int)) := by
              rw [HBel.out.cell (p := ⟨g1, o1 + q, none⟩) hgl1, hc1 q hqt, D.sector_getD j q hqt, hx]
            have cy : wr.cell? ⟨g2, o2 + q, none⟩ = some (.int .u8 (y : Int)) := by
              rw [HBel.out.cell (p := ⟨g2, o2 + q, none⟩) hgl2, hc2 q hqt, D.sectorS_getD j q hqt, hy]
            have cq : wr.cell? ⟨wo.heap.size, q, none⟩ = some (.int .u8 (((if q < q then D.crashR bs (64 * j + q) else 0 : Nat) : Nat) : Int)) := by rw [HBk.out.cell, mixRow_get _ _ _ _ _ hqt]
            rw [if_neg (by omega)] at cq
            have fq : wr.frozen? ⟨wo.heap.size, q, none⟩ = false := HBk.out.frozen q
            have HX := Lib.hid hx
            have HY := Lib.hid hy
            clear hx hy hc1 hc2 c0 c1 cr cs fr
            rcases mm with _ | mm
            · obtain ⟨hnx, hg0⟩ := PickAt.done (T := T) (A := A') hcm hbb
              have HNx := Lib.hid hnx
              have HG0 := Lib.hid hg0
              clear hnx hg0 hbb hT'
              obtain ⟨b1, b2, b3⟩ := mix_bits hx8 hy8 (show 0 < 256 by omega)
              obtain ⟨v1, hv1⟩ : ∃ v, v = x &&& 0 := ⟨_, rfl⟩
              obtain ⟨v2, hv2⟩ : ∃ v, v = y &&& (255 - 0) := ⟨_, rfl⟩
              obtain ⟨v3, hv3⟩ : ∃ v, v = Dk.mix x y 0 := ⟨_, rfl⟩
              rw [← hv1] at b1 b3
              rw [← hv2] at b2 b3
              rw [← hv3] at b3
              have b1' : bits .and .u8 (x : Int) 0 = (v1 : Int) := b1
              have b2' : bits .andNot .u8 (y : Int) 0 = (v2 : Int) := b2
              have HV := Lib.hid hv3
              clear hv1 hv2 hv3 b1 b2
              go_wp2_with fail
              go_region
              go_wp2_with fail
              go_roundw
              case rel =>
                have e : v3 = D.crashR bs (64 * j + q) := by rw [crashR_at D bs j q hqt HSm.out, HV.out, HX.out, HY.out, HG0.out]
                have hst := HBk.out.set_ q (.int .u8 ((v3 : Nat) : Int))
                rw [e, mixRow_set D bs j q hqt] at hst
                rw [e]
                exact ⟨q + 1, by omega, by go_num, HNx.out, hst, (HBel.out.setCell (by simp) _).drew⟩
              case measure => simp [intOf]; omega
            · obtain ⟨g, o, rfl, hgl, _⟩ := hbb.2.2 (by omega)
              have hgT : ¬ T g := hT' g o rfl (by omega)
              have hnx := fun (A2 : Option Addr) (h2 : c' ≠ 1 → A2 = some ⟨g, o + 1, none⟩) => PickAt.next hmc hcm hbb hgT A2 h2
              have cg : wr.cell? ⟨g, o, none⟩ = some (.int .u8 ((bs.getD (D.used j + q) 0 : Nat) : Int)) := (HBel.out.cell (p := ⟨g, o, none⟩) hgl).trans (hnx _ (fun _ => rfl)).2.1
              have hg8 : bs.getD (D.used j + q) 0 < 256 := (hnx _ (fun _ => rfl)).2.2
              have HNx := Lib.hid (fun (A2 : Option Addr) (h2 : c' ≠ 1 → A2 = some ⟨g, o + 1, none⟩) => (hnx A2 h2).1)
              obtain ⟨u, hu⟩ : ∃ u, u = bs.getD (D.used j + q) 0 := ⟨_, rfl⟩
              rw [← hu] at cg hg8
              have HG0 := Lib.hid hu
              clear hnx hu hbb hT' hgT
              obtain ⟨b1, b2, b3⟩ := mix_bits hx8 hy8 hg8
              obtain ⟨v1, hv1⟩ : ∃ v, v = x &&& u := ⟨_, rfl⟩
              obtain ⟨v2, hv2⟩ : ∃ v, v = y &&& (255 - u) := ⟨_, rfl⟩
              obtain ⟨v3, hv3⟩ : ∃ v, v = Dk.mix x y u := ⟨_, rfl⟩
              rw [← hv1] at b1 b3
              rw [← hv2] at b2 b3
              rw [← hv3] at b3
              have HV := Lib.hid hv3
              clear hv1 hv2 hv3
              have i4 : (0 : Int) ≤ (mm : Int) + 1 := by omega
              have i5 : (0 : Int) < (mm : Int) + 1 := by omega
              have i6 : (1 : Int) ≤ (mm : Int) + 1 := by omega
              have i7 : (mm : Int) + 1 ≤ (c' : Int) := by omega
              have i8 : (1 : Int) ≤ (c' : Int) := by omega
              by_cases hc1 : c' = 1
              · subst hc1
                have hm0 : mm = 0 := by omega
                subst hm0
                go_wp2_with fail
                go_region
                go_wp2_with fail
                go_region
                go_wp2_with fail
                go_roundw
                case rel =>
                  have e : v3 = D.crashR bs (64 * j + q) := by rw [crashR_at D bs j q hqt HSm.out, HV.out, HX.out, HY.out, HG0.out]
                  have hst := Blk.set_ (w := wr.drew) HBk.out q (.int .u8 ((v3 : Nat) : Int))
                  rw [e, mixRow_set D bs j q hqt] at hst
                  rw [e]
                  exact ⟨q + 1, by omega, by go_num, HNx.out _ (fun h => absurd rfl h), hst, (HBel.out.drew.setCell (by simp) _).drew⟩
                case measure => simp [intOf]; omega
              · go_wp2_with fail
                go_region
                go_wp2_with fail
                go_region
                go_wp2_with fail
                go_roundw
                case rel =>
                  have e : v3 = D.crashR bs (64 * j + q) := by rw [crashR_at D bs j q hqt HSm.out, HV.out, HX.out, HY.out, HG0.out]
                  have hst := Blk.set_ (w := wr.drew) HBk.out q (.int .u8 ((v3 : Nat) : Int))
                  rw [e, mixRow_set D bs j q hqt] at hst
                  rw [e]
                  exact ⟨q + 1, by omega, by go_num, HNx.out _ (fun _ => rfl), hst, (HBel.out.drew.setCell (by simp) _).drew⟩
                case measure => simp [intOf]; omega
          · obtain rfl : q = 64 := by omega
            have hml := HD.out.blk.lt
            have hrl := HC.out.lt
            have d0 : wr.cell? ⟨m, 0, none⟩ = some (.slice (some ⟨r, 0, none⟩) n cA) := (HBel.out.cell (p := ⟨m, 0, none⟩) hml).trans c0
            have d2 : wr.cell? ⟨r, j, none⟩ = some (.slice (some ⟨g1, o1, none⟩) 64 k1) := (HBel.out.cell (p := ⟨r, j, none⟩) hrl).trans cr
            have d3 : wr.frozen? ⟨r, j, none⟩ = false := (HBel.out.frozen (p := ⟨r, j, none⟩) hrl).trans fr
            clear c0 c1 cr cs fr
            go_wp2_with fail
            go_roundw
            case rel =>
              have hbt : Bytes wr (some ⟨wo.heap.size, 0, none⟩) 64 ((D.mid bs (j + 1) 0).sector j) := HBk.out.bytes_ 64 _ (Dk.sector_length _ _) ((HOk.out.mid bs (j + 1) 0).sector j) (mixRow_list D bs j)
              have hTw : ¬ T wo.heap.size := fun h => by have := HT.out _ h; have := HU.out.size; omega
              have hrv : RowVal wr T (.slice (some ⟨wo.heap.size, 0, none⟩) 64 64) ((D.mid bs (j + 1) 0).sector j) := ⟨wo.heap.size, 0, 64, rfl, Nat.le_refl _, by unfold maxLen; omega, hbt, hTw⟩
              have hu1 : D.used (j + 1) = D.used j + 64 := by show D.used j + _ = _; rw [HSm.out]; rfl
              have huw : Upd T wo (wr.setCell ⟨r, j, none⟩ (.slice (some ⟨wo.heap.size, 0, none⟩) 64 64)) := Upd.setCell (upd_below HBel.out) (.inl HTr.out) _
              have h2 := HD.out.below HBel.out
              have hmr : m ≠ r := fun e => by subst e; exact HC.out.ne_ HD.out.blk (by decide) rfl
              refine ⟨j + 1, by omega, by go_num, ?_, ⟨h2.blk.far (p := ⟨r, j, none⟩) hmr _, h2.tm, ?_, ?_, h2.ne, h2.cA, h2.cB, HOk.out.mid bs (j + 1) 0⟩, HU.out.trans (Upd.setCell (T := rT m (some ⟨r, 0, none⟩) _) (upd_below HBel.out) (.inl (.inr (.inl rfl))) _)⟩
              · rw [hu1]
                exact HPq.out.upd huw
              · exact TabAt.put HD.out.now HBel.out hrv hjn (fun i _ hne => mid_sector_step D bs i j hne)
              · exact h2.sure.upd (upd1 (upd0 r wr) j _) (fun k _ e => by subst e; exact HTr.out) (fun r' e e2 => by subst e2; exact h2.ne _ (by omega) rfl e)
            case measure => simp [intOf]; omega
      · rw [hsm] at hss
        have HSm := Lib.hid hsm
        clear hsm
        go_wp2_with fail
        go_quiet (fail)
        go_wp2_with fail
        go_roundw
        case rel =>
          refine ⟨j + 1, by omega, by go_num, ?_, ?_, HU.out.drewN _⟩
          · have : D.used (j + 1) = D.used j := by show D.used j + _ = _; rw [HSm.out]; rfl
            rw [this]; exact HPk.out
          · have : D.mid bs (j + 1) 0 = D.mid bs j 0 := by unfold Dk.mid; rw [Dk.upto_same D bs j HSm.out]
            rw [this]; exact HD.out.below ⟨rfl, rfl, rfl, Nat.le_refl _, fun _ _ => rfl⟩
        case measure => simp [intOf]; omega
    · have hjn : j = n := by omega
      have HJn := Lib.hid hjn
      clear hjn
      have fin : ∀ w' : World, Upd (fun k => k = m) w' w' := fun w' => Upd.refl _ _
      have hfin : ∀ (w2 : World), RefAt w2 T m A B cA cB { D.mid bs D.n 0 with S := (D.mid bs D.n 0).R } → RefAt ((w2.setCell ⟨m, 4, none⟩ (.bool false)).setCell ⟨m, 3, none⟩ (.int .i64 0)) T m A B cA cB (D.crash bs) := by
        intro w2 h2
        have hb2 := h2.blk
        unfold refCells at hb2
        have h3 : RefAt ((w2.setCell ⟨m, 4, none⟩ (.bool false)).setCell ⟨m, 3, none⟩ (.int .i64 0)) T m A B cA cB { { D.mid bs D.n 0 with S := (D.mid bs D.n 0).R } with down := false, fuse := 0 } :=
          h2.plain (upd1 (upd1 (upd0 m w2) _ _) _ _) (((hb2.set_ 4 (.bool false)).set_ 3 (.int .i64 0)).cast rfl) rfl rfl rfl ⟨h2.ok.R, h2.ok.S, h2.ok.n, h2.ok.calls, by simp⟩
        refine h3.congr rfl rfl (fun i hi => ?_) (fun i hi => ?_) (HOk.out.crash bs)
        · unfold Dk.sector
          apply List.map_congr_left
          intro k hk
          have hk := List.mem_range.1 hk
          exact D.upto_all bs (64 * i + k) (by have : i < D.n := hi; omega)
        · unfold Dk.sectorS
          apply List.map_congr_left
          intro k hk
          have hk := List.mem_range.1 hk
          exact D.upto_all bs (64 * i + k) (by have : i < D.n := hi; omega)
      have HFin := Lib.hid hfin
      clear fin hfin
      have hjd : j = D.n := by rw [HJn.out]; exact HNn.out
      rw [hjd] at HD
      clear hjd HPk
      have hml := HD.out.blk.lt
      have hbm := HD.out.blk
      unfold refCells at hbm
      have hn0 : n = 0 ∨ 0 < n := by omega
      rcases hn0 with hn0 | hn0
      · have HN0 := Lib.hid hn0
        have HBm := Lib.hid hbm
        have hcopy := run_copy_none (P := Try.prog) (w := wr.drew) 57 57 3 22 B A n cB n cA Try.underlying57 slice_size (by rw [HN0.out]; rfl)
        have f3 : wr.frozen? ⟨m, 3, none⟩ = false := hbm.frozen 3
        have f4 : wr.frozen? ⟨m, 4, none⟩ = false := hbm.frozen 4
        have k3 : wr.cell? ⟨m, 3, none⟩ = some (.int .i64 (D.fuse : Int)) := hbm.cell 3
        have k4 : wr.cell? ⟨m, 4, none⟩ = some (.bool D.down) := hbm.cell 4
        clear hn0 hbm
        go_wp2_with fail
        go_still_tail 8, (by kernel_rfl)
        go_wp2_with fail
        go_end0
        have h1 := HD.out.drew
        refine ⟨rfl, HFin.out wr.drew ⟨h1.blk, h1.tm, h1.now, fun h0 => ?_, h1.ne, h1.cA, h1.cB, ⟨h1.ok.R, h1.ok.R, h1.ok.n, h1.ok.calls, h1.ok.fuse⟩⟩, ?_⟩
        · have h00 : 0 < D.n := h0
          have := HN0.out
          have := HNn.out
          omega
        · exact Upd.setCell (T := rT m A B) (Upd.setCell (T := rT m A B) HU.out.drew (.inl (.inl rfl)) _) (.inl (.inl rfl)) _
      · have hnn : 0 < (D.mid bs D.n 0).n := by show 0 < D.n; rw [← HNn.out]; exact hn0
        obtain ⟨r, Cn, rfl, hCn, hNs, hTr, _⟩ := HD.out.now hnn
        obtain ⟨s, Cs, rfl, hCs, hSs, hTs, _⟩ := HD.out.sure hnn
        have hone := row_one HD.out.now hnn Cn hCn
        have hsrc := rows_src (n := n) Cn hCn
        have hcp : RefAt (wr.drew.setRow s (splice Cs.toList 0 (Cn.toList.take (D.mid bs D.n 0).n)).toArray) T m (some ⟨r, 0, none⟩) (some ⟨s, 0, none⟩) cA cB { D.mid bs D.n 0 with S := (D.mid bs D.n 0).R } := HD.out.drew.copied hnn Cs hCs.drew hSs Cn hCn.drew hNs
        have hmn : (D.mid bs D.n 0).n = n := HNn.out.symm
        rw [hmn] at hone hcp hNs hSs
        obtain ⟨X, hX⟩ : ∃ X, X = Cn.toList.take n := ⟨_, rfl⟩
        have hXl : X.length = n := by rw [hX]; simp; omega
        rw [← hX] at hone hsrc hcp
        have hcopy := run_copy_rows (P := Try.prog) wr.drew 57 57 3 22 s 0 n cB ⟨r, 0, none⟩ n cA 1 Cs 22 X Try.underlying57 slice_size hCs.drew (by rw [hXl, show n.min n = n from Nat.min_self _, Nat.mul_one]) hsrc (by omega) hone
        have hms : m ≠ s := fun e => by subst e; exact hCs.ne_ HD.out.blk (by decide) rfl
        have f3 : ∀ Y, (wr.drew.setRow s Y).frozen? ⟨m, 3, none⟩ = false := fun Y => (Blk.rowFar (w := wr.drew) hbm hms Y).frozen 3
        have f4 : ∀ Y, (wr.drew.setRow s Y).frozen? ⟨m, 4, none⟩ = false := fun Y => (Blk.rowFar (w := wr.drew) hbm hms Y).frozen 4
        have k3 : ∀ Y, (wr.drew.setRow s Y).cell? ⟨m, 3, none⟩ = some (.int .i64 (D.fuse : Int)) := fun Y => (Blk.rowFar (w := wr.drew) hbm hms Y).cell 3
        have k4 : ∀ Y, (wr.drew.setRow s Y).cell? ⟨m, 4, none⟩ = some (.bool D.down) := fun Y => (Blk.rowFar (w := wr.drew) hbm hms Y).cell 4
        have HCp := Lib.hid hcp
        have HX := Lib.hid hXl
        clear hX hXl hone hsrc hcp hCn hCs hNs hSs hTr hTs hbm hmn hnn hn0 hms
        go_wp2_with fail
        go_still_tail 8, (by kernel_rfl)
        go_wp2_with fail
        go_end0
        refine ⟨rfl, HFin.out _ HCp.out, ?_⟩
        exact Upd.setCell (T := rT m (some ⟨r, 0, none⟩) (some ⟨s, 0, none⟩)) (Upd.setCell (T := rT m (some ⟨r, 0, none⟩) (some ⟨s, 0, none⟩)) (Upd.setRow (T := rT m (some ⟨r, 0, none⟩) (some ⟨s, 0, none⟩)) HU.out.drew (.inl (.inr (.inr rfl))) _) (.inl (.inl rfl)) _) (.inl (.inl rfl)) _
end Go.Proofs.Ytiiegimnnngnnaa
