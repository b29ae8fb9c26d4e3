/- WalApart: the walk. -/
import Derived.Test.YtiiegimnnngnnaaApart
import Derived.Deep.Cut
namespace Go.Proofs.Ytiiegimnnngnnaa
open Go.RowKit
set_option linter.unusedVariables false

theorem Ap.more {W0 s0 s2 : Nat} {w0 w : World} {p r s lx gx cx ly gy cy : Nat} {vP vQ : Value} {P Q : List (List Nat)} {c c' : Nat} {D : Dk} {Lx Ly : Wl.Lg} {rx ry : List (List Nat)} (h : Ap W0 s0 s2 w0 w p r s lx gx cx ly gy cy vP vQ P Q c D Lx Ly rx ry) (hc : c ≤ c') : Ap W0 s0 s2 w0 w p r s lx gx cx ly gy cy vP vQ P Q c' D Lx Ly rx ry :=
  { h with calls := Nat.le_trans h.calls hc }
/-- The areas' ends, and what lies outside. -/
def Ends (D : Dk) (Lx Ly : Wl.Lg) : Prop := Lx.fr = 1 ∧ Lx.to = 30 ∧ Ly.fr = 30 ∧ Ly.to = 59 ∧ ∀ j, (j < 64 ∨ 64 * 59 ≤ j) → D.R j = 0
theorem Ends.x {D D' : Dk} {Lx Ly Lx' : Wl.Lg} (h : Ends D Lx Ly) (hfr : Lx'.fr = Lx.fr) (hto : Lx'.to = Lx.to) (ho : ∀ j, ¬ (64 * Lx.fr ≤ j ∧ j < 64 * Lx.to) → D'.R j = D.R j ∧ (D'.S j = D.S j ∨ D'.S j = D.R j)) : Ends D' Lx' Ly := by
  obtain ⟨h1, h2, h3, h4, h5⟩ := h
  exact ⟨hfr.trans h1, hto.trans h2, h3, h4, fun j hj => by rw [(ho j (by omega)).1]; exact h5 j hj⟩
theorem Ends.y {D D' : Dk} {Lx Ly Ly' : Wl.Lg} (h : Ends D Lx Ly) (hfr : Ly'.fr = Ly.fr) (hto : Ly'.to = Ly.to) (ho : ∀ j, ¬ (64 * Ly.fr ≤ j ∧ j < 64 * Ly.to) → D'.R j = D.R j ∧ (D'.S j = D.S j ∨ D'.S j = D.R j)) : Ends D' Lx Ly' := by
  obtain ⟨h1, h2, h3, h4, h5⟩ := h
  exact ⟨h1, h2, hfr.trans h3, hto.trans h4, fun j hj => by rw [(ho j (by omega)).1]; exact h5 j hj⟩
theorem part_zeros {R : Nat → Nat} {i : Nat} (h : ∀ j, i ≤ j → j < i + 64 → R j = 0) : Wl.part R i 64 = List.replicate 64 0 := by
  apply List.ext_getElem?
  intro j
  rcases Nat.lt_or_ge j 64 with hj | hj
  · rw [Wl.part_get _ _ _ _ hj, h _ (by omega) (by omega), List.getElem?_replicate, if_pos hj]
  · rw [List.getElem?_eq_none (by rw [Wl.part_len]; exact hj), List.getElem?_eq_none (by rw [List.length_replicate]; exact hj)]
set_option maxRecDepth 100000 in
set_option maxHeartbeats 2000000 in
theorem walApart_any (va vb : Value) (La Lb : List (List Nat)) (w : World) (ha : RowsAt w va La) (hb : RowsAt w vb Lb) (hla : La.length ≤ 1048576) (hlb : Lb.length ≤ 1048576) :
    Calls Try.prog 16 #[va, vb] w fun e w' => e = .returned (.bool true) ∧ Below w.heap.size w w' := by
  have HA := Lib.hid ha.far
  have HBb := Lib.hid hb.far
  clear ha hb
  have HN := Lib.hid (New_any 60 60 (by decide) (by decide) (by decide) w)
  obtain ⟨i0, hi0, hz0, hz1, hz2⟩ := info_parts slice_row
  have hmk : ∀ W : World, (Instr.makeSlice 22 (.int .i64 64) (.int .i64 64)).run Try.prog W = .ok (.slice (some ⟨W.heap.size, 0, none⟩) 64 64) (W.alloc (.cells (noughts 64) 5)) := make_bytes 64 (by omega)
  go_enter Try.func16, Try.ntmps16
  go_wp2_with fail
  go_at_call 30
  refine HN.out.mono ?_
  rintro e w1 ⟨p, r, s, rfl, hd1, hb1, hp, hr, hs⟩
  have HB1 := Lib.hid hb1
  have HF := Lib.hid (Format_good p r s 60 60 (Dk.new 60) 1 30 w1 hd1 rfl rfl (by omega) (by simp [Dk.new]) (by simp [Dk.new]))
  have HP := Lib.hid (show w.heap.size ≤ p ∧ w.heap.size ≤ r ∧ w.heap.size ≤ s from ⟨hp, hr, hs⟩)
  clear hb1 hd1 hp hr hs
  go_wp2_with fail
  go_at_call 48
  refine HF.out.mono ?_
  rintro e w2 ⟨D1, rfl, hd2, hu2, ha2, hn2, hf2, hc2, hr2, _⟩
  have HB2 := Lib.hid (HB1.out.trans (hu2.below (dT_far HP.out) HB1.out.size))
  have hc2' : D1.calls = 2 := hc2
  have hn2' : D1.n = 60 := hn2
  have HF2 := Lib.hid (Format_good p r s 60 60 D1 30 59 w2 hd2 ha2.up hf2 (by omega) (by omega) (by omega))
  have HA1 := Lib.hid (And.intro ha2 (And.intro hc2' (And.intro hn2' (show ∀ j, D1.R j = if 64 * 1 ≤ j ∧ j < 64 * 1 + 64 then 0 else 0 from hr2))))
  clear hd2 hu2 ha2 hn2 hf2 hc2 hc2' hn2' hr2
  go_wp2_with fail
  go_at_call 48
  refine HF2.out.mono ?_
  rintro e w3 ⟨D2, rfl, hd3, hu3, ha3, hn3, hf3, hc3, hr3, hs3⟩
  have HB3 := Lib.hid (HB2.out.trans (hu3.below (dT_far HP.out) HB2.out.size))
  have har : Wl.Area D2 1 30 2 [] := HA1.out.1.keep ha3.up hn3 (fun j h1 h2 => ⟨by rw [hr3, if_neg (by omega)], .inr (by rw [hs3, hr3, if_neg (by omega)])⟩)
  have hz : ∀ j, D2.R j = 0 := fun j => by
    rw [hr3, HA1.out.2.2.2]
    split
    · rfl
    · split <;> rfl
  have HO := Lib.hid (Open_area p r s 60 60 D2 1 30 2 [] w3 hd3 har)
  have HD2 := Lib.hid hd3
  have HAA := Lib.hid (And.intro har ha3)
  have HC2 := Lib.hid (show D2.fuse = 0 ∧ D2.calls = 4 ∧ D2.n = 60 ∧ ∀ j, D2.R j = 0 from ⟨hf3, by rw [hc3, HA1.out.2.1], by rw [hn3, HA1.out.2.2.1], hz⟩)
  clear hd3 hu3 ha3 hn3 hf3 hc3 hr3 hs3 har hz
  go_wp2_with fail
  go_at_call 49
  refine HO.out.mono ?_
  rintro e w4 ⟨lx, gx, cx, vx, rfl, hl4, hr4, h1, h2, hb4⟩
  have hs4 := opened HD2.out hb4 hl4 h1 h2
  have HS4 := Lib.hid hs4
  have HB4 := Lib.hid (HB3.out.trans (hb4.mono HB3.out.size))
  have HLX := Lib.hid (show w.heap.size ≤ lx ∧ w.heap.size ≤ gx ∧ lx < w4.heap.size ∧ gx < w4.heap.size from ⟨Nat.le_trans HB3.out.size h1, Nat.le_trans HB3.out.size h2, hl4.blk.lt, hl4.marks.lt⟩)
  have HO4 := Lib.hid (Open_area p r s 60 60 D2 30 59 31 [] w4 hs4.d HAA.out.2)
  clear hl4 hr4 h1 h2 hb4 hs4
  go_wp2_with fail
  go_at_call 49
  refine HO4.out.mono ?_
  rintro e w5 ⟨ly, gy, cy, vy, rfl, hl5, hr5, h1, h2, hb5⟩
  have hs5 := opened HS4.out.d hb5 hl5 h1 h2
  have HS5 := Lib.hid (And.intro (HS4.out.below hb5) hs5)
  have HB5 := Lib.hid (HB4.out.trans (hb5.mono HB4.out.size))
  have HLY := Lib.hid (show w4.heap.size ≤ ly ∧ w4.heap.size ≤ gy ∧ ly < w5.heap.size ∧ gy < w5.heap.size ∧ w4.heap.size ≤ w5.heap.size from ⟨h1, h2, hl5.blk.lt, hl5.marks.lt, hb5.size⟩)
  have HDL := Lib.hid (show p < w5.heap.size ∧ r < w5.heap.size ∧ s < w5.heap.size from hs5.d.lt)
  have HU5 : Hid (Upd (fun k => w.heap.size ≤ k) w w5) := Lib.hid (Upd.of_below HB5.out (fun _ _ h => h))
  have HRA := Lib.hid (HA.out.upd HU5.out (fun k h1 _ h2 => by omega))
  have HRB := Lib.hid (HBb.out.upd HU5.out (fun k h1 _ h2 => by omega))
  have HSM := Lib.hid (small_any _ va La w5 HRA.out (fun k h => Nat.lt_of_lt_of_le h HB5.out.size) (by omega))
  clear hl5 hr5 h1 h2 hb5 hs5
  go_wp2_with fail
  go_at_call 51
  refine HSM.out.mono ?_
  rintro e w6 ⟨vP, rfl, hr6, hb6⟩
  have HR6 := Lib.hid hr6
  have HB6 := Lib.hid hb6
  have HRB6 := Lib.hid (HRB.out.upd (Upd.of_below hb6 (fun _ _ h => h)) (fun k h1 h2 h3 => by have : k < w5.heap.size := h2; omega))
  have HSM2 := Lib.hid (small_any _ vb Lb w6 HRB6.out (fun k h => Nat.lt_of_lt_of_le h (Nat.le_trans HB5.out.size hb6.size)) (by omega))
  clear hr6 hb6
  go_wp2_with fail
  go_at_call 51
  refine HSM2.out.mono ?_
  rintro e w7 ⟨vQ, rfl, hr7, hb7⟩
  obtain ⟨P, hPP⟩ : ∃ P, P = smallL La 0 := ⟨_, rfl⟩
  obtain ⟨Q, hQQ⟩ : ∃ Q, Q = smallL Lb 0 := ⟨_, rfl⟩
  have hP20 : P.length ≤ 20 := by rw [hPP]; exact smallL_len La 0
  have hQ20 : Q.length ≤ 20 := by rw [hQQ]; exact smallL_len Lb 0
  have HP3 : Hid (∀ b ∈ P, b.length ≤ 300) := Lib.hid (fun b hb => by rw [hPP] at hb; exact (smallL_mem La 0 b hb).1)
  have HQ3 : Hid (∀ b ∈ Q, b.length ≤ 300) := Lib.hid (fun b hb => by rw [hQQ] at hb; exact (smallL_mem Lb 0 b hb).1)
  rw [← hQQ] at hr7
  have hr6 := HR6.out
  rw [← hPP] at hr6
  have HRP : Hid (RowsT w7 (fun k => k < w.heap.size ∨ (w5.heap.size ≤ k ∧ k < w7.heap.size)) vP P) := Lib.hid ((hr6.upd (Upd.of_below hb7 (fun _ _ h => h)) (fun k h1 h2 h3 => by have : k < w6.heap.size := h2; omega)).mono (fun k hk => by have := hb7.size; omega))
  have HRQ : Hid (RowsT w7 (fun k => k < w.heap.size ∨ (w5.heap.size ≤ k ∧ k < w7.heap.size)) vQ Q) := Lib.hid (hr7.mono (fun k hk => by have := HB6.out.size; omega))
  have HF : Hid (Foot w.heap.size w5.heap.size w7.heap.size p r s lx gx ly gy) := Lib.hid ⟨by
    have h1 := HP.out; have h2 := HLX.out; have h3 := HLY.out; have h4 := HB4.out.size; omega, by
    have h1 := HDL.out; have h2 := HLX.out; have h3 := HLY.out; omega, Nat.le_trans HB6.out.size hb7.size, by
    have h2 := HLX.out; have h3 := HLY.out; omega⟩
  have HAP : Hid (Ap w.heap.size w5.heap.size w7.heap.size w w7 p r s lx gx cx ly gy cy vP vQ P Q (10 + 400 * 0) D2 ⟨1, 30, ([] : List (List Nat)).length, 2, fun k => D2.R (64 * 1 + k), false⟩ ⟨30, 59, ([] : List (List Nat)).length, 31, fun k => D2.R (64 * 30 + k), false⟩ [] []) :=
    Lib.hid ⟨(HS5.out.1.below HB6.out).below hb7, (HS5.out.2.below HB6.out).below hb7, HAA.out.1.holds, HAA.out.2.holds, HC2.out.1, by rw [HC2.out.2.1]; omega, HC2.out.2.2.1, fun j h1 h2 h3 => by have h1' : 64 * 1 ≤ j := h1; have h2' : j < 64 * 30 := h2; have h3' : 64 * 30 ≤ j := h3.1; omega, HRP.out, HRQ.out, (HB5.out.trans (HB6.out.mono HB5.out.size)).trans (hb7.mono (Nat.le_trans HB5.out.size HB6.out.size)), Nat.le_trans HB5.out.size (Nat.le_trans HB6.out.size hb7.size)⟩
  have HEN : Hid (Ends D2 ⟨1, 30, ([] : List (List Nat)).length, 2, fun k => D2.R (64 * 1 + k), false⟩ ⟨30, 59, ([] : List (List Nat)).length, 31, fun k => D2.R (64 * 30 + k), false⟩) := Lib.hid ⟨rfl, rfl, rfl, rfl, fun j _ => HC2.out.2.2.2 j⟩
  have HT0 : Hid (Took w.heap.size w5.heap.size w7.heap.size w7 (.slice none 0 0) 0 []) := Lib.hid ⟨rfl, [], World.ownsRow_nil _ _ _ _, RowsX.nil _ _⟩
  obtain ⟨AP, cP, rfl, _⟩ := HRP.out
  obtain ⟨AQ, cQ, rfl, _⟩ := HRQ.out
  obtain ⟨s0, hs0⟩ : ∃ s0, s0 = w5.heap.size := ⟨_, rfl⟩
  obtain ⟨s2, hs2⟩ : ∃ s2, s2 = w7.heap.size := ⟨_, rfl⟩
  rw [← hs0, ← hs2] at HF HAP
  rw [← hs0, ← hs2] at HT0
  have HS2 := Lib.hid hs2
  clear hr6 hr7 hb7 hPP hQQ hs0 hs2
  go_wp2_with fail
  go_loopw [12, 13, 16] (fun a b t wr => ∃ (i n1 n2 : Nat) (A1 : Option Addr) (c1 : Nat) (A2 : Option Addr) (c2 : Nat) (D : Dk) (Lx Ly : Wl.Lg) (rx ry : List (List Nat)), a = .slice A1 n1 c1 ∧ b = .slice A2 n2 c2 ∧ t = .int .i64 i ∧ Hid (Ap w.heap.size s0 s2 w wr p r s lx gx cx ly gy cy (.slice AP P.length cP) (.slice AQ Q.length cQ) P Q (10 + 400 * i) D Lx Ly rx ry) ∧ Hid (Ends D Lx Ly) ∧ Hid (Took w.heap.size s0 s2 wr (.slice A1 n1 c1) n1 rx) ∧ Hid (Took w.heap.size s0 s2 wr (.slice A2 n2 c2) n2 ry) ∧ Hid (∀ k, (Value.slice A1 n1 c1).ownBlock = some k → (Value.slice A2 n2 c2).ownBlock ≠ some k) ∧ Hid (s2 ≤ wr.heap.size) ∧ i ≤ 20 ∧ n1 ≤ i ∧ n2 ≤ i) (fun _ _ t _ => 21 - (match t with | .int _ x => x.toNat | _ => 0))
  case atStart => exact ⟨0, 0, 0, none, 0, none, 0, D2, _, _, [], [], rfl, rfl, rfl, HAP, HEN, HT0, HT0, Lib.hid (fun k hk => by cases hk), Lib.hid (by rw [HS2.out]; exact Nat.le_refl _), by omega, by omega, by omega⟩
  case round =>
    obtain ⟨i, n1, n2, A1, c1, A2, c2, D, Lx, Ly, rx, ry, rfl, rfl, rfl, HAP, HEN, HT1, HT2, HNE, HSZ, hi20, hn1, hn2⟩ := hrel
    have i1 : (0 : Int) ≤ (i : Int) := by omega
    by_cases hiP : i < P.length
    · have hiP' : (i : Int) < (P.length : Int) := by omega
      by_cases hiQ : i < Q.length
      · have hiQ' : (i : Int) < (Q.length : Int) := by omega
        obtain ⟨_, _, hv1, _, _, hrow1⟩ := HAP.out.rP
        cases hv1
        obtain ⟨g1, o1, B1, d1, e1, q1, qq1, k1, kl1, km1, ky1, hpw1⟩ := hrow1 i hiP
        cases e1
        have hb3001 := HP3.out _ (List.getElem_mem hiP)
        obtain ⟨b1, hb1⟩ : ∃ b, b = P[i] := ⟨_, rfl⟩
        rw [← hb1] at k1 kl1 ky1 hb3001 hpw1
        have HPB1 : Hid (∀ b o, B1 = some ⟨b, o, none⟩ → 0 < b1.length → b < w.heap.size ∨ (s0 ≤ b ∧ b < s2)) := Lib.hid (fun b o e h0 => hpw1 b o e h0)
        have HAPP1 := Append_good lx gx cx p r s 60 60 D Lx rx B1 b1.length d1 b1 wr HAP.out.sx HAP.out.hx HAP.out.fuse ky1 (by omega) (by have := HAP.out.calls; omega)
        obtain ⟨z1, hz1⟩ : ∃ z, z = Wl.appOut Lx b1 := ⟨_, rfl⟩
        rw [← hz1] at HAPP1
        have HBY1 := Lib.hid (And.intro ky1 (And.intro kl1 km1))
        have HQ1 : Hid ((g1 < w.heap.size ∨ (s0 ≤ g1 ∧ g1 < s2)) ∧ g1 < wr.heap.size) := Lib.hid (And.intro q1 qq1)
        clear hpw1 hrow1 kl1 km1 ky1 q1 qq1 hb1 hz1
        by_cases hzz1 : z1 = 0
        · subst hzz1
          have HAPH1 := Lib.hid HAPP1
          clear HAPP1
          try (go_wp2_with fail)
          go_at_call 50
          refine HAPH1.out.mono ?_
          rintro e w1 ⟨D1, L1, rfl, hs1, hu1, hn1, hf1, hfr1, hto1, hc1, ho1, hsame1, hdn1⟩
          have hh1 : Wl.Holds D1 L1 (rx ++ [b1]) := (hdn1 trivial).holds
          have HAP1 := Lib.hid ((HAP.out.step HF.out hs1 hu1 hn1 hf1 hfr1 hto1 hc1 ho1 hh1))
          have HEN1 := Lib.hid (HEN.out.x hfr1 hto1 ho1)
          have HT11 := Lib.hid (HT1.out.upd hu1 (fun k hk hT => by have h1 := HF.out.x k hT; have h2 := (HT1.out.lt k hk).1; have h3 := HF.out.c; omega) (fun k hk hT => by have h1 := HF.out.x k hT; omega))
          have HT21 := Lib.hid (HT2.out.upd hu1 (fun k hk hT => by have h1 := HF.out.x k hT; have h2 := (HT2.out.lt k hk).1; have h3 := HF.out.c; omega) (fun k hk hT => by have h1 := HF.out.x k hT; omega))
          have HSZ1 := Lib.hid (Nat.le_trans HSZ.out hu1.size)
          have k1' : w1.cell? ⟨g1, o1 + i, none⟩ = some (.slice B1 b1.length d1) := (hu1.cell HQ1.out.2 (fun hT => by have h1 := HF.out.x g1 hT; have h2 := HQ1.out.1; omega)).trans k1
          have HBZ1 := Lib.hid (HBY1.out.1.upd hu1 (fun b o he h0 hT => by have h1 := HF.out.x b hT; have h2 := HPB1.out b o he h0; omega))
          clear hs1 hu1 hn1 hf1 hfr1 hto1 hc1 ho1 hsame1 hdn1 hh1
          obtain ⟨hnl1, xs1, hox1, hrx1⟩ := HT11.out
          have HOX1 := Lib.hid hox1
          have HRX1 := Lib.hid hrx1
          have HNL1 := Lib.hid hnl1
          clear hnl1 hox1 hrx1
          go_upto_region 15 with (at_builtin; refine wpList_append_any _ rfl (.tmp 88) (.tmp 93) 57 rfl s2 22 i0 (.slice none 0 0) 1 24 Try.underlying57 hi0 hz0 hz1 hz2 rfl (by decide) _ n1 xs1 rfl (HOX1.out.alloc _) (w1.heap.size + 1) (some ⟨w1.heap.size, 0, none⟩) 1 1 [.slice B1 b1.length d1] rfl (one_read _ _ _) (slice_one _ _ _ _ rfl) (by unfold maxLen; omega) (by omega) (Nat.le_trans HSZ1.out (by simp)) ?_; intro vv1 ww1 hown1 hg1 hat1; have HOW1 := Lib.hid hown1; have HUU1 : Hid (Upd (fun k => (Value.slice A1 n1 c1).ownBlock = some k) w1 ww1) := Lib.hid (((Upd.refl _ w1).alloc _).grown hg1 (fun k hk => .inl hk)); have HAT1 := Lib.hid hat1; obtain ⟨A1, c1, rfl⟩ := own_shape hown1; clear hown1 hg1 hat1)
          have HAQ1 := Lib.hid (HAP1.out.upd HF.out HUU1.out (fun k hk => (HOX1.out.lt k hk).1))
          have HTA1 : Hid (Took w.heap.size s0 s2 ww1 (.slice A1 (n1 + 1) c1) (n1 + 1) (rx ++ [b1])) := Lib.hid ⟨by rw [HNL1.out, List.length_append]; rfl, _, HOW1.out, (HRX1.out.snoc HBZ1.out HBY1.out.2.1 HBY1.out.2.2 (fun g o e h0 => HPB1.out g o e h0)).upd HUU1.out (fun k hk _ hT => by have h1 := (HOX1.out.lt k hT).1; have h2 := HF.out.c; have h3 := HF.out.a; have h4 := HF.out.b; omega)⟩
          have HTB1 := Lib.hid (HT21.out.upd HUU1.out (fun k hk hT => (HNE.out k hT) hk) (fun k hk hT => by have h1 := (HOX1.out.lt k hT).1; have h2 := HF.out.c; have h3 := HF.out.a; have h4 := HF.out.b; omega))
          have HSY1 := Lib.hid (Nat.le_trans HSZ1.out HUU1.out.size)
          have HNE1 : Hid (∀ k, (Value.slice A1 (n1 + 1) c1).ownBlock = some k → (Value.slice A2 n2 c2).ownBlock ≠ some k) := Lib.hid (fun k hk hk2 => by
            have hlt := (HT21.out.lt k hk2).2
            rcases HAT1.out with h | h
            · rw [h] at hk; exact HNE.out k hk hk2
            · have e := Option.some.inj (hk.symm.trans h)
              rw [e] at hlt
              exact absurd hlt (Nat.not_lt.2 (alloc_ge _ _)))
          obtain ⟨_, _, hv2, _, _, hrow2⟩ := HAQ1.out.swap.rP
          cases hv2
          obtain ⟨g2, o2, B2, d2, e2, q2, qq2, k2, kl2, km2, ky2, hpw2⟩ := hrow2 i hiQ
          cases e2
          have hb3002 := HQ3.out _ (List.getElem_mem hiQ)
          obtain ⟨b2, hb2⟩ : ∃ b, b = Q[i] := ⟨_, rfl⟩
          rw [← hb2] at k2 kl2 ky2 hb3002 hpw2
          have HPB2 : Hid (∀ b o, B2 = some ⟨b, o, none⟩ → 0 < b2.length → b < w.heap.size ∨ (s0 ≤ b ∧ b < s2)) := Lib.hid (fun b o e h0 => hpw2 b o e h0)
          have HAPP2 := Append_good ly gy cy p r s 60 60 D1 Ly ry B2 b2.length d2 b2 ww1 HAQ1.out.swap.sx HAQ1.out.swap.hx HAQ1.out.swap.fuse ky2 (by omega) (by have := HAQ1.out.swap.calls; omega)
          obtain ⟨z2, hz2⟩ : ∃ z, z = Wl.appOut Ly b2 := ⟨_, rfl⟩
          rw [← hz2] at HAPP2
          have HBY2 := Lib.hid (And.intro ky2 (And.intro kl2 km2))
          have HQ2 : Hid ((g2 < w.heap.size ∨ (s0 ≤ g2 ∧ g2 < s2)) ∧ g2 < ww1.heap.size) := Lib.hid (And.intro q2 qq2)
          clear hpw2 hrow2 kl2 km2 ky2 q2 qq2 hb2 hz2
          by_cases hzz2 : z2 = 0
          · subst hzz2
            have HAPH2 := Lib.hid HAPP2
            clear HAPP2
            try (go_wp2_with fail)
            go_at_call 50
            refine HAPH2.out.mono ?_
            rintro e w2 ⟨D2, L2, rfl, hs2, hu2, hn2, hf2, hfr2, hto2, hc2, ho2, hsame2, hdn2⟩
            have hh2 : Wl.Holds D2 L2 (ry ++ [b2]) := (hdn2 trivial).holds
            have HAP2 := Lib.hid ((HAQ1.out.swap.step HF.out.swap hs2 hu2 hn2 hf2 hfr2 hto2 hc2 ho2 hh2).swap)
            have HEN2 := Lib.hid (HEN1.out.y hfr2 hto2 ho2)
            have HT12 := Lib.hid (HTA1.out.upd hu2 (fun k hk hT => by have h1 := HF.out.swap.x k hT; have h2 := (HTA1.out.lt k hk).1; have h3 := HF.out.c; omega) (fun k hk hT => by have h1 := HF.out.swap.x k hT; omega))
            have HT22 := Lib.hid (HTB1.out.upd hu2 (fun k hk hT => by have h1 := HF.out.swap.x k hT; have h2 := (HTB1.out.lt k hk).1; have h3 := HF.out.c; omega) (fun k hk hT => by have h1 := HF.out.swap.x k hT; omega))
            have HSZ2 := Lib.hid (Nat.le_trans HSY1.out hu2.size)
            have k2' : w2.cell? ⟨g2, o2 + i, none⟩ = some (.slice B2 b2.length d2) := (hu2.cell HQ2.out.2 (fun hT => by have h1 := HF.out.swap.x g2 hT; have h2 := HQ2.out.1; omega)).trans k2
            have HBZ2 := Lib.hid (HBY2.out.1.upd hu2 (fun b o he h0 hT => by have h1 := HF.out.swap.x b hT; have h2 := HPB2.out b o he h0; omega))
            clear hs2 hu2 hn2 hf2 hfr2 hto2 hc2 ho2 hsame2 hdn2 hh2
            obtain ⟨hnl2, xs2, hox2, hrx2⟩ := HT22.out
            have HOX2 := Lib.hid hox2
            have HRX2 := Lib.hid hrx2
            have HNL2 := Lib.hid hnl2
            clear hnl2 hox2 hrx2
            go_wp2_with (at_builtin; refine wpList_append_any _ rfl (.tmp 108) (.tmp 113) 57 rfl s2 22 i0 (.slice none 0 0) 1 24 Try.underlying57 hi0 hz0 hz1 hz2 rfl (by decide) _ n2 xs2 rfl (HOX2.out.alloc _) (w2.heap.size + 1) (some ⟨w2.heap.size, 0, none⟩) 1 1 [.slice B2 b2.length d2] rfl (one_read _ _ _) (slice_one _ _ _ _ rfl) (by unfold maxLen; omega) (by omega) (Nat.le_trans HSZ2.out (by simp)) ?_; intro vv2 ww2 hown2 hg2 hat2; have HOW2 := Lib.hid hown2; have HUU2 : Hid (Upd (fun k => (Value.slice A2 n2 c2).ownBlock = some k) w2 ww2) := Lib.hid (((Upd.refl _ w2).alloc _).grown hg2 (fun k hk => .inl hk)); have HAT2 := Lib.hid hat2; obtain ⟨A2, c2, rfl⟩ := own_shape hown2; clear hown2 hg2 hat2)
            have HAQ2 := Lib.hid (HAP2.out.upd HF.out HUU2.out (fun k hk => (HOX2.out.lt k hk).1))
            have HTA2 : Hid (Took w.heap.size s0 s2 ww2 (.slice A2 (n2 + 1) c2) (n2 + 1) (ry ++ [b2])) := Lib.hid ⟨by rw [HNL2.out, List.length_append]; rfl, _, HOW2.out, (HRX2.out.snoc HBZ2.out HBY2.out.2.1 HBY2.out.2.2 (fun g o e h0 => HPB2.out g o e h0)).upd HUU2.out (fun k hk _ hT => by have h1 := (HOX2.out.lt k hT).1; have h2 := HF.out.c; have h3 := HF.out.a; have h4 := HF.out.b; omega)⟩
            have HTB2 := Lib.hid (HT12.out.upd HUU2.out (fun k hk hT => (HNE1.out k hk) hT) (fun k hk hT => by have h1 := (HOX2.out.lt k hT).1; have h2 := HF.out.c; have h3 := HF.out.a; have h4 := HF.out.b; omega))
            have HSY2 := Lib.hid (Nat.le_trans HSZ2.out HUU2.out.size)
            have HNE2 : Hid (∀ k, (Value.slice A1 (n1 + 1) c1).ownBlock = some k → (Value.slice A2 (n2 + 1) c2).ownBlock ≠ some k) := Lib.hid (fun k hk hk2 => by
              have hlt := (HT12.out.lt k hk).2
              rcases HAT2.out with h | h
              · rw [h] at hk2; exact HNE1.out k hk hk2
              · have e := Option.some.inj (hk2.symm.trans h)
                rw [e] at hlt
                exact absurd hlt (Nat.not_lt.2 (alloc_ge _ _)))
            try (go_wp2_with fail)
            refine ⟨⟨i + 1, (n1 + 1), (n2 + 1), A1, c1, A2, c2, D2, L1, L2, (rx ++ [b1]), (ry ++ [b2]), rfl, rfl, by go_num, Lib.hid (HAQ2.out.more (by omega)), HEN2, HTB2, HTA2, HNE2, HSY2, by omega, by omega, by omega⟩, ?_⟩
            show 21 - ((i : Int) + 1).toNat < 21 - (i : Int).toNat
            omega
          · have hq2 : (z2 == 0) = false := beq_eq_false_iff_ne.2 hzz2
            have HAPH2 := Lib.hid HAPP2
            clear HAPP2
            try (go_wp2_with fail)
            go_at_call 50
            refine HAPH2.out.mono ?_
            rintro e w2 ⟨D2, L2, rfl, hs2, hu2, hn2, hf2, hfr2, hto2, hc2, ho2, hsame2, hdn2⟩
            obtain ⟨ed2, el2⟩ := hsame2 hzz2
            have hh2 : Wl.Holds D2 L2 ry := by rw [ed2, el2]; exact HAQ1.out.swap.hx
            have HAP2 := Lib.hid ((HAQ1.out.swap.step HF.out.swap hs2 hu2 hn2 hf2 hfr2 hto2 hc2 ho2 hh2).swap)
            have HEN2 := Lib.hid (HEN1.out.y hfr2 hto2 ho2)
            have HT12 := Lib.hid (HTA1.out.upd hu2 (fun k hk hT => by have h1 := HF.out.swap.x k hT; have h2 := (HTA1.out.lt k hk).1; have h3 := HF.out.c; omega) (fun k hk hT => by have h1 := HF.out.swap.x k hT; omega))
            have HT22 := Lib.hid (HTB1.out.upd hu2 (fun k hk hT => by have h1 := HF.out.swap.x k hT; have h2 := (HTB1.out.lt k hk).1; have h3 := HF.out.c; omega) (fun k hk hT => by have h1 := HF.out.swap.x k hT; omega))
            have HSZ2 := Lib.hid (Nat.le_trans HSY1.out hu2.size)
            clear hs2 hu2 hn2 hf2 hfr2 hto2 hc2 ho2 hsame2 hdn2 hh2 ed2 el2
            try (go_wp2_with fail)
            refine ⟨⟨i + 1, (n1 + 1), n2, A1, c1, A2, c2, D2, L1, L2, (rx ++ [b1]), ry, rfl, rfl, by go_num, Lib.hid (HAP2.out.more (by omega)), HEN2, HT12, HT22, HNE1, HSZ2, by omega, by omega, by omega⟩, ?_⟩
            show 21 - ((i : Int) + 1).toNat < 21 - (i : Int).toNat
            omega
        · have hq1 : (z1 == 0) = false := beq_eq_false_iff_ne.2 hzz1
          have HAPH1 := Lib.hid HAPP1
          clear HAPP1
          try (go_wp2_with fail)
          go_at_call 50
          refine HAPH1.out.mono ?_
          rintro e w1 ⟨D1, L1, rfl, hs1, hu1, hn1, hf1, hfr1, hto1, hc1, ho1, hsame1, hdn1⟩
          obtain ⟨ed1, el1⟩ := hsame1 hzz1
          have hh1 : Wl.Holds D1 L1 rx := by rw [ed1, el1]; exact HAP.out.hx
          have HAP1 := Lib.hid ((HAP.out.step HF.out hs1 hu1 hn1 hf1 hfr1 hto1 hc1 ho1 hh1))
          have HEN1 := Lib.hid (HEN.out.x hfr1 hto1 ho1)
          have HT11 := Lib.hid (HT1.out.upd hu1 (fun k hk hT => by have h1 := HF.out.x k hT; have h2 := (HT1.out.lt k hk).1; have h3 := HF.out.c; omega) (fun k hk hT => by have h1 := HF.out.x k hT; omega))
          have HT21 := Lib.hid (HT2.out.upd hu1 (fun k hk hT => by have h1 := HF.out.x k hT; have h2 := (HT2.out.lt k hk).1; have h3 := HF.out.c; omega) (fun k hk hT => by have h1 := HF.out.x k hT; omega))
          have HSZ1 := Lib.hid (Nat.le_trans HSZ.out hu1.size)
          clear hs1 hu1 hn1 hf1 hfr1 hto1 hc1 ho1 hsame1 hdn1 hh1 ed1 el1
          obtain ⟨_, _, hv2, _, _, hrow2⟩ := HAP1.out.swap.rP
          cases hv2
          obtain ⟨g2, o2, B2, d2, e2, q2, qq2, k2, kl2, km2, ky2, hpw2⟩ := hrow2 i hiQ
          cases e2
          have hb3002 := HQ3.out _ (List.getElem_mem hiQ)
          obtain ⟨b2, hb2⟩ : ∃ b, b = Q[i] := ⟨_, rfl⟩
          rw [← hb2] at k2 kl2 ky2 hb3002 hpw2
          have HPB2 : Hid (∀ b o, B2 = some ⟨b, o, none⟩ → 0 < b2.length → b < w.heap.size ∨ (s0 ≤ b ∧ b < s2)) := Lib.hid (fun b o e h0 => hpw2 b o e h0)
          have HAPP2 := Append_good ly gy cy p r s 60 60 D1 Ly ry B2 b2.length d2 b2 w1 HAP1.out.swap.sx HAP1.out.swap.hx HAP1.out.swap.fuse ky2 (by omega) (by have := HAP1.out.swap.calls; omega)
          obtain ⟨z2, hz2⟩ : ∃ z, z = Wl.appOut Ly b2 := ⟨_, rfl⟩
          rw [← hz2] at HAPP2
          have HBY2 := Lib.hid (And.intro ky2 (And.intro kl2 km2))
          have HQ2 : Hid ((g2 < w.heap.size ∨ (s0 ≤ g2 ∧ g2 < s2)) ∧ g2 < w1.heap.size) := Lib.hid (And.intro q2 qq2)
          clear hpw2 hrow2 kl2 km2 ky2 q2 qq2 hb2 hz2
          by_cases hzz2 : z2 = 0
          · subst hzz2
            have HAPH2 := Lib.hid HAPP2
            clear HAPP2
            try (go_wp2_with fail)
            go_at_call 50
            refine HAPH2.out.mono ?_
            rintro e w2 ⟨D2, L2, rfl, hs2, hu2, hn2, hf2, hfr2, hto2, hc2, ho2, hsame2, hdn2⟩
            have hh2 : Wl.Holds D2 L2 (ry ++ [b2]) := (hdn2 trivial).holds
            have HAP2 := Lib.hid ((HAP1.out.swap.step HF.out.swap hs2 hu2 hn2 hf2 hfr2 hto2 hc2 ho2 hh2).swap)
            have HEN2 := Lib.hid (HEN1.out.y hfr2 hto2 ho2)
            have HT12 := Lib.hid (HT11.out.upd hu2 (fun k hk hT => by have h1 := HF.out.swap.x k hT; have h2 := (HT11.out.lt k hk).1; have h3 := HF.out.c; omega) (fun k hk hT => by have h1 := HF.out.swap.x k hT; omega))
            have HT22 := Lib.hid (HT21.out.upd hu2 (fun k hk hT => by have h1 := HF.out.swap.x k hT; have h2 := (HT21.out.lt k hk).1; have h3 := HF.out.c; omega) (fun k hk hT => by have h1 := HF.out.swap.x k hT; omega))
            have HSZ2 := Lib.hid (Nat.le_trans HSZ1.out hu2.size)
            have k2' : w2.cell? ⟨g2, o2 + i, none⟩ = some (.slice B2 b2.length d2) := (hu2.cell HQ2.out.2 (fun hT => by have h1 := HF.out.swap.x g2 hT; have h2 := HQ2.out.1; omega)).trans k2
            have HBZ2 := Lib.hid (HBY2.out.1.upd hu2 (fun b o he h0 hT => by have h1 := HF.out.swap.x b hT; have h2 := HPB2.out b o he h0; omega))
            clear hs2 hu2 hn2 hf2 hfr2 hto2 hc2 ho2 hsame2 hdn2 hh2
            obtain ⟨hnl2, xs2, hox2, hrx2⟩ := HT22.out
            have HOX2 := Lib.hid hox2
            have HRX2 := Lib.hid hrx2
            have HNL2 := Lib.hid hnl2
            clear hnl2 hox2 hrx2
            go_wp2_with (at_builtin; refine wpList_append_any _ rfl (.tmp 108) (.tmp 113) 57 rfl s2 22 i0 (.slice none 0 0) 1 24 Try.underlying57 hi0 hz0 hz1 hz2 rfl (by decide) _ n2 xs2 rfl (HOX2.out.alloc _) (w2.heap.size + 1) (some ⟨w2.heap.size, 0, none⟩) 1 1 [.slice B2 b2.length d2] rfl (one_read _ _ _) (slice_one _ _ _ _ rfl) (by unfold maxLen; omega) (by omega) (Nat.le_trans HSZ2.out (by simp)) ?_; intro vv2 ww2 hown2 hg2 hat2; have HOW2 := Lib.hid hown2; have HUU2 : Hid (Upd (fun k => (Value.slice A2 n2 c2).ownBlock = some k) w2 ww2) := Lib.hid (((Upd.refl _ w2).alloc _).grown hg2 (fun k hk => .inl hk)); have HAT2 := Lib.hid hat2; obtain ⟨A2, c2, rfl⟩ := own_shape hown2; clear hown2 hg2 hat2)
            have HAQ2 := Lib.hid (HAP2.out.upd HF.out HUU2.out (fun k hk => (HOX2.out.lt k hk).1))
            have HTA2 : Hid (Took w.heap.size s0 s2 ww2 (.slice A2 (n2 + 1) c2) (n2 + 1) (ry ++ [b2])) := Lib.hid ⟨by rw [HNL2.out, List.length_append]; rfl, _, HOW2.out, (HRX2.out.snoc HBZ2.out HBY2.out.2.1 HBY2.out.2.2 (fun g o e h0 => HPB2.out g o e h0)).upd HUU2.out (fun k hk _ hT => by have h1 := (HOX2.out.lt k hT).1; have h2 := HF.out.c; have h3 := HF.out.a; have h4 := HF.out.b; omega)⟩
            have HTB2 := Lib.hid (HT12.out.upd HUU2.out (fun k hk hT => (HNE.out k hk) hT) (fun k hk hT => by have h1 := (HOX2.out.lt k hT).1; have h2 := HF.out.c; have h3 := HF.out.a; have h4 := HF.out.b; omega))
            have HSY2 := Lib.hid (Nat.le_trans HSZ2.out HUU2.out.size)
            have HNE2 : Hid (∀ k, (Value.slice A1 n1 c1).ownBlock = some k → (Value.slice A2 (n2 + 1) c2).ownBlock ≠ some k) := Lib.hid (fun k hk hk2 => by
              have hlt := (HT12.out.lt k hk).2
              rcases HAT2.out with h | h
              · rw [h] at hk2; exact HNE.out k hk hk2
              · have e := Option.some.inj (hk2.symm.trans h)
                rw [e] at hlt
                exact absurd hlt (Nat.not_lt.2 (alloc_ge _ _)))
            try (go_wp2_with fail)
            refine ⟨⟨i + 1, n1, (n2 + 1), A1, c1, A2, c2, D2, L1, L2, rx, (ry ++ [b2]), rfl, rfl, by go_num, Lib.hid (HAQ2.out.more (by omega)), HEN2, HTB2, HTA2, HNE2, HSY2, by omega, by omega, by omega⟩, ?_⟩
            show 21 - ((i : Int) + 1).toNat < 21 - (i : Int).toNat
            omega
          · have hq2 : (z2 == 0) = false := beq_eq_false_iff_ne.2 hzz2
            have HAPH2 := Lib.hid HAPP2
            clear HAPP2
            try (go_wp2_with fail)
            go_at_call 50
            refine HAPH2.out.mono ?_
            rintro e w2 ⟨D2, L2, rfl, hs2, hu2, hn2, hf2, hfr2, hto2, hc2, ho2, hsame2, hdn2⟩
            obtain ⟨ed2, el2⟩ := hsame2 hzz2
            have hh2 : Wl.Holds D2 L2 ry := by rw [ed2, el2]; exact HAP1.out.swap.hx
            have HAP2 := Lib.hid ((HAP1.out.swap.step HF.out.swap hs2 hu2 hn2 hf2 hfr2 hto2 hc2 ho2 hh2).swap)
            have HEN2 := Lib.hid (HEN1.out.y hfr2 hto2 ho2)
            have HT12 := Lib.hid (HT11.out.upd hu2 (fun k hk hT => by have h1 := HF.out.swap.x k hT; have h2 := (HT11.out.lt k hk).1; have h3 := HF.out.c; omega) (fun k hk hT => by have h1 := HF.out.swap.x k hT; omega))
            have HT22 := Lib.hid (HT21.out.upd hu2 (fun k hk hT => by have h1 := HF.out.swap.x k hT; have h2 := (HT21.out.lt k hk).1; have h3 := HF.out.c; omega) (fun k hk hT => by have h1 := HF.out.swap.x k hT; omega))
            have HSZ2 := Lib.hid (Nat.le_trans HSZ1.out hu2.size)
            clear hs2 hu2 hn2 hf2 hfr2 hto2 hc2 ho2 hsame2 hdn2 hh2 ed2 el2
            try (go_wp2_with fail)
            refine ⟨⟨i + 1, n1, n2, A1, c1, A2, c2, D2, L1, L2, rx, ry, rfl, rfl, by go_num, Lib.hid (HAP2.out.more (by omega)), HEN2, HT12, HT22, HNE, HSZ2, by omega, by omega, by omega⟩, ?_⟩
            show 21 - ((i : Int) + 1).toNat < 21 - (i : Int).toNat
            omega
      · have hiQ' : decide ((i : Int) < (Q.length : Int)) = false := decide_eq_false (by omega)
        obtain ⟨_, _, hv1, _, _, hrow1⟩ := HAP.out.rP
        cases hv1
        obtain ⟨g1, o1, B1, d1, e1, q1, qq1, k1, kl1, km1, ky1, hpw1⟩ := hrow1 i hiP
        cases e1
        have hb3001 := HP3.out _ (List.getElem_mem hiP)
        obtain ⟨b1, hb1⟩ : ∃ b, b = P[i] := ⟨_, rfl⟩
        rw [← hb1] at k1 kl1 ky1 hb3001 hpw1
        have HPB1 : Hid (∀ b o, B1 = some ⟨b, o, none⟩ → 0 < b1.length → b < w.heap.size ∨ (s0 ≤ b ∧ b < s2)) := Lib.hid (fun b o e h0 => hpw1 b o e h0)
        have HAPP1 := Append_good lx gx cx p r s 60 60 D Lx rx B1 b1.length d1 b1 wr HAP.out.sx HAP.out.hx HAP.out.fuse ky1 (by omega) (by have := HAP.out.calls; omega)
        obtain ⟨z1, hz1⟩ : ∃ z, z = Wl.appOut Lx b1 := ⟨_, rfl⟩
        rw [← hz1] at HAPP1
        have HBY1 := Lib.hid (And.intro ky1 (And.intro kl1 km1))
        have HQ1 : Hid ((g1 < w.heap.size ∨ (s0 ≤ g1 ∧ g1 < s2)) ∧ g1 < wr.heap.size) := Lib.hid (And.intro q1 qq1)
        clear hpw1 hrow1 kl1 km1 ky1 q1 qq1 hb1 hz1
        by_cases hzz1 : z1 = 0
        · subst hzz1
          have HAPH1 := Lib.hid HAPP1
          clear HAPP1
          try (go_wp2_with fail)
          go_at_call 50
          refine HAPH1.out.mono ?_
          rintro e w1 ⟨D1, L1, rfl, hs1, hu1, hn1, hf1, hfr1, hto1, hc1, ho1, hsame1, hdn1⟩
          have hh1 : Wl.Holds D1 L1 (rx ++ [b1]) := (hdn1 trivial).holds
          have HAP1 := Lib.hid ((HAP.out.step HF.out hs1 hu1 hn1 hf1 hfr1 hto1 hc1 ho1 hh1))
          have HEN1 := Lib.hid (HEN.out.x hfr1 hto1 ho1)
          have HT11 := Lib.hid (HT1.out.upd hu1 (fun k hk hT => by have h1 := HF.out.x k hT; have h2 := (HT1.out.lt k hk).1; have h3 := HF.out.c; omega) (fun k hk hT => by have h1 := HF.out.x k hT; omega))
          have HT21 := Lib.hid (HT2.out.upd hu1 (fun k hk hT => by have h1 := HF.out.x k hT; have h2 := (HT2.out.lt k hk).1; have h3 := HF.out.c; omega) (fun k hk hT => by have h1 := HF.out.x k hT; omega))
          have HSZ1 := Lib.hid (Nat.le_trans HSZ.out hu1.size)
          have k1' : w1.cell? ⟨g1, o1 + i, none⟩ = some (.slice B1 b1.length d1) := (hu1.cell HQ1.out.2 (fun hT => by have h1 := HF.out.x g1 hT; have h2 := HQ1.out.1; omega)).trans k1
          have HBZ1 := Lib.hid (HBY1.out.1.upd hu1 (fun b o he h0 hT => by have h1 := HF.out.x b hT; have h2 := HPB1.out b o he h0; omega))
          clear hs1 hu1 hn1 hf1 hfr1 hto1 hc1 ho1 hsame1 hdn1 hh1
          obtain ⟨hnl1, xs1, hox1, hrx1⟩ := HT11.out
          have HOX1 := Lib.hid hox1
          have HRX1 := Lib.hid hrx1
          have HNL1 := Lib.hid hnl1
          clear hnl1 hox1 hrx1
          go_upto_region 15 with (at_builtin; refine wpList_append_any _ rfl (.tmp 88) (.tmp 93) 57 rfl s2 22 i0 (.slice none 0 0) 1 24 Try.underlying57 hi0 hz0 hz1 hz2 rfl (by decide) _ n1 xs1 rfl (HOX1.out.alloc _) (w1.heap.size + 1) (some ⟨w1.heap.size, 0, none⟩) 1 1 [.slice B1 b1.length d1] rfl (one_read _ _ _) (slice_one _ _ _ _ rfl) (by unfold maxLen; omega) (by omega) (Nat.le_trans HSZ1.out (by simp)) ?_; intro vv1 ww1 hown1 hg1 hat1; have HOW1 := Lib.hid hown1; have HUU1 : Hid (Upd (fun k => (Value.slice A1 n1 c1).ownBlock = some k) w1 ww1) := Lib.hid (((Upd.refl _ w1).alloc _).grown hg1 (fun k hk => .inl hk)); have HAT1 := Lib.hid hat1; obtain ⟨A1, c1, rfl⟩ := own_shape hown1; clear hown1 hg1 hat1)
          have HAQ1 := Lib.hid (HAP1.out.upd HF.out HUU1.out (fun k hk => (HOX1.out.lt k hk).1))
          have HTA1 : Hid (Took w.heap.size s0 s2 ww1 (.slice A1 (n1 + 1) c1) (n1 + 1) (rx ++ [b1])) := Lib.hid ⟨by rw [HNL1.out, List.length_append]; rfl, _, HOW1.out, (HRX1.out.snoc HBZ1.out HBY1.out.2.1 HBY1.out.2.2 (fun g o e h0 => HPB1.out g o e h0)).upd HUU1.out (fun k hk _ hT => by have h1 := (HOX1.out.lt k hT).1; have h2 := HF.out.c; have h3 := HF.out.a; have h4 := HF.out.b; omega)⟩
          have HTB1 := Lib.hid (HT21.out.upd HUU1.out (fun k hk hT => (HNE.out k hT) hk) (fun k hk hT => by have h1 := (HOX1.out.lt k hT).1; have h2 := HF.out.c; have h3 := HF.out.a; have h4 := HF.out.b; omega))
          have HSY1 := Lib.hid (Nat.le_trans HSZ1.out HUU1.out.size)
          have HNE1 : Hid (∀ k, (Value.slice A1 (n1 + 1) c1).ownBlock = some k → (Value.slice A2 n2 c2).ownBlock ≠ some k) := Lib.hid (fun k hk hk2 => by
            have hlt := (HT21.out.lt k hk2).2
            rcases HAT1.out with h | h
            · rw [h] at hk; exact HNE.out k hk hk2
            · have e := Option.some.inj (hk.symm.trans h)
              rw [e] at hlt
              exact absurd hlt (Nat.not_lt.2 (alloc_ge _ _)))
          try (go_wp2_with fail)
          refine ⟨⟨i + 1, (n1 + 1), n2, A1, c1, A2, c2, D1, L1, Ly, (rx ++ [b1]), ry, rfl, rfl, by go_num, Lib.hid (HAQ1.out.more (by omega)), HEN1, HTA1, HTB1, HNE1, HSY1, by omega, by omega, by omega⟩, ?_⟩
          show 21 - ((i : Int) + 1).toNat < 21 - (i : Int).toNat
          omega
        · have hq1 : (z1 == 0) = false := beq_eq_false_iff_ne.2 hzz1
          have HAPH1 := Lib.hid HAPP1
          clear HAPP1
          try (go_wp2_with fail)
          go_at_call 50
          refine HAPH1.out.mono ?_
          rintro e w1 ⟨D1, L1, rfl, hs1, hu1, hn1, hf1, hfr1, hto1, hc1, ho1, hsame1, hdn1⟩
          obtain ⟨ed1, el1⟩ := hsame1 hzz1
          have hh1 : Wl.Holds D1 L1 rx := by rw [ed1, el1]; exact HAP.out.hx
          have HAP1 := Lib.hid ((HAP.out.step HF.out hs1 hu1 hn1 hf1 hfr1 hto1 hc1 ho1 hh1))
          have HEN1 := Lib.hid (HEN.out.x hfr1 hto1 ho1)
          have HT11 := Lib.hid (HT1.out.upd hu1 (fun k hk hT => by have h1 := HF.out.x k hT; have h2 := (HT1.out.lt k hk).1; have h3 := HF.out.c; omega) (fun k hk hT => by have h1 := HF.out.x k hT; omega))
          have HT21 := Lib.hid (HT2.out.upd hu1 (fun k hk hT => by have h1 := HF.out.x k hT; have h2 := (HT2.out.lt k hk).1; have h3 := HF.out.c; omega) (fun k hk hT => by have h1 := HF.out.x k hT; omega))
          have HSZ1 := Lib.hid (Nat.le_trans HSZ.out hu1.size)
          clear hs1 hu1 hn1 hf1 hfr1 hto1 hc1 ho1 hsame1 hdn1 hh1 ed1 el1
          try (go_wp2_with fail)
          refine ⟨⟨i + 1, n1, n2, A1, c1, A2, c2, D1, L1, Ly, rx, ry, rfl, rfl, by go_num, Lib.hid (HAP1.out.more (by omega)), HEN1, HT11, HT21, HNE, HSZ1, by omega, by omega, by omega⟩, ?_⟩
          show 21 - ((i : Int) + 1).toNat < 21 - (i : Int).toNat
          omega
    · have hiP' : decide ((i : Int) < (P.length : Int)) = false := decide_eq_false (by omega)
      by_cases hiQ : i < Q.length
      · have hiQ' : (i : Int) < (Q.length : Int) := by omega
        obtain ⟨_, _, hv2, _, _, hrow2⟩ := HAP.out.swap.rP
        cases hv2
        obtain ⟨g2, o2, B2, d2, e2, q2, qq2, k2, kl2, km2, ky2, hpw2⟩ := hrow2 i hiQ
        cases e2
        have hb3002 := HQ3.out _ (List.getElem_mem hiQ)
        obtain ⟨b2, hb2⟩ : ∃ b, b = Q[i] := ⟨_, rfl⟩
        rw [← hb2] at k2 kl2 ky2 hb3002 hpw2
        have HPB2 : Hid (∀ b o, B2 = some ⟨b, o, none⟩ → 0 < b2.length → b < w.heap.size ∨ (s0 ≤ b ∧ b < s2)) := Lib.hid (fun b o e h0 => hpw2 b o e h0)
        have HAPP2 := Append_good ly gy cy p r s 60 60 D Ly ry B2 b2.length d2 b2 wr HAP.out.swap.sx HAP.out.swap.hx HAP.out.swap.fuse ky2 (by omega) (by have := HAP.out.swap.calls; omega)
        obtain ⟨z2, hz2⟩ : ∃ z, z = Wl.appOut Ly b2 := ⟨_, rfl⟩
        rw [← hz2] at HAPP2
        have HBY2 := Lib.hid (And.intro ky2 (And.intro kl2 km2))
        have HQ2 : Hid ((g2 < w.heap.size ∨ (s0 ≤ g2 ∧ g2 < s2)) ∧ g2 < wr.heap.size) := Lib.hid (And.intro q2 qq2)
        clear hpw2 hrow2 kl2 km2 ky2 q2 qq2 hb2 hz2
        by_cases hzz2 : z2 = 0
        · subst hzz2
          have HAPH2 := Lib.hid HAPP2
          clear HAPP2
          try (go_wp2_with fail)
          go_at_call 50
          refine HAPH2.out.mono ?_
          rintro e w2 ⟨D2, L2, rfl, hs2, hu2, hn2, hf2, hfr2, hto2, hc2, ho2, hsame2, hdn2⟩
          have hh2 : Wl.Holds D2 L2 (ry ++ [b2]) := (hdn2 trivial).holds
          have HAP2 := Lib.hid ((HAP.out.swap.step HF.out.swap hs2 hu2 hn2 hf2 hfr2 hto2 hc2 ho2 hh2).swap)
          have HEN2 := Lib.hid (HEN.out.y hfr2 hto2 ho2)
          have HT12 := Lib.hid (HT1.out.upd hu2 (fun k hk hT => by have h1 := HF.out.swap.x k hT; have h2 := (HT1.out.lt k hk).1; have h3 := HF.out.c; omega) (fun k hk hT => by have h1 := HF.out.swap.x k hT; omega))
          have HT22 := Lib.hid (HT2.out.upd hu2 (fun k hk hT => by have h1 := HF.out.swap.x k hT; have h2 := (HT2.out.lt k hk).1; have h3 := HF.out.c; omega) (fun k hk hT => by have h1 := HF.out.swap.x k hT; omega))
          have HSZ2 := Lib.hid (Nat.le_trans HSZ.out hu2.size)
          have k2' : w2.cell? ⟨g2, o2 + i, none⟩ = some (.slice B2 b2.length d2) := (hu2.cell HQ2.out.2 (fun hT => by have h1 := HF.out.swap.x g2 hT; have h2 := HQ2.out.1; omega)).trans k2
          have HBZ2 := Lib.hid (HBY2.out.1.upd hu2 (fun b o he h0 hT => by have h1 := HF.out.swap.x b hT; have h2 := HPB2.out b o he h0; omega))
          clear hs2 hu2 hn2 hf2 hfr2 hto2 hc2 ho2 hsame2 hdn2 hh2
          obtain ⟨hnl2, xs2, hox2, hrx2⟩ := HT22.out
          have HOX2 := Lib.hid hox2
          have HRX2 := Lib.hid hrx2
          have HNL2 := Lib.hid hnl2
          clear hnl2 hox2 hrx2
          go_wp2_with (at_builtin; refine wpList_append_any _ rfl (.tmp 108) (.tmp 113) 57 rfl s2 22 i0 (.slice none 0 0) 1 24 Try.underlying57 hi0 hz0 hz1 hz2 rfl (by decide) _ n2 xs2 rfl (HOX2.out.alloc _) (w2.heap.size + 1) (some ⟨w2.heap.size, 0, none⟩) 1 1 [.slice B2 b2.length d2] rfl (one_read _ _ _) (slice_one _ _ _ _ rfl) (by unfold maxLen; omega) (by omega) (Nat.le_trans HSZ2.out (by simp)) ?_; intro vv2 ww2 hown2 hg2 hat2; have HOW2 := Lib.hid hown2; have HUU2 : Hid (Upd (fun k => (Value.slice A2 n2 c2).ownBlock = some k) w2 ww2) := Lib.hid (((Upd.refl _ w2).alloc _).grown hg2 (fun k hk => .inl hk)); have HAT2 := Lib.hid hat2; obtain ⟨A2, c2, rfl⟩ := own_shape hown2; clear hown2 hg2 hat2)
          have HAQ2 := Lib.hid (HAP2.out.upd HF.out HUU2.out (fun k hk => (HOX2.out.lt k hk).1))
          have HTA2 : Hid (Took w.heap.size s0 s2 ww2 (.slice A2 (n2 + 1) c2) (n2 + 1) (ry ++ [b2])) := Lib.hid ⟨by rw [HNL2.out, List.length_append]; rfl, _, HOW2.out, (HRX2.out.snoc HBZ2.out HBY2.out.2.1 HBY2.out.2.2 (fun g o e h0 => HPB2.out g o e h0)).upd HUU2.out (fun k hk _ hT => by have h1 := (HOX2.out.lt k hT).1; have h2 := HF.out.c; have h3 := HF.out.a; have h4 := HF.out.b; omega)⟩
          have HTB2 := Lib.hid (HT12.out.upd HUU2.out (fun k hk hT => (HNE.out k hk) hT) (fun k hk hT => by have h1 := (HOX2.out.lt k hT).1; have h2 := HF.out.c; have h3 := HF.out.a; have h4 := HF.out.b; omega))
          have HSY2 := Lib.hid (Nat.le_trans HSZ2.out HUU2.out.size)
          have HNE2 : Hid (∀ k, (Value.slice A1 n1 c1).ownBlock = some k → (Value.slice A2 (n2 + 1) c2).ownBlock ≠ some k) := Lib.hid (fun k hk hk2 => by
            have hlt := (HT12.out.lt k hk).2
            rcases HAT2.out with h | h
            · rw [h] at hk2; exact HNE.out k hk hk2
            · have e := Option.some.inj (hk2.symm.trans h)
              rw [e] at hlt
              exact absurd hlt (Nat.not_lt.2 (alloc_ge _ _)))
          try (go_wp2_with fail)
          refine ⟨⟨i + 1, n1, (n2 + 1), A1, c1, A2, c2, D2, Lx, L2, rx, (ry ++ [b2]), rfl, rfl, by go_num, Lib.hid (HAQ2.out.more (by omega)), HEN2, HTB2, HTA2, HNE2, HSY2, by omega, by omega, by omega⟩, ?_⟩
          show 21 - ((i : Int) + 1).toNat < 21 - (i : Int).toNat
          omega
        · have hq2 : (z2 == 0) = false := beq_eq_false_iff_ne.2 hzz2
          have HAPH2 := Lib.hid HAPP2
          clear HAPP2
          try (go_wp2_with fail)
          go_at_call 50
          refine HAPH2.out.mono ?_
          rintro e w2 ⟨D2, L2, rfl, hs2, hu2, hn2, hf2, hfr2, hto2, hc2, ho2, hsame2, hdn2⟩
          obtain ⟨ed2, el2⟩ := hsame2 hzz2
          have hh2 : Wl.Holds D2 L2 ry := by rw [ed2, el2]; exact HAP.out.swap.hx
          have HAP2 := Lib.hid ((HAP.out.swap.step HF.out.swap hs2 hu2 hn2 hf2 hfr2 hto2 hc2 ho2 hh2).swap)
          have HEN2 := Lib.hid (HEN.out.y hfr2 hto2 ho2)
          have HT12 := Lib.hid (HT1.out.upd hu2 (fun k hk hT => by have h1 := HF.out.swap.x k hT; have h2 := (HT1.out.lt k hk).1; have h3 := HF.out.c; omega) (fun k hk hT => by have h1 := HF.out.swap.x k hT; omega))
          have HT22 := Lib.hid (HT2.out.upd hu2 (fun k hk hT => by have h1 := HF.out.swap.x k hT; have h2 := (HT2.out.lt k hk).1; have h3 := HF.out.c; omega) (fun k hk hT => by have h1 := HF.out.swap.x k hT; omega))
          have HSZ2 := Lib.hid (Nat.le_trans HSZ.out hu2.size)
          clear hs2 hu2 hn2 hf2 hfr2 hto2 hc2 ho2 hsame2 hdn2 hh2 ed2 el2
          try (go_wp2_with fail)
          refine ⟨⟨i + 1, n1, n2, A1, c1, A2, c2, D2, Lx, L2, rx, ry, rfl, rfl, by go_num, Lib.hid (HAP2.out.more (by omega)), HEN2, HT12, HT22, HNE, HSZ2, by omega, by omega, by omega⟩, ?_⟩
          show 21 - ((i : Int) + 1).toNat < 21 - (i : Int).toNat
          omega
      · have hiQ' : decide ((i : Int) < (Q.length : Int)) = false := decide_eq_false (by omega)
        have e1 := HEN.out
        have har := HAP.out.hx.area
        rw [e1.1, e1.2.1] at har
        have HO6 := Lib.hid (Open_area p r s 60 60 D 1 30 Lx.next rx wr HAP.out.sx.d har)
        clear e1 har
        go_wp2_with fail
        go_at_call 49
        refine HO6.out.mono ?_
        rintro e w8 ⟨l8, g8, c8, v8, rfl, hl8, hr8, _, _, hb8⟩
        have e1 := HEN.out
        have har := HAP.out.hy.area
        rw [e1.2.2.1, e1.2.2.2.1] at har
        have HB8 := Lib.hid hb8
        have HR8 := Lib.hid hr8
        have hd8 := HAP.out.sx.d.below hb8
        have HO7 := Lib.hid (Open_area p r s 60 60 D 30 59 Ly.next ry w8 hd8 har)
        have HD8 := Lib.hid hd8
        clear e1 har hl8 hr8 hb8 hd8
        go_wp2_with fail
        go_at_call 49
        refine HO7.out.mono ?_
        rintro e w9 ⟨l9, g9, c9, v9, rfl, hl9, hr9, _, _, hb9⟩
        have HB9 := Lib.hid hb9
        have HR9 := Lib.hid hr9
        have HD9 := Lib.hid (HD8.out.below hb9)
        have HUP := Lib.hid HAP.out.hx.area.up
        have hz9 := noughts_bytes w9 64
        have hWa : Below w9.heap.size w9 (w9.alloc (.cells (noughts 64) 5)) := (Below.refl _ _).alloc (Nat.le_refl _) _
        obtain ⟨zz, hzz⟩ : ∃ zz, zz = strOf (List.replicate 64 0) := ⟨_, rfl⟩
        have hcz : (convert 22 9 (.slice (some ⟨w9.heap.size, 0, none⟩) 64 64)).run Try.prog (w9.alloc (.cells (noughts 64) 5)) = .ok (.string zz) (w9.alloc (.cells (noughts 64) 5)) := by
          rw [hzz]; exact hz9.to_string 22 9 5 64 Try.underlying22 Try.underlying5 Try.underlying9
        have HZZ := Lib.hid hzz
        have HWA := Lib.hid hWa
        have p0 : Wl.part D.R (64 * 0) 64 = List.replicate 64 0 := part_zeros (fun j h1 h2 => HEN.out.2.2.2.2 j (.inl (by omega)))
        have p59 : Wl.part D.R (64 * 59) 64 = List.replicate 64 0 := part_zeros (fun j h1 h2 => HEN.out.2.2.2.2 j (.inr (by omega)))
        have hrd0 := Read_ok p r s 60 60 D 0 _ (HD9.out.below hWa) HUP.out (by rw [HAP.out.dn]; omega)
        rw [p0] at hrd0
        have HRD0 := Lib.hid hrd0
        have HP59 := Lib.hid p59
        clear hl9 hr9 hb9 hz9 hWa hzz p0 p59 hrd0
        go_wp2_with fail
        go_at_call 31
        refine HRD0.out.mono ?_
        rintro e wb ⟨vb0, rfl, hob, hbb⟩
        obtain ⟨Ab, cb, rfl, hyb, _⟩ := hob.bytes (fun x hx => by have := List.eq_of_mem_replicate hx; omega)
        rw [List.length_replicate] at hyb ⊢
        have HYB := Lib.hid hyb
        have HBB := Lib.hid (HWA.out.trans (hbb.mono HWA.out.size))
        have hrd59 := Read_ok p r s 60 60 D 59 wb (HD9.out.below HBB.out) HUP.out (by rw [HAP.out.dn]; omega)
        rw [HP59.out] at hrd59
        have HRD59 := Lib.hid hrd59
        clear hob hbb hyb hrd59 hcz hmk
        go_wp2_with fail
        go_at_call 31
        refine HRD59.out.mono ?_
        rintro e wc ⟨vc0, rfl, hoc, hbc⟩
        obtain ⟨Ac, cc, rfl, hyc, _⟩ := hoc.bytes (fun x hx => by have := List.eq_of_mem_replicate hx; omega)
        rw [List.length_replicate] at hyc ⊢
        have HYC := Lib.hid hyc
        have HYB2 := Lib.hid (HYB.out.below hbc)
        have HBC := Lib.hid (HBB.out.trans (hbc.mono HBB.out.size))
        have HB9c : Hid (Below w8.heap.size w8 wc) := Lib.hid (HB9.out.trans (HBC.out.mono HB9.out.size))
        have HBrc : Hid (Below wr.heap.size wr wc) := Lib.hid (HB8.out.trans (HB9c.out.mono HB8.out.size))
        have HBW : Hid (Below w.heap.size w wc) := Lib.hid (HAP.out.bel.trans (HBrc.out.mono HAP.out.top))
        have HSA := Lib.hid (SameRows_any rx v8 (.slice A1 n1 c1) wc (HR8.out.below HB9c.out) (HT1.out.at.below HBrc.out) (by have := HT1.out.1; omega))
        have HCB := Lib.hid (fun W (hW : Below wc.heap.size wc W) => (HYB2.out.below hW).to_string (P := Try.prog) 22 9 5 cb Try.underlying22 Try.underlying5 Try.underlying9)
        have HCC := Lib.hid (fun W (hW : Below wc.heap.size wc W) => (HYC.out.below hW).to_string (P := Try.prog) 22 9 5 cc Try.underlying22 Try.underlying5 Try.underlying9)
        rw [← HZZ.out] at HCB HCC
        have hq : (zz.toList == zz.toList) = true := beq_self_eq_true _
        clear hoc hbc hyc
        go_wp2_with fail
        go_at_call 52
        refine HSA.out.mono ?_
        rintro e wd ⟨rfl, hbd⟩
        have HSB := Lib.hid (SameRows_any ry v9 (.slice A2 n2 c2) wd ((HR9.out.below HBC.out).below hbd) ((HT2.out.at.below HBrc.out).below hbd) (by have := HT2.out.1; omega))
        have HBD := Lib.hid hbd
        clear hbd
        go_wp2_with fail
        go_at_call 52
        refine HSB.out.mono ?_
        rintro e we ⟨rfl, hbe⟩
        have HBE := Lib.hid (HBD.out.trans (hbe.mono HBD.out.size))
        have hca := HCB.out we HBE.out
        have hcb := HCC.out we HBE.out
        clear hbe
        go_wp2_with (go_at_call 47; refine (awake3_any _).mono ?_; rintro e wf ⟨rfl, hbf⟩)
        go_ret
        have hfin := HBW.out.trans (HBE.out.mono HBW.out.size)
        exact ⟨rfl, hfin.trans (hbf.mono hfin.size)⟩
section
open Go.ChangeShapes Go.WideShapes Go.ChangeAt
theorem walApart_walk {H : Type} {enc : TypeId × Value → H} (W : World) {base : Nat} (v0 v1 : Value) {d0 d1 : DataW H} {p0 p1 : List MemPlace} (h0 : DataW.Trod enc Try.prog W 0 (fun _ => true) true 57 v0 d0 p0) (o0 : Value.okWide Try.prog W .any base 57 v0)
    (h1 : DataW.Trod enc Try.prog W 0 (fun _ => true) true 57 v1 d1 p1) (o1 : Value.okWide Try.prog W .any base 57 v1) (hk : Rows.uptoBulkAll [d0, d1] ≤ 1048576) :
    Calls Try.prog 16 #[v0, v1] W fun e w' => e = .returned (.bool true) ∧ Below W.heap.size W w' := by
  obtain ⟨La, ha, hla, _⟩ := open_rows h0 o0
  obtain ⟨Lb, hb, hlb, _⟩ := open_rows h1 o1
  simp only [Rows.uptoBulkAll] at hk
  exact walApart_any v0 v1 La Lb W ha hb (by omega) (by omega)
end
end Go.Proofs.Ytiiegimnnngnnaa
