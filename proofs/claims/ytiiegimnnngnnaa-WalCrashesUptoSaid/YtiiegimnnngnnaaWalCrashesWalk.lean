/- WalCrashes: the walk. -/
import Derived.Test.YtiiegimnnngnnaaLog12
import Derived.Test.YtiiegimnnngnnaaApart
import Derived.Test.YtiiegimnnngnnaaInts
namespace Go.Proofs.Ytiiegimnnngnnaa
open Go.RowKit
set_option linter.unusedVariables false

/-- Where things lie. -/
structure Ft (W0 s0 s2 p r s : Nat) : Prop where
  a : W0 ≤ p ∧ W0 ≤ r ∧ W0 ≤ s
  b : p < s0 ∧ r < s0 ∧ s < s0
  c : s0 ≤ s2
/-- What stands from round to round. -/
structure Cr (W0 s0 s2 : Nat) (w0 w : World) (p r s : Nat) (vP : Value) (P : List (List Nat)) (v : Value) (n : Nat) (rs : List (List Nat)) (D : Dk) (c : Nat) : Prop where
  d : DiskAt w p r s 80 80 D
  bel : Below W0 w0 w
  top : W0 ≤ w.heap.size
  rP : RowsT w (fun k => k < W0 ∨ (s0 ≤ k ∧ k < s2)) vP P
  tk : Took W0 s0 s2 w v n rs
  big : s2 ≤ w.heap.size
  calls : D.calls ≤ c
theorem Ft.d {W0 s0 s2 p r s : Nat} (F : Ft W0 s0 s2 p r s) : ∀ k, dT p r s k → W0 ≤ k ∧ k < s0 := fun k hk => by
  have h1 := F.a
  have h2 := F.b
  rcases hk with rfl | rfl | rfl <;> omega
section
variable {W0 s0 s2 : Nat} {w0 w w' : World} {p r s : Nat} {vP : Value} {P : List (List Nat)} {v : Value} {n : Nat} {rs : List (List Nat)} {D D' : Dk} {c c' : Nat}
/-- A change of the disk, of a log that is newer than all that. -/
theorem Cr.upd {T : Nat → Prop} (h : Cr W0 s0 s2 w0 w p r s vP P v n rs D c) (F : Ft W0 s0 s2 p r s) (hd : DiskAt w' p r s 80 80 D') (hu : Upd T w w') (hT : ∀ k, T k → dT p r s k ∨ (s2 ≤ k ∧ v.ownBlock ≠ some k)) (hc : D'.calls ≤ c') : Cr W0 s0 s2 w0 w' p r s vP P v n rs D' c' := by
  have hcc := F.c
  refine ⟨hd, h.bel.trans (hu.below (fun k hk => ?_) h.top), Nat.le_trans h.top hu.size, h.rP.upd hu fun k hq _ hk => ?_, h.tk.upd hu (fun k hk ht => ?_) (fun k hk ht => ?_), Nat.le_trans h.big hu.size, hc⟩
  · rcases hT k hk with h1 | h1
    · exact (F.d k h1).1
    · have := F.a; have := F.b; omega
  · rcases hT k hk with h1 | h1
    · have := F.d k h1; omega
    · have := F.a; have := F.b; omega
  · rcases hT k ht with h1 | h1
    · have h2 := F.d k h1; have h3 := (h.tk.lt k hk).1; omega
    · exact h1.2 hk
  · rcases hT k ht with h1 | h1
    · have := F.d k h1; omega
    · have := F.a; have := F.b; omega
/-- Nothing that was there has changed. -/
theorem Cr.below (h : Cr W0 s0 s2 w0 w p r s vP P v n rs D c) (F : Ft W0 s0 s2 p r s) (hb : Below w.heap.size w w') : Cr W0 s0 s2 w0 w' p r s vP P v n rs D c :=
  h.upd F (h.d.below hb) (Upd.of_below hb (fun _ _ h => h)) (fun k hk => .inr ⟨Nat.le_trans h.big hk, fun e => by have := (h.tk.lt k e).2; have hk' : w.heap.size ≤ k := hk; omega⟩) h.calls
end
theorem dT_at {p r s l g B : Nat} {v : Value} (hl : B ≤ l) (hg : B ≤ g) (h : ∀ k, v.ownBlock = some k → k ≠ l ∧ k ≠ g) : ∀ k, aT p r s g l k → dT p r s k ∨ (B ≤ k ∧ v.ownBlock ≠ some k) := fun k hk => by
  rcases hk with (hk | hk) | hk
  · exact .inl hk
  · exact .inr ⟨by omega, fun e => (h k e).2 hk⟩
  · exact .inr ⟨by omega, fun e => (h k e).1 hk⟩
theorem rowAll {w : World} {A : Option Addr} {c : Nat} {L : List (List Nat)} (h : RowsAt w (.slice A L.length c) L) {j : Nat} (hj : j < L.length) : ∃ g o Aj cj, A = some ⟨g, o, none⟩ ∧ w.cell? ⟨g, o + j, none⟩ = some (.slice Aj (L[j]).length cj) ∧ (L[j]).length ≤ cj ∧ cj ≤ maxLen ∧ Bytes w Aj (L[j]).length L[j] := by
  obtain ⟨A', cap, hv, _, _, h3⟩ := h
  cases hv
  obtain ⟨g, o, Aj, cj, k0, k1, k2, k3, k4⟩ := h3 j hj
  exact ⟨g, o, Aj, cj, k0, k1, k2, k3, k4⟩
set_option maxRecDepth 100000 in
set_option maxHeartbeats 4000000 in
theorem walCrashes_any (va vf vp : Value) (La Lp : List (List Nat)) (zs : List Int) (w : World) (ha : RowsAt w va La) (hf : IntsAt w vf zs) (hp : RowsAt w vp Lp) (hla : La.length ≤ 1048576) (hlz : zs.length ≤ 1048576) (hlp : Lp.length ≤ 1048576) :
    Calls Try.prog 21 #[va, vf, vp] w fun e w' => e = .returned (.bool true) ∧ Below w.heap.size w w' := by
  have HA := Lib.hid ha.far
  have HZ := Lib.hid hf
  have HPK := Lib.hid hp
  obtain ⟨AF, cF, rfl, _⟩ := hf
  obtain ⟨AK, cK, rfl, _⟩ := hp
  clear ha
  have HN := Lib.hid (New_any 80 80 (by decide) (by decide) (by decide) w)
  obtain ⟨i0, hi0, hz0, hz1, hz2⟩ := info_parts slice_row
  go_enter Try.func21, Try.ntmps21
  go_wp2_with fail
  go_at_call 30
  refine HN.out.mono ?_
  rintro e w1 ⟨p, r, s, rfl, hd1, hb1, hp, hr, hs⟩
  have HB1 := Lib.hid hb1
  have HF := Lib.hid (Format_good p r s 80 80 (Dk.new 80) 2 80 w1 hd1 rfl rfl (by omega) (by simp [Dk.new]) (by simp [Dk.new]))
  have HP := Lib.hid (show w.heap.size ≤ p ∧ w.heap.size ≤ r ∧ w.heap.size ≤ s from ⟨hp, hr, hs⟩)
  clear hb1 hd1 hp hr hs
  go_wp2_with fail
  go_at_call 48
  refine HF.out.mono ?_
  rintro e w2 ⟨D2, rfl, hd2, hu2, ha2, hn2, hf2, hc2, _, _⟩
  have HB2 := Lib.hid (HB1.out.trans (hu2.below (dT_far HP.out) HB1.out.size))
  have HD2 := Lib.hid hd2
  have HA2 := Lib.hid ha2
  have hc2' : D2.calls = 2 := hc2
  have HC2 := Lib.hid hc2'
  have HU2 : Hid (Upd (fun k => w.heap.size ≤ k) w w2) := Lib.hid (Upd.of_below HB2.out (fun _ _ h => h))
  have HRA := Lib.hid (HA.out.upd HU2.out (fun k h1 _ h2 => by omega))
  have HSM := Lib.hid (small_any _ va La w2 HRA.out (fun k h => Nat.lt_of_lt_of_le h HB2.out.size) (by omega))
  clear hd2 hu2 ha2 hn2 hf2 hc2 hc2'
  go_wp2_with fail
  go_at_call 51
  refine HSM.out.mono ?_
  rintro e w3 ⟨vP, rfl, hr3, hb3⟩
  obtain ⟨P, hPP⟩ : ∃ P, P = smallL La 0 := ⟨_, rfl⟩
  have hP20 : P.length ≤ 20 := by rw [hPP]; exact smallL_len La 0
  have HP3 : Hid (∀ b ∈ P, b.length ≤ 300) := Lib.hid (fun b hb => by rw [hPP] at hb; exact (smallL_mem La 0 b hb).1)
  rw [← hPP] at hr3
  have HFT : Hid (Ft w.heap.size w2.heap.size w3.heap.size p r s) := Lib.hid ⟨HP.out, HD2.out.lt, hb3.size⟩
  have HCR : Hid (Cr w.heap.size w2.heap.size w3.heap.size w w3 p r s vP P (.slice none 0 0) 0 [] D2 (10 + 1300 * 0)) := Lib.hid ⟨HD2.out.below hb3, HB2.out.trans (hb3.mono HB2.out.size), Nat.le_trans HB2.out.size hb3.size, hr3, ⟨rfl, [], World.ownsRow_nil _ _ _ _, RowsX.nil _ _⟩, Nat.le_refl _, by rw [HC2.out]; omega⟩
  obtain ⟨AP, cP, rfl, _⟩ := hr3
  obtain ⟨s0, hs0⟩ : ∃ s0, s0 = w2.heap.size := ⟨_, rfl⟩
  obtain ⟨s2, hs2⟩ : ∃ s2, s2 = w3.heap.size := ⟨_, rfl⟩
  rw [← hs0, ← hs2] at HFT HCR
  clear hPP hb3 hs0 hs2
  go_wp2_with fail
  go_loopw [8, 9, 11] (fun a b d wr => ∃ (n1 at_ rd : Nat) (A1 : Option Addr) (c1 : Nat) (D : Dk) (rs : List (List Nat)) (nx : Nat), a = .slice A1 n1 c1 ∧ b = .int .i64 at_ ∧ d = .int .i64 rd ∧ Hid (Cr w.heap.size s0 s2 w wr p r s (.slice AP P.length cP) P (.slice A1 n1 c1) n1 rs D (10 + 1300 * rd)) ∧ Hid (Wl.Area D 2 80 nx rs) ∧ at_ ≤ P.length ∧ n1 ≤ at_ ∧ rd ≤ 6) (fun _ _ d _ => 7 - (match d with | .int _ x => x.toNat | _ => 0))
  case atStart => exact ⟨0, 0, 0, none, 0, D2, [], _, rfl, rfl, rfl, HCR, HA2, Nat.zero_le _, Nat.le_refl _, by omega⟩
  case round =>
    obtain ⟨n1, at_, rd, A1, c1, D, rs, nx, rfl, rfl, rfl, HCR, HAR, hat, hn1, hrd⟩ := hrel
    clear HN HF HB1 HB2 HD2 HA2 HC2 HU2 HRA HSM HA HP
    have i1 : (0 : Int) ≤ (rd : Int) := by omega
    have i2 : (0 : Int) ≤ (at_ : Int) := by omega
    by_cases hrz : rd ≤ zs.length
    · have i3 : (rd : Int) ≤ (zs.length : Int) := by omega
      by_cases hr6 : rd < 6
      · have i4 : (rd : Int) < 6 := by omega
        have HOP := Lib.hid (Open_area p r s 80 80 D 2 80 nx rs wr HCR.out.d HAR.out)
        go_wp2_with fail
        go_at_call 49
        refine HOP.out.mono ?_
        rintro e w4 ⟨l, g, cap, v4, rfl, hl4, hr4, h1, h2, hb4⟩
        have HS4 := Lib.hid (opened HCR.out.d hb4 hl4 h1 h2)
        have HC4 := Lib.hid (HCR.out.below HFT.out hb4)
        have HLS := Lib.hid (show s2 ≤ l ∧ s2 ≤ g from ⟨Nat.le_trans HCR.out.big h1, Nat.le_trans HCR.out.big h2⟩)
        have HNE : Hid (∀ k, (Value.slice A1 n1 c1).ownBlock = some k → k ≠ l ∧ k ≠ g) := Lib.hid (fun k hk => by have := (HCR.out.tk.lt k hk).2; omega)
        have HSR0 := Lib.hid (SameRows_any rs v4 (.slice A1 n1 c1) w4 hr4 HC4.out.tk.at (by have := HCR.out.tk.1; omega))
        clear hl4 hr4 h1 h2 hb4
        go_wp2_with fail
        go_at_call 52
        refine HSR0.out.mono ?_
        rintro e w5 ⟨rfl, hb5⟩
        have HC5 := Lib.hid (HC4.out.below HFT.out hb5)
        have HS5 := Lib.hid (HS4.out.below hb5)
        clear hb5
        by_cases hz : rd < zs.length
        · have i5 : (rd : Int) < (zs.length : Int) := by omega
          obtain ⟨_, _, hvf, hif⟩ := HZ.out
          cases hvf
          obtain ⟨gf, of, ef, kf⟩ := hif rd hz
          cases ef
          obtain ⟨z, hzz⟩ : ∃ z, z = zs[rd] := ⟨_, rfl⟩
          rw [← hzz] at kf
          have kf' : w5.cell? ⟨gf, of + rd, none⟩ = some (.int .i64 z) := (HC5.out.bel.cell (World.block_lt_of_cell? w _ kf)).trans kf
          obtain ⟨F, hF, hF40⟩ := small_k z 40 (by omega) (by omega)
          have hF' : (IntKind.u64.wrap z).tmod 40 = (F : Int) := hF
          have HFU := Lib.hid (Fuse_any p r s 80 80 D ((F : Int) + 1) w5 HC5.out.d (by omega))
          clear hF kf hzz hif
          go_wp2_with fail
          clear hF' kf'
          go_at_call 38
          refine HFU.out.mono ?_
          rintro e w5f ⟨rfl, hd6, hu6⟩
          have HC6f := Lib.hid (HC5.out.upd HFT.out hd6 hu6 (fun k hk => .inl hk) (c' := 10 + 1300 * rd) (by have := HCR.out.calls; show D.calls ≤ _; omega))
          have HS6f := Lib.hid (HS5.out.disk hd6 hu6)
          have HH6f := Lib.hid (HAR.out.holds.setFuse ((F : Int) + 1))
          clear hd6 hu6
          have HKY : Hid ((D.setFuse ((F : Int) + 1)).calls ≤ 10 + 1300 * rd + 50) := Lib.hid (by have := HCR.out.calls; show D.calls ≤ _; omega)
          go_wp2_with fail
          go_loopw [8, 9, 15, 16, 17] (fun a b d e f wr => ∃ (n at2 k : Nat) (A : Option Addr) (c : Nat) (E : Dk) (L : Wl.Lg) (rl : List (List Nat)), a = .slice A n c ∧ b = .int .i64 at2 ∧ d = .slice none 0 0 ∧ e = .bool false ∧ f = .int .i64 k ∧ Hid (Cr w.heap.size s0 s2 w wr p r s (.slice AP P.length cP) P (.slice A n c) n rl E (10 + 1300 * rd + 50 + 200 * k)) ∧ Hid (Sys wr p r s 80 80 l g cap E L) ∧ Hid (Wl.Holds E L rl) ∧ Hid (L.fr = 2 ∧ L.to = 80) ∧ Hid (∀ j, (Value.slice A n c).ownBlock = some j → j ≠ l ∧ j ≠ g) ∧ at2 ≤ P.length ∧ n ≤ at2 ∧ k ≤ 6) (fun _ _ _ _ f _ => 7 - (match f with | .int _ x => x.toNat | _ => 0))
          case atStart => exact ⟨n1, at_, 0, A1, c1, _, _, rs, rfl, rfl, rfl, rfl, rfl, Lib.hid { HC6f.out with calls := HKY.out }, HS6f, HH6f, Lib.hid ⟨rfl, rfl⟩, HNE, hat, hn1, by omega⟩
          case round =>
            obtain ⟨n, at2, k, A, c, E, L, rl, rfl, rfl, rfl, rfl, rfl, HCI, HSI, HHI, HLI, HNI, hat2, hnn, hk⟩ := hrel
            have j1 : (0 : Int) ≤ (at2 : Int) := by omega
            by_cases hk6 : k < 6
            · have j2 : (k : Int) < 6 := by omega
              by_cases hal : at2 < P.length
              · have j3 : (at2 : Int) < (P.length : Int) := by omega
                obtain ⟨_, _, hv, _, _, hrow⟩ := HCI.out.rP
                cases hv
                obtain ⟨g1, o1, B1, d1, e1, q1, qq1, k1, kl1, km1, ky1, kq1⟩ := hrow at2 hal
                cases e1
                have hb300 := HP3.out _ (List.getElem_mem hal)
                obtain ⟨b1, hb1⟩ : ∃ b, b = P[at2] := ⟨_, rfl⟩
                rw [← hb1] at k1 kl1 ky1 hb300 kq1
                have HAL := Lib.hid (Append_all l g cap p r s 80 80 E L rl B1 b1.length d1 b1 wr HSI.out HHI.out ky1 (by omega) (by have := HCI.out.calls; omega))
                have HK1 := Lib.hid (show (wr.cell? ⟨g1, o1 + at2, none⟩ = some (.slice B1 b1.length d1)) ∧ g1 < wr.heap.size ∧ (g1 < w.heap.size ∨ (s0 ≤ g1 ∧ g1 < s2)) from ⟨k1, qq1, q1⟩)
                have HROW : Hid (∀ W : World, Cr w.heap.size s0 s2 w W p r s (.slice (some ⟨g1, o1, none⟩) P.length cP) P (.slice A n c) n rl E (10 + 1300 * rd + 50 + 200 * k) → True) := Lib.hid (fun _ _ => trivial)
                have HBO := Lib.hid (And.intro hb1 (And.intro kl1 km1))
                clear hrow q1 qq1 kl1 km1 ky1 kq1 hb1 HROW
                go_wp2_with fail
                go_at_call 50
                refine HAL.out.mono ?_
                rintro e w6 ⟨D6, L6, x6, rfl, hs6, hu6, hn6, hc6, hfr6, hto6, hnx6, hln6, hout⟩
                have HC6 := Lib.hid (HCI.out.upd HFT.out hs6.d hu6 (dT_at HLS.out.1 HLS.out.2 HNI.out) (c' := 10 + 1300 * rd + 50 + 200 * (k + 1)) (by have := HCI.out.calls; omega))
                have HS6 := Lib.hid hs6
                have HL6 : Hid (L6.fr = 2 ∧ L6.to = 80) := Lib.hid ⟨hfr6.trans HLI.out.1, hto6.trans HLI.out.2⟩
                obtain ⟨_, _, hv6, _, _, hrow6⟩ := HC6.out.rP
                cases hv6
                obtain ⟨g1', o1', B6, d6, e6, _, _, k6, kl6, km6, ky6, kq6⟩ := hrow6 at2 hal
                cases e6
                rw [← HBO.out.1] at k6 kl6 ky6 kq6
                have HY6 := Lib.hid (show Bytes w6 B6 b1.length b1 ∧ b1.length ≤ d6 ∧ d6 ≤ maxLen ∧ ∀ g o, B6 = some ⟨g, o, none⟩ → 0 < b1.length → (g < w.heap.size ∨ (s0 ≤ g ∧ g < s2)) from ⟨ky6, kl6, km6, fun g o e h0 => kq6 g o e h0⟩)
                clear hrow6 kl6 km6 ky6 kq6 hs6 hu6 hn6 hc6 hfr6 hto6 hnx6 hln6 k1
                rcases hout with ⟨rfl, hbig, _, _⟩ | ⟨rfl, rfl, rfl⟩ | ⟨rfl, hh6⟩ | ⟨rfl, hf6, hhe6⟩
                · omega
                · clear k6
                  go_wp2_with fail
                  refine ⟨⟨n, at2 + 1, k + 1, A, c, _, _, rl, rfl, by go_num, rfl, rfl, by go_num, HC6, HS6, HHI, HL6, HNI, by omega, by omega, by omega⟩, ?_⟩
                  show 7 - ((k : Int) + 1).toNat < 7 - (k : Int).toNat
                  omega
                · have HH6 := Lib.hid hh6
                  obtain ⟨hnl, xs, hox, hrx⟩ := HC6.out.tk
                  have HOX := Lib.hid hox
                  have HRX := Lib.hid hrx
                  have HNL := Lib.hid hnl
                  clear hnl hox hrx hh6
                  go_wp2_with (at_builtin; refine wpList_append_any _ rfl (.tmp 88) (.tmp 94) 57 rfl s2 22 i0 (.slice none 0 0) 1 24 Try.underlying57 hi0 hz0 hz1 hz2 rfl (by decide) _ n xs rfl (HOX.out.alloc _) (w6.heap.size + 1) (some ⟨w6.heap.size, 0, none⟩) 1 1 [.slice B6 b1.length d6] rfl (one_read _ _ _) (slice_one _ _ _ _ rfl) (by unfold maxLen; omega) (by omega) (Nat.le_trans HC6.out.big (by simp)) ?_; intro vv wv hown hg hatt; have HOW := Lib.hid hown; have HUU : Hid (Upd (fun k => (Value.slice A n c).ownBlock = some k) w6 wv) := Lib.hid (((Upd.refl _ w6).alloc _).grown hg (fun k hk => .inl hk)); have HAT := Lib.hid hatt; obtain ⟨A9, c9, rfl⟩ := own_shape hown; clear hown hg hatt)
                  have hlt9 := HC6.out.tk.lt
                  have hcF := HFT.out.c
                  have haF := HFT.out.a
                  have hbF := HFT.out.b
                  have hsl := HS6.out.lg.blk.lt
                  have hsg := HS6.out.lg.marks.lt
                  have HTK : Hid (Took w.heap.size s0 s2 wv (.slice A9 (n + 1) c9) (n + 1) (rl ++ [b1])) := Lib.hid ⟨by rw [HNL.out, List.length_append]; rfl, _, HOW.out, (HRX.out.snoc HY6.out.1 HY6.out.2.1 HY6.out.2.2.1 (fun g o e h0 => HY6.out.2.2.2 g o e h0)).upd HUU.out (fun k hk hk2 hT => by have h1 := (hlt9 k hT).1; omega)⟩
                  have HSV := Lib.hid (HS6.out.upd HUU.out (fun k hT => by
                    have h1 := (hlt9 k hT).1
                    have h2 := HNI.out k hT
                    exact ⟨by omega, by omega, by omega, h2.1, h2.2⟩))
                  have HCV : Hid (Cr w.heap.size s0 s2 w wv p r s (.slice (some ⟨g1, o1, none⟩) P.length cP) P (.slice A9 (n + 1) c9) (n + 1) (rl ++ [b1]) D6 (10 + 1300 * rd + 50 + 200 * (k + 1))) := Lib.hid
                    ⟨HSV.out.d, HC6.out.bel.trans (HUU.out.below (fun k hT => by have h1 := (hlt9 k hT).1; omega) HC6.out.top), Nat.le_trans HC6.out.top HUU.out.size, HC6.out.rP.upd HUU.out (fun k hk hk2 hT => by have h1 := (hlt9 k hT).1; omega), HTK.out, Nat.le_trans HC6.out.big HUU.out.size, HC6.out.calls⟩
                  have HNV : Hid (∀ j, (Value.slice A9 (n + 1) c9).ownBlock = some j → j ≠ l ∧ j ≠ g) := Lib.hid (fun j hj => by
                    rcases HAT.out with h | h
                    · rw [h] at hj; exact HNI.out j hj
                    · have e := Option.some.inj (hj.symm.trans h)
                      have h9 := alloc_ge w6 (Obj.cells #[Value.slice B6 b1.length d6] 22)
                      omega)
                  clear hlt9 hcF haF hbF hsl hsg
                  refine ⟨⟨n + 1, at2 + 1, k + 1, A9, c9, _, _, (rl ++ [b1]), rfl, by go_num, rfl, rfl, by go_num, HCV, HSV, HH6, HL6, HNV, by omega, by omega, by omega⟩, ?_⟩
                  show 7 - ((k : Int) + 1).toNat < 7 - (k : Int).toNat
                  omega
                · have HHE : Hid (Wl.Heals D6 2 80 (fun q => q = rl ∨ q = rl ++ [b1])) := Lib.hid (by rw [HLI.out.1, HLI.out.2] at hhe6; exact hhe6)
                  have HBYF : Hid (∀ W, Below w.heap.size w W → True) := Lib.hid (fun _ _ => trivial)
                  clear hf6 hhe6 HBYF
                  have HCB : Hid (Cr w.heap.size s0 s2 w w6 p r s (.slice (some ⟨g1, o1, none⟩) P.length cP) P (.slice A n c) n rl D6 (10 + 1300 * (rd + 1))) := Lib.hid { HC6.out with calls := by have := HC6.out.calls; omega }
                  by_cases hpk : rd < Lp.length
                  · have m1 : (rd : Int) < (Lp.length : Int) := by omega
                    obtain ⟨gp, op, Bp, dp, ep, kp, hcp1, hcp2, hyp⟩ := rowAll HPK.out hpk
                    obtain ⟨bp, hbp⟩ : ∃ bp, bp = Lp[rd] := ⟨_, rfl⟩
                    rw [← hbp] at kp hcp1 hyp
                    subst ep
                    have kp' : w6.cell? ⟨gp, op + rd, none⟩ = some (.slice Bp bp.length dp) := (HCB.out.bel.cell (World.block_lt_of_cell? w _ kp)).trans kp
                    have HYP := Lib.hid (show Bytes w Bp bp.length bp ∧ bp.length ≤ dp ∧ dp ≤ maxLen ∧ True from ⟨hyp, hcp1, hcp2, trivial⟩)
                    clear kp hcp1 hcp2 hyp hbp
                    have HKC := Lib.hid (Crash_any p r s 80 80 D6 Bp bp.length dp bp w6 HCB.out.d (HYP.out.1.below HCB.out.bel) HYP.out.2.1 HYP.out.2.2.1 (fun g o e h0 hT => by have h1 := HFT.out.d g hT; obtain ⟨b9, o9, e9, h9, _⟩ := HYP.out.1.2.2 h0; rw [e] at e9; cases e9; omega))
                    obtain ⟨rs2, nx2, hq2, har2⟩ := HHE.out HCB.out.d.ok bp HYP.out.1.2.1
                    have HA2 := Lib.hid har2
                    have HQ2 := Lib.hid hq2
                    clear har2 hq2
                    go_wp2_with fail
                    go_at_call 37
                    refine HKC.out.mono ?_
                    rintro e wk ⟨rfl, hdk, huk⟩
                    have HCK := Lib.hid (HCB.out.upd HFT.out hdk huk (fun k hk => .inl hk) (c' := 10 + 1300 * (rd + 1)) (by have := HCB.out.calls; show D6.calls ≤ _; omega))
                    have HOK := Lib.hid (Open_from p r s 80 80 (D6.crash bp) 2 80 nx2 rs2 wk hdk HA2.out)
                    have HBYK := Lib.hid (HY6.out.1.upd huk (fun b o e h0 hT => by have h1 := HFT.out.d b hT; have h2 := HY6.out.2.2.2 b o e h0; omega))
                    clear hdk huk
                    go_wp2_with fail
                    go_at_call 49
                    refine HOK.out.mono ?_
                    rintro e wl ⟨vq, uq, rfl, hrq, hbq⟩
                    have HCL := Lib.hid (HCK.out.below HFT.out hbq)
                    have HRQ := Lib.hid hrq.1
                    have HRQF := Lib.hid hrq.2
                    have HBYL := Lib.hid (HBYK.out.below hbq)
                    obtain ⟨Aq, cqq, rfl, _⟩ := id hrq.1
                    clear hbq hrq
                    have hn9 := HCL.out.tk.1
                    rcases HQ2.out with hq2 | hq2
                    · subst hq2
                      have l0 : (((rs2.length : Nat) : Int) == ((n : Nat) : Int) + 1) = false := beq_eq_false_iff_ne.2 (by omega)
                      clear hn9
                      have HSR := Lib.hid (SameRows_any _ _ _ wl HRQ.out HCL.out.tk.at (by have := HCL.out.tk.1; omega))
                      go_wp2_with fail
                      go_at_call 52
                      refine HSR.out.mono ?_
                      rintro e wn ⟨rfl, hbn⟩
                      have HCN := Lib.hid (HCL.out.below HFT.out hbn)
                      clear hbn
                      go_wp2_with fail
                      refine ⟨⟨n, (at2 + 1), rd + 1, A, c, _, _, nx2, rfl, by first | rfl | go_num, by go_num, HCN, HA2, by omega, by omega, by omega⟩, ?_⟩
                      show 7 - ((rd : Int) + 1).toNat < 7 - (rd : Int).toNat
                      omega
                    · have l0 : (((rs2.length : Nat) : Int) == ((n : Nat) : Int) + 1) = true := beq_iff_eq.2 (by rw [hq2, List.length_append]; simp only [List.length_cons, List.length_nil]; omega)
                      obtain ⟨hnl, xs, hox, hrx⟩ := HCL.out.tk
                      have HOX := Lib.hid hox
                      have HRX := Lib.hid hrx
                      have HNL := Lib.hid hnl
                      have HQ3 := Lib.hid hq2
                      clear hnl hox hrx hn9 hq2
                      go_wp2_with (at_builtin; refine wpList_append_any _ rfl (.tmp 133) (.tmp 135) 57 rfl s2 22 i0 (.slice none 0 0) 1 24 Try.underlying57 hi0 hz0 hz1 hz2 rfl (by decide) _ n xs rfl (HOX.out.alloc _) (wl.heap.size + 1) (some ⟨wl.heap.size, 0, none⟩) 1 1 [.slice B6 b1.length d6] rfl (one_read _ _ _) (slice_one _ _ _ _ rfl) (by unfold maxLen; omega) (by omega) (Nat.le_trans HCL.out.big (by simp)) ?_; intro vv wv hown hg hatt; have HOW := Lib.hid hown; have HUU : Hid (Upd (fun k => (Value.slice A n c).ownBlock = some k) wl wv) := Lib.hid (((Upd.refl _ wl).alloc _).grown hg (fun k hk => .inl hk)); obtain ⟨A9, c9, rfl⟩ := own_shape hown; clear hown hg hatt)
                      have hlt9 := HCL.out.tk.lt
                      have hcF := HFT.out.c
                      have haF := HFT.out.a
                      have hbF := HFT.out.b
                      have HTK : Hid (Took w.heap.size s0 s2 wv (.slice A9 (n + 1) c9) (n + 1) (rl ++ [b1])) := Lib.hid ⟨by rw [HNL.out, List.length_append]; rfl, _, HOW.out, (HRX.out.snoc HBYL.out HY6.out.2.1 HY6.out.2.2.1 (fun g o e h0 => HY6.out.2.2.2 g o e h0)).upd HUU.out (fun k hk hk2 hT => by have h1 := (hlt9 k hT).1; omega)⟩
                      have HCV : Hid (Cr w.heap.size s0 s2 w wv p r s (.slice (some ⟨g1, o1, none⟩) P.length cP) P (.slice A9 (n + 1) c9) (n + 1) (rl ++ [b1]) (D6.crash bp) (10 + 1300 * (rd + 1))) := Lib.hid (by
                        have hd9 := HFT.out.b
                        have hbg := HCL.out.big
                        refine ⟨HCL.out.d.upd HUU.out ?_ ?_ ?_, HCL.out.bel.trans (HUU.out.below (fun k hk => ?_) HCL.out.top), Nat.le_trans HCL.out.top HUU.out.size, HCL.out.rP.upd HUU.out (fun k hk hk2 hT => ?_), HTK.out, Nat.le_trans HCL.out.big HUU.out.size, HCL.out.calls⟩
                        · intro hT; have h1 := (hlt9 _ hT).1; omega
                        · intro hT; have h1 := (hlt9 _ hT).1; omega
                        · intro hT; have h1 := (hlt9 _ hT).1; omega
                        · have h1 := (hlt9 _ hk).1; omega
                        · have h1 := (hlt9 _ hT).1; omega)
                      have HRV : Hid (RowsAt wv (.slice Aq rs2.length cqq) (rl ++ [b1])) := Lib.hid (by
                        rw [← HQ3.out]
                        exact HRQF.out _ _ HUU.out (fun k hk => (HCK.out.tk.lt k hk).2))
                      rw [HQ3.out] at HRV HA2 ⊢
                      clear hlt9 hcF haF hbF
                      have HSR := Lib.hid (SameRows_any _ _ _ wv HRV.out HCV.out.tk.at (by have := HCV.out.tk.1; omega))
                      go_wp2_with fail
                      go_at_call 52
                      refine HSR.out.mono ?_
                      rintro e wn ⟨rfl, hbn⟩
                      have HCN := Lib.hid (HCV.out.below HFT.out hbn)
                      clear hbn
                      go_wp2_with fail
                      refine ⟨⟨(n + 1), (at2 + 1), rd + 1, A9, c9, _, _, nx2, rfl, by first | rfl | go_num, by go_num, HCN, HA2, by omega, by omega, by omega⟩, ?_⟩
                      show 7 - ((rd : Int) + 1).toNat < 7 - (rd : Int).toNat
                      omega
                  · have m1 : ¬ (rd : Int) < (Lp.length : Int) := by omega
                    have HKC := Lib.hid (Crash_any p r s 80 80 D6 none 0 0 [] w6 HCB.out.d (Bytes.nil _) (Nat.le_refl _) (Nat.zero_le _) (fun g o e h0 hT => by have h1 := HFT.out.d g hT; cases e))
                    obtain ⟨rs2, nx2, hq2, har2⟩ := HHE.out HCB.out.d.ok [] (fun x hx => by cases hx)
                    have HA2 := Lib.hid har2
                    have HQ2 := Lib.hid hq2
                    clear har2 hq2
                    go_wp2_with fail
                    go_at_call 37
                    refine HKC.out.mono ?_
                    rintro e wk ⟨rfl, hdk, huk⟩
                    have HCK := Lib.hid (HCB.out.upd HFT.out hdk huk (fun k hk => .inl hk) (c' := 10 + 1300 * (rd + 1)) (by have := HCB.out.calls; show D6.calls ≤ _; omega))
                    have HOK := Lib.hid (Open_from p r s 80 80 (D6.crash []) 2 80 nx2 rs2 wk hdk HA2.out)
                    have HBYK := Lib.hid (HY6.out.1.upd huk (fun b o e h0 hT => by have h1 := HFT.out.d b hT; have h2 := HY6.out.2.2.2 b o e h0; omega))
                    clear hdk huk
                    go_wp2_with fail
                    go_at_call 49
                    refine HOK.out.mono ?_
                    rintro e wl ⟨vq, uq, rfl, hrq, hbq⟩
                    have HCL := Lib.hid (HCK.out.below HFT.out hbq)
                    have HRQ := Lib.hid hrq.1
                    have HRQF := Lib.hid hrq.2
                    have HBYL := Lib.hid (HBYK.out.below hbq)
                    obtain ⟨Aq, cqq, rfl, _⟩ := id hrq.1
                    clear hbq hrq
                    have hn9 := HCL.out.tk.1
                    rcases HQ2.out with hq2 | hq2
                    · subst hq2
                      have l0 : (((rs2.length : Nat) : Int) == ((n : Nat) : Int) + 1) = false := beq_eq_false_iff_ne.2 (by omega)
                      clear hn9
                      have HSR := Lib.hid (SameRows_any _ _ _ wl HRQ.out HCL.out.tk.at (by have := HCL.out.tk.1; omega))
                      go_wp2_with fail
                      go_at_call 52
                      refine HSR.out.mono ?_
                      rintro e wn ⟨rfl, hbn⟩
                      have HCN := Lib.hid (HCL.out.below HFT.out hbn)
                      clear hbn
                      go_wp2_with fail
                      refine ⟨⟨n, (at2 + 1), rd + 1, A, c, _, _, nx2, rfl, by first | rfl | go_num, by go_num, HCN, HA2, by omega, by omega, by omega⟩, ?_⟩
                      show 7 - ((rd : Int) + 1).toNat < 7 - (rd : Int).toNat
                      omega
                    · have l0 : (((rs2.length : Nat) : Int) == ((n : Nat) : Int) + 1) = true := beq_iff_eq.2 (by rw [hq2, List.length_append]; simp only [List.length_cons, List.length_nil]; omega)
                      obtain ⟨hnl, xs, hox, hrx⟩ := HCL.out.tk
                      have HOX := Lib.hid hox
                      have HRX := Lib.hid hrx
                      have HNL := Lib.hid hnl
                      have HQ3 := Lib.hid hq2
                      clear hnl hox hrx hn9 hq2
                      go_wp2_with (at_builtin; refine wpList_append_any _ rfl (.tmp 133) (.tmp 135) 57 rfl s2 22 i0 (.slice none 0 0) 1 24 Try.underlying57 hi0 hz0 hz1 hz2 rfl (by decide) _ n xs rfl (HOX.out.alloc _) (wl.heap.size + 1) (some ⟨wl.heap.size, 0, none⟩) 1 1 [.slice B6 b1.length d6] rfl (one_read _ _ _) (slice_one _ _ _ _ rfl) (by unfold maxLen; omega) (by omega) (Nat.le_trans HCL.out.big (by simp)) ?_; intro vv wv hown hg hatt; have HOW := Lib.hid hown; have HUU : Hid (Upd (fun k => (Value.slice A n c).ownBlock = some k) wl wv) := Lib.hid (((Upd.refl _ wl).alloc _).grown hg (fun k hk => .inl hk)); obtain ⟨A9, c9, rfl⟩ := own_shape hown; clear hown hg hatt)
                      have hlt9 := HCL.out.tk.lt
                      have hcF := HFT.out.c
                      have haF := HFT.out.a
                      have hbF := HFT.out.b
                      have HTK : Hid (Took w.heap.size s0 s2 wv (.slice A9 (n + 1) c9) (n + 1) (rl ++ [b1])) := Lib.hid ⟨by rw [HNL.out, List.length_append]; rfl, _, HOW.out, (HRX.out.snoc HBYL.out HY6.out.2.1 HY6.out.2.2.1 (fun g o e h0 => HY6.out.2.2.2 g o e h0)).upd HUU.out (fun k hk hk2 hT => by have h1 := (hlt9 k hT).1; omega)⟩
                      have HCV : Hid (Cr w.heap.size s0 s2 w wv p r s (.slice (some ⟨g1, o1, none⟩) P.length cP) P (.slice A9 (n + 1) c9) (n + 1) (rl ++ [b1]) (D6.crash []) (10 + 1300 * (rd + 1))) := Lib.hid (by
                        have hd9 := HFT.out.b
                        have hbg := HCL.out.big
                        refine ⟨HCL.out.d.upd HUU.out ?_ ?_ ?_, HCL.out.bel.trans (HUU.out.below (fun k hk => ?_) HCL.out.top), Nat.le_trans HCL.out.top HUU.out.size, HCL.out.rP.upd HUU.out (fun k hk hk2 hT => ?_), HTK.out, Nat.le_trans HCL.out.big HUU.out.size, HCL.out.calls⟩
                        · intro hT; have h1 := (hlt9 _ hT).1; omega
                        · intro hT; have h1 := (hlt9 _ hT).1; omega
                        · intro hT; have h1 := (hlt9 _ hT).1; omega
                        · have h1 := (hlt9 _ hk).1; omega
                        · have h1 := (hlt9 _ hT).1; omega)
                      have HRV : Hid (RowsAt wv (.slice Aq rs2.length cqq) (rl ++ [b1])) := Lib.hid (by
                        rw [← HQ3.out]
                        exact HRQF.out _ _ HUU.out (fun k hk => (HCK.out.tk.lt k hk).2))
                      rw [HQ3.out] at HRV HA2 ⊢
                      clear hlt9 hcF haF hbF
                      have HSR := Lib.hid (SameRows_any _ _ _ wv HRV.out HCV.out.tk.at (by have := HCV.out.tk.1; omega))
                      go_wp2_with fail
                      go_at_call 52
                      refine HSR.out.mono ?_
                      rintro e wn ⟨rfl, hbn⟩
                      have HCN := Lib.hid (HCV.out.below HFT.out hbn)
                      clear hbn
                      go_wp2_with fail
                      refine ⟨⟨(n + 1), (at2 + 1), rd + 1, A9, c9, _, _, nx2, rfl, by first | rfl | go_num, by go_num, HCN, HA2, by omega, by omega, by omega⟩, ?_⟩
                      show 7 - ((rd : Int) + 1).toNat < 7 - (rd : Int).toNat
                      omega
              · have j3 : decide ((at2 : Int) < (P.length : Int)) = false := decide_eq_false (by omega)
                have HHE : Hid (Wl.Heals E 2 80 (fun q => q = rl)) := Lib.hid (by have h9 := HHI.out.area.heals; rw [HLI.out.1, HLI.out.2] at h9; exact h9)
                have HCX : Hid (Cr w.heap.size s0 s2 w wr p r s (.slice AP P.length cP) P (.slice A n c) n rl E (10 + 1300 * (rd + 1))) := Lib.hid { HCI.out with calls := by have := HCI.out.calls; omega }
                by_cases hpk : rd < Lp.length
                · have m1 : (rd : Int) < (Lp.length : Int) := by omega
                  obtain ⟨gp, op, Bp, dp, ep, kp, hcp1, hcp2, hyp⟩ := rowAll HPK.out hpk
                  obtain ⟨bp, hbp⟩ : ∃ bp, bp = Lp[rd] := ⟨_, rfl⟩
                  rw [← hbp] at kp hcp1 hyp
                  subst ep
                  have kp' : wr.cell? ⟨gp, op + rd, none⟩ = some (.slice Bp bp.length dp) := (HCX.out.bel.cell (World.block_lt_of_cell? w _ kp)).trans kp
                  have HYP := Lib.hid (show Bytes w Bp bp.length bp ∧ bp.length ≤ dp ∧ dp ≤ maxLen ∧ True from ⟨hyp, hcp1, hcp2, trivial⟩)
                  clear kp hcp1 hcp2 hyp hbp
                  have HKC := Lib.hid (Crash_any p r s 80 80 E Bp bp.length dp bp wr HCX.out.d (HYP.out.1.below HCX.out.bel) HYP.out.2.1 HYP.out.2.2.1 (fun g o e h0 hT => by have h1 := HFT.out.d g hT; obtain ⟨b9, o9, e9, h9, _⟩ := HYP.out.1.2.2 h0; rw [e] at e9; cases e9; omega))
                  obtain ⟨rs2, nx2, hq2, har2⟩ := HHE.out HCX.out.d.ok bp HYP.out.1.2.1
                  have HA2 := Lib.hid har2
                  have HQ2 := Lib.hid hq2
                  clear har2 hq2
                  go_wp2_with fail
                  go_at_call 37
                  refine HKC.out.mono ?_
                  rintro e wk ⟨rfl, hdk, huk⟩
                  have HCK := Lib.hid (HCX.out.upd HFT.out hdk huk (fun k hk => .inl hk) (c' := 10 + 1300 * (rd + 1)) (by have := HCX.out.calls; show E.calls ≤ _; omega))
                  have HOK := Lib.hid (Open_from p r s 80 80 (E.crash bp) 2 80 nx2 rs2 wk hdk HA2.out)
                  clear hdk huk
                  go_wp2_with fail
                  go_at_call 49
                  refine HOK.out.mono ?_
                  rintro e wl ⟨vq, uq, rfl, hrq, hbq⟩
                  have HCL := Lib.hid (HCK.out.below HFT.out hbq)
                  have HRQ := Lib.hid hrq.1
                  have HRQF := Lib.hid hrq.2
                  obtain ⟨Aq, cqq, rfl, _⟩ := id hrq.1
                  clear hbq hrq
                  obtain rfl : rs2 = rl := HQ2.out
                  have HSR := Lib.hid (SameRows_any _ _ _ wl HRQ.out HCL.out.tk.at (by have := HCL.out.tk.1; omega))
                  go_wp2_with fail
                  go_at_call 52
                  refine HSR.out.mono ?_
                  rintro e wn ⟨rfl, hbn⟩
                  have HCN := Lib.hid (HCL.out.below HFT.out hbn)
                  clear hbn
                  go_wp2_with fail
                  refine ⟨⟨n, at2, rd + 1, A, c, _, _, nx2, rfl, by first | rfl | go_num, by go_num, HCN, HA2, by omega, by omega, by omega⟩, ?_⟩
                  show 7 - ((rd : Int) + 1).toNat < 7 - (rd : Int).toNat
                  omega
                · have m1 : ¬ (rd : Int) < (Lp.length : Int) := by omega
                  have HKC := Lib.hid (Crash_any p r s 80 80 E none 0 0 [] wr HCX.out.d (Bytes.nil _) (Nat.le_refl _) (Nat.zero_le _) (fun g o e h0 hT => by have h1 := HFT.out.d g hT; cases e))
                  obtain ⟨rs2, nx2, hq2, har2⟩ := HHE.out HCX.out.d.ok [] (fun x hx => by cases hx)
                  have HA2 := Lib.hid har2
                  have HQ2 := Lib.hid hq2
                  clear har2 hq2
                  go_wp2_with fail
                  go_at_call 37
                  refine HKC.out.mono ?_
                  rintro e wk ⟨rfl, hdk, huk⟩
                  have HCK := Lib.hid (HCX.out.upd HFT.out hdk huk (fun k hk => .inl hk) (c' := 10 + 1300 * (rd + 1)) (by have := HCX.out.calls; show E.calls ≤ _; omega))
                  have HOK := Lib.hid (Open_from p r s 80 80 (E.crash []) 2 80 nx2 rs2 wk hdk HA2.out)
                  clear hdk huk
                  go_wp2_with fail
                  go_at_call 49
                  refine HOK.out.mono ?_
                  rintro e wl ⟨vq, uq, rfl, hrq, hbq⟩
                  have HCL := Lib.hid (HCK.out.below HFT.out hbq)
                  have HRQ := Lib.hid hrq.1
                  have HRQF := Lib.hid hrq.2
                  obtain ⟨Aq, cqq, rfl, _⟩ := id hrq.1
                  clear hbq hrq
                  obtain rfl : rs2 = rl := HQ2.out
                  have HSR := Lib.hid (SameRows_any _ _ _ wl HRQ.out HCL.out.tk.at (by have := HCL.out.tk.1; omega))
                  go_wp2_with fail
                  go_at_call 52
                  refine HSR.out.mono ?_
                  rintro e wn ⟨rfl, hbn⟩
                  have HCN := Lib.hid (HCL.out.below HFT.out hbn)
                  clear hbn
                  go_wp2_with fail
                  refine ⟨⟨n, at2, rd + 1, A, c, _, _, nx2, rfl, by first | rfl | go_num, by go_num, HCN, HA2, by omega, by omega, by omega⟩, ?_⟩
                  show 7 - ((rd : Int) + 1).toNat < 7 - (rd : Int).toNat
                  omega
            · have j2 : decide ((k : Int) < 6) = false := decide_eq_false (by omega)
              have HHE : Hid (Wl.Heals E 2 80 (fun q => q = rl)) := Lib.hid (by have h9 := HHI.out.area.heals; rw [HLI.out.1, HLI.out.2] at h9; exact h9)
              have HCX : Hid (Cr w.heap.size s0 s2 w wr p r s (.slice AP P.length cP) P (.slice A n c) n rl E (10 + 1300 * (rd + 1))) := Lib.hid { HCI.out with calls := by have := HCI.out.calls; omega }
              by_cases hpk : rd < Lp.length
              · have m1 : (rd : Int) < (Lp.length : Int) := by omega
                obtain ⟨gp, op, Bp, dp, ep, kp, hcp1, hcp2, hyp⟩ := rowAll HPK.out hpk
                obtain ⟨bp, hbp⟩ : ∃ bp, bp = Lp[rd] := ⟨_, rfl⟩
                rw [← hbp] at kp hcp1 hyp
                subst ep
                have kp' : wr.cell? ⟨gp, op + rd, none⟩ = some (.slice Bp bp.length dp) := (HCX.out.bel.cell (World.block_lt_of_cell? w _ kp)).trans kp
                have HYP := Lib.hid (show Bytes w Bp bp.length bp ∧ bp.length ≤ dp ∧ dp ≤ maxLen ∧ True from ⟨hyp, hcp1, hcp2, trivial⟩)
                clear kp hcp1 hcp2 hyp hbp
                have HKC := Lib.hid (Crash_any p r s 80 80 E Bp bp.length dp bp wr HCX.out.d (HYP.out.1.below HCX.out.bel) HYP.out.2.1 HYP.out.2.2.1 (fun g o e h0 hT => by have h1 := HFT.out.d g hT; obtain ⟨b9, o9, e9, h9, _⟩ := HYP.out.1.2.2 h0; rw [e] at e9; cases e9; omega))
                obtain ⟨rs2, nx2, hq2, har2⟩ := HHE.out HCX.out.d.ok bp HYP.out.1.2.1
                have HA2 := Lib.hid har2
                have HQ2 := Lib.hid hq2
                clear har2 hq2
                go_wp2_with fail
                go_at_call 37
                refine HKC.out.mono ?_
                rintro e wk ⟨rfl, hdk, huk⟩
                have HCK := Lib.hid (HCX.out.upd HFT.out hdk huk (fun k hk => .inl hk) (c' := 10 + 1300 * (rd + 1)) (by have := HCX.out.calls; show E.calls ≤ _; omega))
                have HOK := Lib.hid (Open_from p r s 80 80 (E.crash bp) 2 80 nx2 rs2 wk hdk HA2.out)
                clear hdk huk
                go_wp2_with fail
                go_at_call 49
                refine HOK.out.mono ?_
                rintro e wl ⟨vq, uq, rfl, hrq, hbq⟩
                have HCL := Lib.hid (HCK.out.below HFT.out hbq)
                have HRQ := Lib.hid hrq.1
                have HRQF := Lib.hid hrq.2
                obtain ⟨Aq, cqq, rfl, _⟩ := id hrq.1
                clear hbq hrq
                obtain rfl : rs2 = rl := HQ2.out
                have HSR := Lib.hid (SameRows_any _ _ _ wl HRQ.out HCL.out.tk.at (by have := HCL.out.tk.1; omega))
                go_wp2_with fail
                go_at_call 52
                refine HSR.out.mono ?_
                rintro e wn ⟨rfl, hbn⟩
                have HCN := Lib.hid (HCL.out.below HFT.out hbn)
                clear hbn
                go_wp2_with fail
                refine ⟨⟨n, at2, rd + 1, A, c, _, _, nx2, rfl, by first | rfl | go_num, by go_num, HCN, HA2, by omega, by omega, by omega⟩, ?_⟩
                show 7 - ((rd : Int) + 1).toNat < 7 - (rd : Int).toNat
                omega
              · have m1 : ¬ (rd : Int) < (Lp.length : Int) := by omega
                have HKC := Lib.hid (Crash_any p r s 80 80 E none 0 0 [] wr HCX.out.d (Bytes.nil _) (Nat.le_refl _) (Nat.zero_le _) (fun g o e h0 hT => by have h1 := HFT.out.d g hT; cases e))
                obtain ⟨rs2, nx2, hq2, har2⟩ := HHE.out HCX.out.d.ok [] (fun x hx => by cases hx)
                have HA2 := Lib.hid har2
                have HQ2 := Lib.hid hq2
                clear har2 hq2
                go_wp2_with fail
                go_at_call 37
                refine HKC.out.mono ?_
                rintro e wk ⟨rfl, hdk, huk⟩
                have HCK := Lib.hid (HCX.out.upd HFT.out hdk huk (fun k hk => .inl hk) (c' := 10 + 1300 * (rd + 1)) (by have := HCX.out.calls; show E.calls ≤ _; omega))
                have HOK := Lib.hid (Open_from p r s 80 80 (E.crash []) 2 80 nx2 rs2 wk hdk HA2.out)
                clear hdk huk
                go_wp2_with fail
                go_at_call 49
                refine HOK.out.mono ?_
                rintro e wl ⟨vq, uq, rfl, hrq, hbq⟩
                have HCL := Lib.hid (HCK.out.below HFT.out hbq)
                have HRQ := Lib.hid hrq.1
                have HRQF := Lib.hid hrq.2
                obtain ⟨Aq, cqq, rfl, _⟩ := id hrq.1
                clear hbq hrq
                obtain rfl : rs2 = rl := HQ2.out
                have HSR := Lib.hid (SameRows_any _ _ _ wl HRQ.out HCL.out.tk.at (by have := HCL.out.tk.1; omega))
                go_wp2_with fail
                go_at_call 52
                refine HSR.out.mono ?_
                rintro e wn ⟨rfl, hbn⟩
                have HCN := Lib.hid (HCL.out.below HFT.out hbn)
                clear hbn
                go_wp2_with fail
                refine ⟨⟨n, at2, rd + 1, A, c, _, _, nx2, rfl, by first | rfl | go_num, by go_num, HCN, HA2, by omega, by omega, by omega⟩, ?_⟩
                show 7 - ((rd : Int) + 1).toNat < 7 - (rd : Int).toNat
                omega
        · have i5 : ¬ (rd : Int) < (zs.length : Int) := by omega
          have HH6f := Lib.hid HAR.out.holds
          have HKY : Hid (D.calls ≤ 10 + 1300 * rd + 50) := Lib.hid (by have := HCR.out.calls; show D.calls ≤ _; omega)
          go_wp2_with fail
          go_loopw [8, 9, 15, 16, 17] (fun a b d e f wr => ∃ (n at2 k : Nat) (A : Option Addr) (c : Nat) (E : Dk) (L : Wl.Lg) (rl : List (List Nat)), a = .slice A n c ∧ b = .int .i64 at2 ∧ d = .slice none 0 0 ∧ e = .bool false ∧ f = .int .i64 k ∧ Hid (Cr w.heap.size s0 s2 w wr p r s (.slice AP P.length cP) P (.slice A n c) n rl E (10 + 1300 * rd + 50 + 200 * k)) ∧ Hid (Sys wr p r s 80 80 l g cap E L) ∧ Hid (Wl.Holds E L rl) ∧ Hid (L.fr = 2 ∧ L.to = 80) ∧ Hid (∀ j, (Value.slice A n c).ownBlock = some j → j ≠ l ∧ j ≠ g) ∧ at2 ≤ P.length ∧ n ≤ at2 ∧ k ≤ 6) (fun _ _ _ _ f _ => 7 - (match f with | .int _ x => x.toNat | _ => 0))
          case atStart => exact ⟨n1, at_, 0, A1, c1, _, _, rs, rfl, rfl, rfl, rfl, rfl, Lib.hid { HC5.out with calls := HKY.out }, HS5, HH6f, Lib.hid ⟨rfl, rfl⟩, HNE, hat, hn1, by omega⟩
          case round =>
            obtain ⟨n, at2, k, A, c, E, L, rl, rfl, rfl, rfl, rfl, rfl, HCI, HSI, HHI, HLI, HNI, hat2, hnn, hk⟩ := hrel
            have j1 : (0 : Int) ≤ (at2 : Int) := by omega
            by_cases hk6 : k < 6
            · have j2 : (k : Int) < 6 := by omega
              by_cases hal : at2 < P.length
              · have j3 : (at2 : Int) < (P.length : Int) := by omega
                obtain ⟨_, _, hv, _, _, hrow⟩ := HCI.out.rP
                cases hv
                obtain ⟨g1, o1, B1, d1, e1, q1, qq1, k1, kl1, km1, ky1, kq1⟩ := hrow at2 hal
                cases e1
                have hb300 := HP3.out _ (List.getElem_mem hal)
                obtain ⟨b1, hb1⟩ : ∃ b, b = P[at2] := ⟨_, rfl⟩
                rw [← hb1] at k1 kl1 ky1 hb300 kq1
                have HAL := Lib.hid (Append_all l g cap p r s 80 80 E L rl B1 b1.length d1 b1 wr HSI.out HHI.out ky1 (by omega) (by have := HCI.out.calls; omega))
                have HK1 := Lib.hid (show (wr.cell? ⟨g1, o1 + at2, none⟩ = some (.slice B1 b1.length d1)) ∧ g1 < wr.heap.size ∧ (g1 < w.heap.size ∨ (s0 ≤ g1 ∧ g1 < s2)) from ⟨k1, qq1, q1⟩)
                have HROW : Hid (∀ W : World, Cr w.heap.size s0 s2 w W p r s (.slice (some ⟨g1, o1, none⟩) P.length cP) P (.slice A n c) n rl E (10 + 1300 * rd + 50 + 200 * k) → True) := Lib.hid (fun _ _ => trivial)
                have HBO := Lib.hid (And.intro hb1 (And.intro kl1 km1))
                clear hrow q1 qq1 kl1 km1 ky1 kq1 hb1 HROW
                go_wp2_with fail
                go_at_call 50
                refine HAL.out.mono ?_
                rintro e w6 ⟨D6, L6, x6, rfl, hs6, hu6, hn6, hc6, hfr6, hto6, hnx6, hln6, hout⟩
                have HC6 := Lib.hid (HCI.out.upd HFT.out hs6.d hu6 (dT_at HLS.out.1 HLS.out.2 HNI.out) (c' := 10 + 1300 * rd + 50 + 200 * (k + 1)) (by have := HCI.out.calls; omega))
                have HS6 := Lib.hid hs6
                have HL6 : Hid (L6.fr = 2 ∧ L6.to = 80) := Lib.hid ⟨hfr6.trans HLI.out.1, hto6.trans HLI.out.2⟩
                obtain ⟨_, _, hv6, _, _, hrow6⟩ := HC6.out.rP
                cases hv6
                obtain ⟨g1', o1', B6, d6, e6, _, _, k6, kl6, km6, ky6, kq6⟩ := hrow6 at2 hal
                cases e6
                rw [← HBO.out.1] at k6 kl6 ky6 kq6
                have HY6 := Lib.hid (show Bytes w6 B6 b1.length b1 ∧ b1.length ≤ d6 ∧ d6 ≤ maxLen ∧ ∀ g o, B6 = some ⟨g, o, none⟩ → 0 < b1.length → (g < w.heap.size ∨ (s0 ≤ g ∧ g < s2)) from ⟨ky6, kl6, km6, fun g o e h0 => kq6 g o e h0⟩)
                clear hrow6 kl6 km6 ky6 kq6 hs6 hu6 hn6 hc6 hfr6 hto6 hnx6 hln6 k1
                rcases hout with ⟨rfl, hbig, _, _⟩ | ⟨rfl, rfl, rfl⟩ | ⟨rfl, hh6⟩ | ⟨rfl, hf6, hhe6⟩
                · omega
                · clear k6
                  go_wp2_with fail
                  refine ⟨⟨n, at2 + 1, k + 1, A, c, _, _, rl, rfl, by go_num, rfl, rfl, by go_num, HC6, HS6, HHI, HL6, HNI, by omega, by omega, by omega⟩, ?_⟩
                  show 7 - ((k : Int) + 1).toNat < 7 - (k : Int).toNat
                  omega
                · have HH6 := Lib.hid hh6
                  obtain ⟨hnl, xs, hox, hrx⟩ := HC6.out.tk
                  have HOX := Lib.hid hox
                  have HRX := Lib.hid hrx
                  have HNL := Lib.hid hnl
                  clear hnl hox hrx hh6
                  go_wp2_with (at_builtin; refine wpList_append_any _ rfl (.tmp 88) (.tmp 94) 57 rfl s2 22 i0 (.slice none 0 0) 1 24 Try.underlying57 hi0 hz0 hz1 hz2 rfl (by decide) _ n xs rfl (HOX.out.alloc _) (w6.heap.size + 1) (some ⟨w6.heap.size, 0, none⟩) 1 1 [.slice B6 b1.length d6] rfl (one_read _ _ _) (slice_one _ _ _ _ rfl) (by unfold maxLen; omega) (by omega) (Nat.le_trans HC6.out.big (by simp)) ?_; intro vv wv hown hg hatt; have HOW := Lib.hid hown; have HUU : Hid (Upd (fun k => (Value.slice A n c).ownBlock = some k) w6 wv) := Lib.hid (((Upd.refl _ w6).alloc _).grown hg (fun k hk => .inl hk)); have HAT := Lib.hid hatt; obtain ⟨A9, c9, rfl⟩ := own_shape hown; clear hown hg hatt)
                  have hlt9 := HC6.out.tk.lt
                  have hcF := HFT.out.c
                  have haF := HFT.out.a
                  have hbF := HFT.out.b
                  have hsl := HS6.out.lg.blk.lt
                  have hsg := HS6.out.lg.marks.lt
                  have HTK : Hid (Took w.heap.size s0 s2 wv (.slice A9 (n + 1) c9) (n + 1) (rl ++ [b1])) := Lib.hid ⟨by rw [HNL.out, List.length_append]; rfl, _, HOW.out, (HRX.out.snoc HY6.out.1 HY6.out.2.1 HY6.out.2.2.1 (fun g o e h0 => HY6.out.2.2.2 g o e h0)).upd HUU.out (fun k hk hk2 hT => by have h1 := (hlt9 k hT).1; omega)⟩
                  have HSV := Lib.hid (HS6.out.upd HUU.out (fun k hT => by
                    have h1 := (hlt9 k hT).1
                    have h2 := HNI.out k hT
                    exact ⟨by omega, by omega, by omega, h2.1, h2.2⟩))
                  have HCV : Hid (Cr w.heap.size s0 s2 w wv p r s (.slice (some ⟨g1, o1, none⟩) P.length cP) P (.slice A9 (n + 1) c9) (n + 1) (rl ++ [b1]) D6 (10 + 1300 * rd + 50 + 200 * (k + 1))) := Lib.hid
                    ⟨HSV.out.d, HC6.out.bel.trans (HUU.out.below (fun k hT => by have h1 := (hlt9 k hT).1; omega) HC6.out.top), Nat.le_trans HC6.out.top HUU.out.size, HC6.out.rP.upd HUU.out (fun k hk hk2 hT => by have h1 := (hlt9 k hT).1; omega), HTK.out, Nat.le_trans HC6.out.big HUU.out.size, HC6.out.calls⟩
                  have HNV : Hid (∀ j, (Value.slice A9 (n + 1) c9).ownBlock = some j → j ≠ l ∧ j ≠ g) := Lib.hid (fun j hj => by
                    rcases HAT.out with h | h
                    · rw [h] at hj; exact HNI.out j hj
                    · have e := Option.some.inj (hj.symm.trans h)
                      have h9 := alloc_ge w6 (Obj.cells #[Value.slice B6 b1.length d6] 22)
                      omega)
                  clear hlt9 hcF haF hbF hsl hsg
                  refine ⟨⟨n + 1, at2 + 1, k + 1, A9, c9, _, _, (rl ++ [b1]), rfl, by go_num, rfl, rfl, by go_num, HCV, HSV, HH6, HL6, HNV, by omega, by omega, by omega⟩, ?_⟩
                  show 7 - ((k : Int) + 1).toNat < 7 - (k : Int).toNat
                  omega
                · have HHE : Hid (Wl.Heals D6 2 80 (fun q => q = rl ∨ q = rl ++ [b1])) := Lib.hid (by rw [HLI.out.1, HLI.out.2] at hhe6; exact hhe6)
                  have HBYF : Hid (∀ W, Below w.heap.size w W → True) := Lib.hid (fun _ _ => trivial)
                  clear hf6 hhe6 HBYF
                  have HCB : Hid (Cr w.heap.size s0 s2 w w6 p r s (.slice (some ⟨g1, o1, none⟩) P.length cP) P (.slice A n c) n rl D6 (10 + 1300 * (rd + 1))) := Lib.hid { HC6.out with calls := by have := HC6.out.calls; omega }
                  by_cases hpk : rd < Lp.length
                  · have m1 : (rd : Int) < (Lp.length : Int) := by omega
                    obtain ⟨gp, op, Bp, dp, ep, kp, hcp1, hcp2, hyp⟩ := rowAll HPK.out hpk
                    obtain ⟨bp, hbp⟩ : ∃ bp, bp = Lp[rd] := ⟨_, rfl⟩
                    rw [← hbp] at kp hcp1 hyp
                    subst ep
                    have kp' : w6.cell? ⟨gp, op + rd, none⟩ = some (.slice Bp bp.length dp) := (HCB.out.bel.cell (World.block_lt_of_cell? w _ kp)).trans kp
                    have HYP := Lib.hid (show Bytes w Bp bp.length bp ∧ bp.length ≤ dp ∧ dp ≤ maxLen ∧ True from ⟨hyp, hcp1, hcp2, trivial⟩)
                    clear kp hcp1 hcp2 hyp hbp
                    have HKC := Lib.hid (Crash_any p r s 80 80 D6 Bp bp.length dp bp w6 HCB.out.d (HYP.out.1.below HCB.out.bel) HYP.out.2.1 HYP.out.2.2.1 (fun g o e h0 hT => by have h1 := HFT.out.d g hT; obtain ⟨b9, o9, e9, h9, _⟩ := HYP.out.1.2.2 h0; rw [e] at e9; cases e9; omega))
                    obtain ⟨rs2, nx2, hq2, har2⟩ := HHE.out HCB.out.d.ok bp HYP.out.1.2.1
                    have HA2 := Lib.hid har2
                    have HQ2 := Lib.hid hq2
                    clear har2 hq2
                    go_wp2_with fail
                    go_at_call 37
                    refine HKC.out.mono ?_
                    rintro e wk ⟨rfl, hdk, huk⟩
                    have HCK := Lib.hid (HCB.out.upd HFT.out hdk huk (fun k hk => .inl hk) (c' := 10 + 1300 * (rd + 1)) (by have := HCB.out.calls; show D6.calls ≤ _; omega))
                    have HOK := Lib.hid (Open_from p r s 80 80 (D6.crash bp) 2 80 nx2 rs2 wk hdk HA2.out)
                    have HBYK := Lib.hid (HY6.out.1.upd huk (fun b o e h0 hT => by have h1 := HFT.out.d b hT; have h2 := HY6.out.2.2.2 b o e h0; omega))
                    clear hdk huk
                    go_wp2_with fail
                    go_at_call 49
                    refine HOK.out.mono ?_
                    rintro e wl ⟨vq, uq, rfl, hrq, hbq⟩
                    have HCL := Lib.hid (HCK.out.below HFT.out hbq)
                    have HRQ := Lib.hid hrq.1
                    have HRQF := Lib.hid hrq.2
                    have HBYL := Lib.hid (HBYK.out.below hbq)
                    obtain ⟨Aq, cqq, rfl, _⟩ := id hrq.1
                    clear hbq hrq
                    have hn9 := HCL.out.tk.1
                    rcases HQ2.out with hq2 | hq2
                    · subst hq2
                      have l0 : (((rs2.length : Nat) : Int) == ((n : Nat) : Int) + 1) = false := beq_eq_false_iff_ne.2 (by omega)
                      clear hn9
                      have HSR := Lib.hid (SameRows_any _ _ _ wl HRQ.out HCL.out.tk.at (by have := HCL.out.tk.1; omega))
                      go_wp2_with fail
                      go_at_call 52
                      refine HSR.out.mono ?_
                      rintro e wn ⟨rfl, hbn⟩
                      have HCN := Lib.hid (HCL.out.below HFT.out hbn)
                      clear hbn
                      go_wp2_with fail
                      refine ⟨⟨n, (at2 + 1), rd + 1, A, c, _, _, nx2, rfl, by first | rfl | go_num, by go_num, HCN, HA2, by omega, by omega, by omega⟩, ?_⟩
                      show 7 - ((rd : Int) + 1).toNat < 7 - (rd : Int).toNat
                      omega
                    · have l0 : (((rs2.length : Nat) : Int) == ((n : Nat) : Int) + 1) = true := beq_iff_eq.2 (by rw [hq2, List.length_append]; simp only [List.length_cons, List.length_nil]; omega)
                      obtain ⟨hnl, xs, hox, hrx⟩ := HCL.out.tk
                      have HOX := Lib.hid hox
                      have HRX := Lib.hid hrx
                      have HNL := Lib.hid hnl
                      have HQ3 := Lib.hid hq2
                      clear hnl hox hrx hn9 hq2
                      go_wp2_with (at_builtin; refine wpList_append_any _ rfl (.tmp 133) (.tmp 135) 57 rfl s2 22 i0 (.slice none 0 0) 1 24 Try.underlying57 hi0 hz0 hz1 hz2 rfl (by decide) _ n xs rfl (HOX.out.alloc _) (wl.heap.size + 1) (some ⟨wl.heap.size, 0, none⟩) 1 1 [.slice B6 b1.length d6] rfl (one_read _ _ _) (slice_one _ _ _ _ rfl) (by unfold maxLen; omega) (by omega) (Nat.le_trans HCL.out.big (by simp)) ?_; intro vv wv hown hg hatt; have HOW := Lib.hid hown; have HUU : Hid (Upd (fun k => (Value.slice A n c).ownBlock = some k) wl wv) := Lib.hid (((Upd.refl _ wl).alloc _).grown hg (fun k hk => .inl hk)); obtain ⟨A9, c9, rfl⟩ := own_shape hown; clear hown hg hatt)
                      have hlt9 := HCL.out.tk.lt
                      have hcF := HFT.out.c
                      have haF := HFT.out.a
                      have hbF := HFT.out.b
                      have HTK : Hid (Took w.heap.size s0 s2 wv (.slice A9 (n + 1) c9) (n + 1) (rl ++ [b1])) := Lib.hid ⟨by rw [HNL.out, List.length_append]; rfl, _, HOW.out, (HRX.out.snoc HBYL.out HY6.out.2.1 HY6.out.2.2.1 (fun g o e h0 => HY6.out.2.2.2 g o e h0)).upd HUU.out (fun k hk hk2 hT => by have h1 := (hlt9 k hT).1; omega)⟩
                      have HCV : Hid (Cr w.heap.size s0 s2 w wv p r s (.slice (some ⟨g1, o1, none⟩) P.length cP) P (.slice A9 (n + 1) c9) (n + 1) (rl ++ [b1]) (D6.crash bp) (10 + 1300 * (rd + 1))) := Lib.hid (by
                        have hd9 := HFT.out.b
                        have hbg := HCL.out.big
                        refine ⟨HCL.out.d.upd HUU.out ?_ ?_ ?_, HCL.out.bel.trans (HUU.out.below (fun k hk => ?_) HCL.out.top), Nat.le_trans HCL.out.top HUU.out.size, HCL.out.rP.upd HUU.out (fun k hk hk2 hT => ?_), HTK.out, Nat.le_trans HCL.out.big HUU.out.size, HCL.out.calls⟩
                        · intro hT; have h1 := (hlt9 _ hT).1; omega
                        · intro hT; have h1 := (hlt9 _ hT).1; omega
                        · intro hT; have h1 := (hlt9 _ hT).1; omega
                        · have h1 := (hlt9 _ hk).1; omega
                        · have h1 := (hlt9 _ hT).1; omega)
                      have HRV : Hid (RowsAt wv (.slice Aq rs2.length cqq) (rl ++ [b1])) := Lib.hid (by
                        rw [← HQ3.out]
                        exact HRQF.out _ _ HUU.out (fun k hk => (HCK.out.tk.lt k hk).2))
                      rw [HQ3.out] at HRV HA2 ⊢
                      clear hlt9 hcF haF hbF
                      have HSR := Lib.hid (SameRows_any _ _ _ wv HRV.out HCV.out.tk.at (by have := HCV.out.tk.1; omega))
                      go_wp2_with fail
                      go_at_call 52
                      refine HSR.out.mono ?_
                      rintro e wn ⟨rfl, hbn⟩
                      have HCN := Lib.hid (HCV.out.below HFT.out hbn)
                      clear hbn
                      go_wp2_with fail
                      refine ⟨⟨(n + 1), (at2 + 1), rd + 1, A9, c9, _, _, nx2, rfl, by first | rfl | go_num, by go_num, HCN, HA2, by omega, by omega, by omega⟩, ?_⟩
                      show 7 - ((rd : Int) + 1).toNat < 7 - (rd : Int).toNat
                      omega
                  · have m1 : ¬ (rd : Int) < (Lp.length : Int) := by omega
                    have HKC := Lib.hid (Crash_any p r s 80 80 D6 none 0 0 [] w6 HCB.out.d (Bytes.nil _) (Nat.le_refl _) (Nat.zero_le _) (fun g o e h0 hT => by have h1 := HFT.out.d g hT; cases e))
                    obtain ⟨rs2, nx2, hq2, har2⟩ := HHE.out HCB.out.d.ok [] (fun x hx => by cases hx)
                    have HA2 := Lib.hid har2
                    have HQ2 := Lib.hid hq2
                    clear har2 hq2
                    go_wp2_with fail
                    go_at_call 37
                    refine HKC.out.mono ?_
                    rintro e wk ⟨rfl, hdk, huk⟩
                    have HCK := Lib.hid (HCB.out.upd HFT.out hdk huk (fun k hk => .inl hk) (c' := 10 + 1300 * (rd + 1)) (by have := HCB.out.calls; show D6.calls ≤ _; omega))
                    have HOK := Lib.hid (Open_from p r s 80 80 (D6.crash []) 2 80 nx2 rs2 wk hdk HA2.out)
                    have HBYK := Lib.hid (HY6.out.1.upd huk (fun b o e h0 hT => by have h1 := HFT.out.d b hT; have h2 := HY6.out.2.2.2 b o e h0; omega))
                    clear hdk huk
                    go_wp2_with fail
                    go_at_call 49
                    refine HOK.out.mono ?_
                    rintro e wl ⟨vq, uq, rfl, hrq, hbq⟩
                    have HCL := Lib.hid (HCK.out.below HFT.out hbq)
                    have HRQ := Lib.hid hrq.1
                    have HRQF := Lib.hid hrq.2
                    have HBYL := Lib.hid (HBYK.out.below hbq)
                    obtain ⟨Aq, cqq, rfl, _⟩ := id hrq.1
                    clear hbq hrq
                    have hn9 := HCL.out.tk.1
                    rcases HQ2.out with hq2 | hq2
                    · subst hq2
                      have l0 : (((rs2.length : Nat) : Int) == ((n : Nat) : Int) + 1) = false := beq_eq_false_iff_ne.2 (by omega)
                      clear hn9
                      have HSR := Lib.hid (SameRows_any _ _ _ wl HRQ.out HCL.out.tk.at (by have := HCL.out.tk.1; omega))
                      go_wp2_with fail
                      go_at_call 52
                      refine HSR.out.mono ?_
                      rintro e wn ⟨rfl, hbn⟩
                      have HCN := Lib.hid (HCL.out.below HFT.out hbn)
                      clear hbn
                      go_wp2_with fail
                      refine ⟨⟨n, (at2 + 1), rd + 1, A, c, _, _, nx2, rfl, by first | rfl | go_num, by go_num, HCN, HA2, by omega, by omega, by omega⟩, ?_⟩
                      show 7 - ((rd : Int) + 1).toNat < 7 - (rd : Int).toNat
                      omega
                    · have l0 : (((rs2.length : Nat) : Int) == ((n : Nat) : Int) + 1) = true := beq_iff_eq.2 (by rw [hq2, List.length_append]; simp only [List.length_cons, List.length_nil]; omega)
                      obtain ⟨hnl, xs, hox, hrx⟩ := HCL.out.tk
                      have HOX := Lib.hid hox
                      have HRX := Lib.hid hrx
                      have HNL := Lib.hid hnl
                      have HQ3 := Lib.hid hq2
                      clear hnl hox hrx hn9 hq2
                      go_wp2_with (at_builtin; refine wpList_append_any _ rfl (.tmp 133) (.tmp 135) 57 rfl s2 22 i0 (.slice none 0 0) 1 24 Try.underlying57 hi0 hz0 hz1 hz2 rfl (by decide) _ n xs rfl (HOX.out.alloc _) (wl.heap.size + 1) (some ⟨wl.heap.size, 0, none⟩) 1 1 [.slice B6 b1.length d6] rfl (one_read _ _ _) (slice_one _ _ _ _ rfl) (by unfold maxLen; omega) (by omega) (Nat.le_trans HCL.out.big (by simp)) ?_; intro vv wv hown hg hatt; have HOW := Lib.hid hown; have HUU : Hid (Upd (fun k => (Value.slice A n c).ownBlock = some k) wl wv) := Lib.hid (((Upd.refl _ wl).alloc _).grown hg (fun k hk => .inl hk)); obtain ⟨A9, c9, rfl⟩ := own_shape hown; clear hown hg hatt)
                      have hlt9 := HCL.out.tk.lt
                      have hcF := HFT.out.c
                      have haF := HFT.out.a
                      have hbF := HFT.out.b
                      have HTK : Hid (Took w.heap.size s0 s2 wv (.slice A9 (n + 1) c9) (n + 1) (rl ++ [b1])) := Lib.hid ⟨by rw [HNL.out, List.length_append]; rfl, _, HOW.out, (HRX.out.snoc HBYL.out HY6.out.2.1 HY6.out.2.2.1 (fun g o e h0 => HY6.out.2.2.2 g o e h0)).upd HUU.out (fun k hk hk2 hT => by have h1 := (hlt9 k hT).1; omega)⟩
                      have HCV : Hid (Cr w.heap.size s0 s2 w wv p r s (.slice (some ⟨g1, o1, none⟩) P.length cP) P (.slice A9 (n + 1) c9) (n + 1) (rl ++ [b1]) (D6.crash []) (10 + 1300 * (rd + 1))) := Lib.hid (by
                        have hd9 := HFT.out.b
                        have hbg := HCL.out.big
                        refine ⟨HCL.out.d.upd HUU.out ?_ ?_ ?_, HCL.out.bel.trans (HUU.out.below (fun k hk => ?_) HCL.out.top), Nat.le_trans HCL.out.top HUU.out.size, HCL.out.rP.upd HUU.out (fun k hk hk2 hT => ?_), HTK.out, Nat.le_trans HCL.out.big HUU.out.size, HCL.out.calls⟩
                        · intro hT; have h1 := (hlt9 _ hT).1; omega
                        · intro hT; have h1 := (hlt9 _ hT).1; omega
                        · intro hT; have h1 := (hlt9 _ hT).1; omega
                        · have h1 := (hlt9 _ hk).1; omega
                        · have h1 := (hlt9 _ hT).1; omega)
                      have HRV : Hid (RowsAt wv (.slice Aq rs2.length cqq) (rl ++ [b1])) := Lib.hid (by
                        rw [← HQ3.out]
                        exact HRQF.out _ _ HUU.out (fun k hk => (HCK.out.tk.lt k hk).2))
                      rw [HQ3.out] at HRV HA2 ⊢
                      clear hlt9 hcF haF hbF
                      have HSR := Lib.hid (SameRows_any _ _ _ wv HRV.out HCV.out.tk.at (by have := HCV.out.tk.1; omega))
                      go_wp2_with fail
                      go_at_call 52
                      refine HSR.out.mono ?_
                      rintro e wn ⟨rfl, hbn⟩
                      have HCN := Lib.hid (HCV.out.below HFT.out hbn)
                      clear hbn
                      go_wp2_with fail
                      refine ⟨⟨(n + 1), (at2 + 1), rd + 1, A9, c9, _, _, nx2, rfl, by first | rfl | go_num, by go_num, HCN, HA2, by omega, by omega, by omega⟩, ?_⟩
                      show 7 - ((rd : Int) + 1).toNat < 7 - (rd : Int).toNat
                      omega
              · have j3 : decide ((at2 : Int) < (P.length : Int)) = false := decide_eq_false (by omega)
                have HHE : Hid (Wl.Heals E 2 80 (fun q => q = rl)) := Lib.hid (by have h9 := HHI.out.area.heals; rw [HLI.out.1, HLI.out.2] at h9; exact h9)
                have HCX : Hid (Cr w.heap.size s0 s2 w wr p r s (.slice AP P.length cP) P (.slice A n c) n rl E (10 + 1300 * (rd + 1))) := Lib.hid { HCI.out with calls := by have := HCI.out.calls; omega }
                by_cases hpk : rd < Lp.length
                · have m1 : (rd : Int) < (Lp.length : Int) := by omega
                  obtain ⟨gp, op, Bp, dp, ep, kp, hcp1, hcp2, hyp⟩ := rowAll HPK.out hpk
                  obtain ⟨bp, hbp⟩ : ∃ bp, bp = Lp[rd] := ⟨_, rfl⟩
                  rw [← hbp] at kp hcp1 hyp
                  subst ep
                  have kp' : wr.cell? ⟨gp, op + rd, none⟩ = some (.slice Bp bp.length dp) := (HCX.out.bel.cell (World.block_lt_of_cell? w _ kp)).trans kp
                  have HYP := Lib.hid (show Bytes w Bp bp.length bp ∧ bp.length ≤ dp ∧ dp ≤ maxLen ∧ True from ⟨hyp, hcp1, hcp2, trivial⟩)
                  clear kp hcp1 hcp2 hyp hbp
                  have HKC := Lib.hid (Crash_any p r s 80 80 E Bp bp.length dp bp wr HCX.out.d (HYP.out.1.below HCX.out.bel) HYP.out.2.1 HYP.out.2.2.1 (fun g o e h0 hT => by have h1 := HFT.out.d g hT; obtain ⟨b9, o9, e9, h9, _⟩ := HYP.out.1.2.2 h0; rw [e] at e9; cases e9; omega))
                  obtain ⟨rs2, nx2, hq2, har2⟩ := HHE.out HCX.out.d.ok bp HYP.out.1.2.1
                  have HA2 := Lib.hid har2
                  have HQ2 := Lib.hid hq2
                  clear har2 hq2
                  go_wp2_with fail
                  go_at_call 37
                  refine HKC.out.mono ?_
                  rintro e wk ⟨rfl, hdk, huk⟩
                  have HCK := Lib.hid (HCX.out.upd HFT.out hdk huk (fun k hk => .inl hk) (c' := 10 + 1300 * (rd + 1)) (by have := HCX.out.calls; show E.calls ≤ _; omega))
                  have HOK := Lib.hid (Open_from p r s 80 80 (E.crash bp) 2 80 nx2 rs2 wk hdk HA2.out)
                  clear hdk huk
                  go_wp2_with fail
                  go_at_call 49
                  refine HOK.out.mono ?_
                  rintro e wl ⟨vq, uq, rfl, hrq, hbq⟩
                  have HCL := Lib.hid (HCK.out.below HFT.out hbq)
                  have HRQ := Lib.hid hrq.1
                  have HRQF := Lib.hid hrq.2
                  obtain ⟨Aq, cqq, rfl, _⟩ := id hrq.1
                  clear hbq hrq
                  obtain rfl : rs2 = rl := HQ2.out
                  have HSR := Lib.hid (SameRows_any _ _ _ wl HRQ.out HCL.out.tk.at (by have := HCL.out.tk.1; omega))
                  go_wp2_with fail
                  go_at_call 52
                  refine HSR.out.mono ?_
                  rintro e wn ⟨rfl, hbn⟩
                  have HCN := Lib.hid (HCL.out.below HFT.out hbn)
                  clear hbn
                  go_wp2_with fail
                  refine ⟨⟨n, at2, rd + 1, A, c, _, _, nx2, rfl, by first | rfl | go_num, by go_num, HCN, HA2, by omega, by omega, by omega⟩, ?_⟩
                  show 7 - ((rd : Int) + 1).toNat < 7 - (rd : Int).toNat
                  omega
                · have m1 : ¬ (rd : Int) < (Lp.length : Int) := by omega
                  have HKC := Lib.hid (Crash_any p r s 80 80 E none 0 0 [] wr HCX.out.d (Bytes.nil _) (Nat.le_refl _) (Nat.zero_le _) (fun g o e h0 hT => by have h1 := HFT.out.d g hT; cases e))
                  obtain ⟨rs2, nx2, hq2, har2⟩ := HHE.out HCX.out.d.ok [] (fun x hx => by cases hx)
                  have HA2 := Lib.hid har2
                  have HQ2 := Lib.hid hq2
                  clear har2 hq2
                  go_wp2_with fail
                  go_at_call 37
                  refine HKC.out.mono ?_
                  rintro e wk ⟨rfl, hdk, huk⟩
                  have HCK := Lib.hid (HCX.out.upd HFT.out hdk huk (fun k hk => .inl hk) (c' := 10 + 1300 * (rd + 1)) (by have := HCX.out.calls; show E.calls ≤ _; omega))
                  have HOK := Lib.hid (Open_from p r s 80 80 (E.crash []) 2 80 nx2 rs2 wk hdk HA2.out)
                  clear hdk huk
                  go_wp2_with fail
                  go_at_call 49
                  refine HOK.out.mono ?_
                  rintro e wl ⟨vq, uq, rfl, hrq, hbq⟩
                  have HCL := Lib.hid (HCK.out.below HFT.out hbq)
                  have HRQ := Lib.hid hrq.1
                  have HRQF := Lib.hid hrq.2
                  obtain ⟨Aq, cqq, rfl, _⟩ := id hrq.1
                  clear hbq hrq
                  obtain rfl : rs2 = rl := HQ2.out
                  have HSR := Lib.hid (SameRows_any _ _ _ wl HRQ.out HCL.out.tk.at (by have := HCL.out.tk.1; omega))
                  go_wp2_with fail
                  go_at_call 52
                  refine HSR.out.mono ?_
                  rintro e wn ⟨rfl, hbn⟩
                  have HCN := Lib.hid (HCL.out.below HFT.out hbn)
                  clear hbn
                  go_wp2_with fail
                  refine ⟨⟨n, at2, rd + 1, A, c, _, _, nx2, rfl, by first | rfl | go_num, by go_num, HCN, HA2, by omega, by omega, by omega⟩, ?_⟩
                  show 7 - ((rd : Int) + 1).toNat < 7 - (rd : Int).toNat
                  omega
            · have j2 : decide ((k : Int) < 6) = false := decide_eq_false (by omega)
              have HHE : Hid (Wl.Heals E 2 80 (fun q => q = rl)) := Lib.hid (by have h9 := HHI.out.area.heals; rw [HLI.out.1, HLI.out.2] at h9; exact h9)
              have HCX : Hid (Cr w.heap.size s0 s2 w wr p r s (.slice AP P.length cP) P (.slice A n c) n rl E (10 + 1300 * (rd + 1))) := Lib.hid { HCI.out with calls := by have := HCI.out.calls; omega }
              by_cases hpk : rd < Lp.length
              · have m1 : (rd : Int) < (Lp.length : Int) := by omega
                obtain ⟨gp, op, Bp, dp, ep, kp, hcp1, hcp2, hyp⟩ := rowAll HPK.out hpk
                obtain ⟨bp, hbp⟩ : ∃ bp, bp = Lp[rd] := ⟨_, rfl⟩
                rw [← hbp] at kp hcp1 hyp
                subst ep
                have kp' : wr.cell? ⟨gp, op + rd, none⟩ = some (.slice Bp bp.length dp) := (HCX.out.bel.cell (World.block_lt_of_cell? w _ kp)).trans kp
                have HYP := Lib.hid (show Bytes w Bp bp.length bp ∧ bp.length ≤ dp ∧ dp ≤ maxLen ∧ True from ⟨hyp, hcp1, hcp2, trivial⟩)
                clear kp hcp1 hcp2 hyp hbp
                have HKC := Lib.hid (Crash_any p r s 80 80 E Bp bp.length dp bp wr HCX.out.d (HYP.out.1.below HCX.out.bel) HYP.out.2.1 HYP.out.2.2.1 (fun g o e h0 hT => by have h1 := HFT.out.d g hT; obtain ⟨b9, o9, e9, h9, _⟩ := HYP.out.1.2.2 h0; rw [e] at e9; cases e9; omega))
                obtain ⟨rs2, nx2, hq2, har2⟩ := HHE.out HCX.out.d.ok bp HYP.out.1.2.1
                have HA2 := Lib.hid har2
                have HQ2 := Lib.hid hq2
                clear har2 hq2
                go_wp2_with fail
                go_at_call 37
                refine HKC.out.mono ?_
                rintro e wk ⟨rfl, hdk, huk⟩
                have HCK := Lib.hid (HCX.out.upd HFT.out hdk huk (fun k hk => .inl hk) (c' := 10 + 1300 * (rd + 1)) (by have := HCX.out.calls; show E.calls ≤ _; omega))
                have HOK := Lib.hid (Open_from p r s 80 80 (E.crash bp) 2 80 nx2 rs2 wk hdk HA2.out)
                clear hdk huk
                go_wp2_with fail
                go_at_call 49
                refine HOK.out.mono ?_
                rintro e wl ⟨vq, uq, rfl, hrq, hbq⟩
                have HCL := Lib.hid (HCK.out.below HFT.out hbq)
                have HRQ := Lib.hid hrq.1
                have HRQF := Lib.hid hrq.2
                obtain ⟨Aq, cqq, rfl, _⟩ := id hrq.1
                clear hbq hrq
                obtain rfl : rs2 = rl := HQ2.out
                have HSR := Lib.hid (SameRows_any _ _ _ wl HRQ.out HCL.out.tk.at (by have := HCL.out.tk.1; omega))
                go_wp2_with fail
                go_at_call 52
                refine HSR.out.mono ?_
                rintro e wn ⟨rfl, hbn⟩
                have HCN := Lib.hid (HCL.out.below HFT.out hbn)
                clear hbn
                go_wp2_with fail
                refine ⟨⟨n, at2, rd + 1, A, c, _, _, nx2, rfl, by first | rfl | go_num, by go_num, HCN, HA2, by omega, by omega, by omega⟩, ?_⟩
                show 7 - ((rd : Int) + 1).toNat < 7 - (rd : Int).toNat
                omega
              · have m1 : ¬ (rd : Int) < (Lp.length : Int) := by omega
                have HKC := Lib.hid (Crash_any p r s 80 80 E none 0 0 [] wr HCX.out.d (Bytes.nil _) (Nat.le_refl _) (Nat.zero_le _) (fun g o e h0 hT => by have h1 := HFT.out.d g hT; cases e))
                obtain ⟨rs2, nx2, hq2, har2⟩ := HHE.out HCX.out.d.ok [] (fun x hx => by cases hx)
                have HA2 := Lib.hid har2
                have HQ2 := Lib.hid hq2
                clear har2 hq2
                go_wp2_with fail
                go_at_call 37
                refine HKC.out.mono ?_
                rintro e wk ⟨rfl, hdk, huk⟩
                have HCK := Lib.hid (HCX.out.upd HFT.out hdk huk (fun k hk => .inl hk) (c' := 10 + 1300 * (rd + 1)) (by have := HCX.out.calls; show E.calls ≤ _; omega))
                have HOK := Lib.hid (Open_from p r s 80 80 (E.crash []) 2 80 nx2 rs2 wk hdk HA2.out)
                clear hdk huk
                go_wp2_with fail
                go_at_call 49
                refine HOK.out.mono ?_
                rintro e wl ⟨vq, uq, rfl, hrq, hbq⟩
                have HCL := Lib.hid (HCK.out.below HFT.out hbq)
                have HRQ := Lib.hid hrq.1
                have HRQF := Lib.hid hrq.2
                obtain ⟨Aq, cqq, rfl, _⟩ := id hrq.1
                clear hbq hrq
                obtain rfl : rs2 = rl := HQ2.out
                have HSR := Lib.hid (SameRows_any _ _ _ wl HRQ.out HCL.out.tk.at (by have := HCL.out.tk.1; omega))
                go_wp2_with fail
                go_at_call 52
                refine HSR.out.mono ?_
                rintro e wn ⟨rfl, hbn⟩
                have HCN := Lib.hid (HCL.out.below HFT.out hbn)
                clear hbn
                go_wp2_with fail
                refine ⟨⟨n, at2, rd + 1, A, c, _, _, nx2, rfl, by first | rfl | go_num, by go_num, HCN, HA2, by omega, by omega, by omega⟩, ?_⟩
                show 7 - ((rd : Int) + 1).toNat < 7 - (rd : Int).toNat
                omega
      · have i4 : decide ((rd : Int) < 6) = false := decide_eq_false (by omega)
        go_wp2_with (go_at_call 47; refine (awake3_any _).mono ?_; rintro e w9 ⟨rfl, hb9⟩)
        go_ret
        exact ⟨rfl, HCR.out.bel.trans (hb9.mono HCR.out.top)⟩
    · have i3 : decide ((rd : Int) ≤ (zs.length : Int)) = false := decide_eq_false (by omega)
      go_wp2_with (go_at_call 47; refine (awake3_any _).mono ?_; rintro e w9 ⟨rfl, hb9⟩)
      go_ret
      exact ⟨rfl, HCR.out.bel.trans (hb9.mono HCR.out.top)⟩
section
open Go.ChangeShapes Go.WideShapes Go.ChangeAt
theorem walCrashes_walk {H : Type} {enc : TypeId × Value → H} (W : World) {base : Nat} (v0 v1 v2 : Value) {d0 d1 d2 : DataW H} {p0 p1 p2 : List MemPlace} (h0 : DataW.Trod enc Try.prog W 0 (fun _ => true) true 57 v0 d0 p0) (o0 : Value.okWide Try.prog W .any base 57 v0)
    (h1 : DataW.Trod enc Try.prog W 0 (fun _ => true) true 73 v1 d1 p1) (o1 : Value.okWide Try.prog W .any base 73 v1) (h2 : DataW.Trod enc Try.prog W 0 (fun _ => true) true 57 v2 d2 p2) (o2 : Value.okWide Try.prog W .any base 57 v2) (hk : Rows.uptoBulkAll [d0, d1, d2] ≤ 1048576) :
    Calls Try.prog 21 #[v0, v1, v2] W fun e w' => e = .returned (.bool true) ∧ Below W.heap.size W w' := by
  obtain ⟨La, ha, hla, _⟩ := open_rows h0 o0
  obtain ⟨zs, hz, hlz⟩ := open_nums h1 o1
  obtain ⟨Lp, hp, hlp, _⟩ := open_rows h2 o2
  simp only [Rows.uptoBulkAll] at hk
  exact walCrashes_any v0 v1 v2 La Lp zs W ha hz hp (by omega) (by omega) (by omega)
end
end Go.Proofs.Ytiiegimnnngnnaa
