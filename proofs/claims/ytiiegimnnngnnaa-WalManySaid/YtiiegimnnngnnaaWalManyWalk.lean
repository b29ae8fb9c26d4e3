/- WalMany: the walk. -/
import Derived.Test.YtiiegimnnngnnaaWalOrderWalk
namespace Go.Proofs.Ytiiegimnnngnnaa
open Go.RowKit
set_option linter.unusedVariables false

/-- The log, open on a disk of 600 sectors, holds i records of one byte each. -/
structure Many (w0 w : World) (p r s cr cs l g cap : Nat) (i : Nat) (D : Dk) (L : Wl.Lg) (rs : List (List Nat)) : Prop where
  sys : Sys w p r s cr cs l g cap D L
  holds : Wl.Holds D L rs
  len : rs.length = min i 512
  next : L.next = 1 + min i 512
  fr : L.fr = 0
  to : L.to = 600
  fuse : D.fuse = 0
  calls : D.calls ≤ 2 + 200 * i
  bel : Below w0.heap.size w0 w
theorem one_need (x : Nat) : Wl.need [x].length = 1 := by simp [Wl.need]
set_option maxRecDepth 100000 in
set_option maxHeartbeats 1000000 in
theorem walMany_any (a : Int) (w : World) :
    Calls Try.prog 15 #[.int .i64 a] w fun e w' => e = .returned (.bool true) ∧ Below w.heap.size w w' := by
  obtain ⟨N, hN, hN12⟩ := small_k a 12 (by omega) (by omega)
  have hN' : (IntKind.u64.wrap a).tmod 12 = (N : Int) := hN
  clear hN
  have HN := Lib.hid (New_any 600 600 (by decide) (by decide) (by decide) w)
  go_enter Try.func15, Try.ntmps15
  go_wp2_with fail
  go_at_call 30
  refine HN.out.mono ?_
  rintro e w1 ⟨p, r, s, rfl, hd1, hb1, hp, hr, hs⟩
  have HB1 := Lib.hid hb1
  have HF := Lib.hid (Format_good p r s 600 600 (Dk.new 600) 0 600 w1 hd1 rfl rfl (by omega) (by simp [Dk.new]) (by simp [Dk.new]))
  have HP := Lib.hid (show w.heap.size ≤ p ∧ w.heap.size ≤ r ∧ w.heap.size ≤ s from ⟨hp, hr, hs⟩)
  clear hb1 hd1 hp hr hs
  go_wp2_with fail
  go_at_call 48
  refine HF.out.mono ?_
  rintro e w2 ⟨D2, rfl, hd2, hu2, ha2, hn2, hf2, hc2, _, _⟩
  have HB2 := Lib.hid (HB1.out.trans (hu2.below (dT_far HP.out) HB1.out.size))
  have HO := Lib.hid (Open_area p r s 600 600 D2 0 600 1 [] w2 hd2 ha2)
  have HD2 := Lib.hid hd2
  have HA2 := Lib.hid ha2
  have hc2' : D2.calls = 2 := hc2
  have HC2 := Lib.hid (And.intro hf2 hc2')
  clear hd2 hu2 ha2 hn2 hf2 hc2 hc2'
  go_wp2_with fail
  go_at_call 49
  refine HO.out.mono ?_
  rintro e w3 ⟨l, g, cap, v, rfl, hl3, hr3, h1, h2, hb3⟩
  have hs3 := opened HD2.out hb3 hl3 h1 h2
  have hB3 := HB2.out.trans (hb3.mono HB2.out.size)
  have HLG := Lib.hid (show w.heap.size ≤ l ∧ w.heap.size ≤ g from ⟨Nat.le_trans HB2.out.size h1, Nat.le_trans HB2.out.size h2⟩)
  have HM0 : Hid (Many w w3 p r s 600 600 l g cap 0 D2 ⟨0, 600, ([] : List (List Nat)).length, 1, fun k => D2.R (64 * 0 + k), false⟩ []) := Lib.hid ⟨hs3, HA2.out.holds, rfl, rfl, rfl, rfl, HC2.out.1, by rw [HC2.out.2]; omega, hB3⟩
  clear hl3 hr3 h1 h2 hb3 hs3 hB3
  obtain ⟨M, hM⟩ : ∃ M, M = 505 + N := ⟨_, rfl⟩
  have hM' : 505 + (N : Int) = (M : Int) := by omega
  have hM2 : M ≤ 516 := by omega
  clear hM
  go_wp2_with fail
  clear hN' hM'
  go_loopw [33] (fun v wr => ∃ (i : Nat) (D : Dk) (L : Wl.Lg) (rs : List (List Nat)), v = .int .i64 i ∧ Hid (Many w wr p r s 600 600 l g cap i D L rs) ∧ i ≤ M) (fun v _ => M - (match v with | .int _ x => x.toNat | _ => 0))
  case atStart => exact ⟨0, _, _, _, rfl, HM0, Nat.zero_le _⟩
  case round =>
    obtain ⟨i, D, L, rs, rfl, HM, hiM⟩ := hrel
    by_cases hlt : i < M
    · have hby := Bytes.of_new wr #[.int .u8 ((i : Int) % 256)] 5 (0, 0) 1 [i % 256] rfl (by simp; omega) (by simp)
      have hW : Below wr.heap.size wr (wr.alloc (.cells #[.int .u8 ((i : Int) % 256)] 5)) := (Below.refl _ _).alloc (Nat.le_refl _) _
      have hap := Append_good l g cap p r s 600 600 D L rs (some ⟨wr.heap.size, 0, none⟩) 1 1 [i % 256] _ (HM.out.sys.below hW) HM.out.holds HM.out.fuse hby (by omega) (by have := HM.out.calls; omega)
      have HW := Lib.hid hW
      have hLn := HM.out.holds.n
      have hlen := HM.out.len
      by_cases h5 : i < 512
      · have h5' : (i : Int) < 512 := by omega
        have eo : Wl.appOut L [i % 256] = 0 := by
          unfold Wl.appOut
          rw [if_neg (by simp), if_neg (by rw [one_need, HM.out.next, HM.out.to]; omega)]
        rw [eo] at hap
        have HAP := Lib.hid hap
        clear hap eo hby hW hLn hlen h5
        go_wp2_with fail
        go_at_call 50
        refine HAP.out.mono ?_
        rintro e w4 ⟨D4, L4, rfl, hs4, hu4, hn4, hf4, hfr4, hto4, hc4, _, _, hdn4⟩
        have hdone := hdn4 trivial
        have HM4 : Hid (Many w w4 p r s 600 600 l g cap (i + 1) D4 L4 (rs ++ [[i % 256]])) := Lib.hid ⟨hs4, hdone.holds, by rw [List.length_append, HM.out.len]; show min i 512 + 1 = _; omega, by rw [hdone.next, one_need, HM.out.next]; omega, by rw [hfr4, HM.out.fr], by rw [hto4, HM.out.to], hf4, by have := HM.out.calls; omega,
          (HM.out.bel.trans (HW.out.mono HM.out.bel.size)).trans (hu4.below (blk_far HP.out HLG.out) (Nat.le_trans HM.out.bel.size HW.out.size))⟩
        clear hs4 hu4 hn4 hf4 hfr4 hto4 hc4 hdn4 hdone
        go_wp2_with fail
        refine ⟨⟨i + 1, D4, L4, _, by go_num, HM4, by omega⟩, ?_⟩
        show M - ((i : Int) + 1).toNat < M - (i : Int).toNat
        omega
      · have h5' : (512 : Int) ≤ (i : Int) := by omega
        have eo : Wl.appOut L [i % 256] = 6 := by
          unfold Wl.appOut
          rw [if_neg (by simp), if_pos (.inl (by omega))]
        rw [eo] at hap
        have HAP := Lib.hid hap
        have h512 : min (i + 1) 512 = min i 512 := by omega
        have H512 := Lib.hid h512
        clear hap eo hby hW hLn hlen h5 h512
        go_wp2_with fail
        go_at_call 50
        refine HAP.out.mono ?_
        rintro e w4 ⟨D4, L4, rfl, hs4, hu4, hn4, hf4, hfr4, hto4, hc4, _, hsame, _⟩
        obtain ⟨e4, e5⟩ := hsame (by decide)
        have HM4 : Hid (Many w w4 p r s 600 600 l g cap (i + 1) D4 L4 rs) := Lib.hid ⟨hs4, by rw [e4, e5]; exact HM.out.holds, by rw [H512.out]; exact HM.out.len, by rw [H512.out, e5]; exact HM.out.next, by rw [hfr4, HM.out.fr], by rw [hto4, HM.out.to], hf4, by have := HM.out.calls; omega,
          (HM.out.bel.trans (HW.out.mono HM.out.bel.size)).trans (hu4.below (blk_far HP.out HLG.out) (Nat.le_trans HM.out.bel.size HW.out.size))⟩
        clear hs4 hu4 hn4 hf4 hfr4 hto4 hc4 hsame e4 e5
        go_wp2_with fail
        refine ⟨⟨i + 1, D4, L4, _, by go_num, HM4, by omega⟩, ?_⟩
        show M - ((i : Int) + 1).toNat < M - (i : Int).toNat
        omega
    · have hiM2 : i = M := by omega
      subst hiM2
      have ha := HM.out.holds.area
      rw [HM.out.fr, HM.out.to] at ha
      have HO4 := Lib.hid (Open_area p r s 600 600 D 0 600 L.next rs wr HM.out.sys.d ha)
      clear ha
      by_cases h5 : i ≤ 512
      · have h5' : (i : Int) ≤ 512 := by omega
        have HLEN : Hid (rs.length = i) := Lib.hid (by rw [HM.out.len]; omega)
        go_wp2_with fail
        go_at_call 49
        refine HO4.out.mono ?_
        rintro e w5 ⟨l5, g5, cap5, v5, rfl, hl5, hr5, h1, h2, hb5⟩
        have HB5 := Lib.hid (HM.out.bel.trans (hb5.mono HM.out.bel.size))
        obtain ⟨A5, c5, rfl, _⟩ := hr5
        rw [HLEN.out]
        clear hl5 h1 h2 hb5
        go_wp2_with (go_at_call 47; refine (awake3_any _).mono ?_; rintro e w7 ⟨rfl, hb7⟩)
        go_ret
        exact ⟨rfl, HB5.out.trans (hb7.mono HB5.out.size)⟩
      · have h5' : (512 : Int) < (i : Int) := by omega
        have HLEN : Hid (rs.length = 512) := Lib.hid (by rw [HM.out.len]; omega)
        go_wp2_with fail
        go_at_call 49
        refine HO4.out.mono ?_
        rintro e w5 ⟨l5, g5, cap5, v5, rfl, hl5, hr5, h1, h2, hb5⟩
        have HB5 := Lib.hid (HM.out.bel.trans (hb5.mono HM.out.bel.size))
        obtain ⟨A5, c5, rfl, _⟩ := hr5
        rw [HLEN.out]
        clear hl5 h1 h2 hb5
        go_wp2_with (go_at_call 47; refine (awake3_any _).mono ?_; rintro e w7 ⟨rfl, hb7⟩)
        go_ret
        exact ⟨rfl, HB5.out.trans (hb7.mono HB5.out.size)⟩
section
open Go.ChangeShapes Go.WideShapes Go.ChangeAt
theorem walMany_walk {H : Type} {enc : TypeId × Value → H} (W : World) {base : Nat} (v0 : Value) {d0 : DataW H} {p0 : List MemPlace} (h0 : DataW.Trod enc Try.prog W 0 (fun _ => true) true 3 v0 d0 p0) (o0 : Value.okWide Try.prog W .any base 3 v0) :
    Calls Try.prog 15 #[v0] W fun e w' => e = .returned (.bool true) ∧ Below W.heap.size W w' := by
  obtain ⟨n, rfl, rfl, rfl, wn⟩ := open_int Try.underlying3 o0 h0
  exact walMany_any n W
end
end Go.Proofs.Ytiiegimnnngnnaa
