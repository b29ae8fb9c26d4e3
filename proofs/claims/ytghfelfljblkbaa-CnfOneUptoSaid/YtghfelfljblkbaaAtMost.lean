/- cnf: AtMost, the walk. -/
import Derived.Test.YtghfelfljblkbaaAtM
namespace Go.Proofs.Ytghfelfljblkbaa
open Go.RowKit Go.Sort
set_option linter.unusedVariables false

set_option maxRecDepth 100000 in
set_option maxHeartbeats 2000000 in
theorem AtMost_any (p cap n : Nat) (A : Option Addr) (L : List (List Int)) (B : Option Addr) (m c : Nat) (zs : List Int) (w : World) (h : SetAt w p A cap n L) (hz : Lits w B m zs) (hm : m ≤ 1048576) :
    Calls Try.prog 33 #[.pointer (some ⟨p, 0, none⟩), .slice B m c] w fun e w' => e = .returned (.bool (atL n L zs).1) ∧ Upd (sF p A) w w' ∧ ∃ A' cap', SetAt w' p A' cap' n (atL n L zs).2 ∧ ∀ k, sF p A' k → sF p A k ∨ w.heap.size ≤ k := by
  obtain ⟨i0, hi0, hz0, hz1, hz2⟩ := info_parts lit_row
  have HM := Lib.hid (may_any p cap n A L B m c zs w h hz hm)
  have HS := Lib.hid h
  have HZ := Lib.hid hz
  have HZL := Lib.hid hz.1
  unfold atL
  cases hmay : mayL n L zs with
  | false =>
    rw [hmay] at HM
    rw [if_neg (by decide)]
    clear h hz hmay
    go_enter Try.func33, Try.ntmps33
    go_wp2_with (go_at_call 74; refine HM.out.mono ?_; rintro e w1 ⟨rfl, hb1⟩)
    go_ret
    exact ⟨rfl, Upd.of_quiet hb1, A, cap, HS.out.below hb1, fun k hk => .inl hk⟩
  | true =>
    rw [hmay] at HM
    rw [if_pos rfl]
    have HSM := Lib.hid (may_small h.n hz.2.1 hmay)
    obtain ⟨R, hR⟩ : ∃ R, R = outr n (uqs zs) L := ⟨_, rfl⟩
    rw [← hR]
    have HR := Lib.hid hR
    clear h hz hmay hR
    go_enter Try.func33, Try.ntmps33
    go_wp2_with fail
    go_at_call 74
    refine HM.out.mono ?_
    rintro e w1 ⟨rfl, hb1⟩
    have HB1 := Lib.hid hb1
    clear hb1 HM
    go_wp2_with fail
    go_loopw [5, 18] (fun u t wr => ∃ (i k : Nat) (U : Option Addr) (cu : Nat) (us : List Int), u = .slice U k cu ∧ t = .int .i64 (i : Int) ∧ i ≤ m ∧ k ≤ i ∧ Hid (us.length = k) ∧ Hid (us = uqs (zs.take i)) ∧ Hid (wr.ownsRow w.heap.size 37 1 (.slice U k cu) k (us.map (Value.int .i64))) ∧ Hid (Below w.heap.size w wr)) (fun _ t _ => m - (match t with | .int _ x => x.toNat | _ => 0))
    case atStart => exact ⟨0, 0, none, 0, [], rfl, rfl, Nat.zero_le _, Nat.le_refl _, Lib.hid rfl, Lib.hid rfl, Lib.hid (World.ownsRow_nil _ _ _ _), HB1⟩
    case round =>
      obtain ⟨i, k, U, cu, us, rfl, rfl, hi, hk, HK, HU, HO, HB⟩ := hrel
      clear HB1
      have husok : ∀ z ∈ us, Ok z := fun z hz' => by
        rw [HU.out] at hz'
        have := (uqf_mem (zs.take i) [] z).1 hz'
        rcases this with h | h
        · cases h
        · exact HZ.out.2.1 z (List.mem_of_mem_take h)
      have HUO := Lib.hid husok
      clear husok
      have hown : OwnL wr w.heap.size (.slice U k cu) us := by unfold OwnL; rw [HK.out]; exact HO.out
      by_cases hlt : i < m
      · obtain ⟨x, hx⟩ : ∃ x, x = zs.getD i 0 := ⟨_, rfl⟩
        have HX := Lib.hid hx
        obtain ⟨b, o, e, hbl, hc⟩ := HZ.out.2.2 (by omega)
        subst e
        have kx : wr.cell? ⟨b, o + i, none⟩ = some (.int .i64 x) := by rw [hx]; exact (HB.out.cell hbl).trans (hc i hlt)
        have i1 : (i : Int) < (m : Int) := by omega
        obtain ⟨U', c', hv, hl, _⟩ := OwnL.lits hown HUO.out
        rw [HK.out] at hv hl
        cases hv
        have HC := Lib.hid (contains_any U k cu us x wr hl (by omega))
        have HSTEP : Hid (uqs (zs.take (i + 1)) = uq us x) := Lib.hid (by rw [uqs_step zs i (by have := HZL.out; omega), ← HU.out, ← HX.out])
        clear hx hc hbl hl hown
        by_cases hin : x ∈ us
        · rw [decide_eq_true hin] at HC
          have HE : Hid (us = uqs (zs.take (i + 1))) := Lib.hid (by rw [HSTEP.out]; unfold uq; rw [if_pos hin])
          clear hin
          go_wp2_with (go_at_call 76; refine HC.out.mono ?_; rintro e w2 ⟨rfl, rfl⟩)
          refine ⟨⟨i + 1, k, U, cu, us, rfl, by go_num, by omega, by omega, HK, HE, HO, HB⟩, ?_⟩
          show m - ((i : Int) + 1).toNat < m - (i : Int).toNat
          omega
        · rw [decide_eq_false hin] at HC
          have HE : Hid (us ++ [x] = uqs (zs.take (i + 1))) := Lib.hid (by rw [HSTEP.out]; unfold uq; rw [if_neg hin])
          have HSZ := Lib.hid HB.out.size
          clear hin
          go_wp2_with (first
            | (go_at_call 76; refine HC.out.mono ?_; rintro e w2 ⟨rfl, rfl⟩)
            | (at_builtin; refine wpList_append_any _ rfl (.tmp 26) (.tmp 28) 22 rfl w.heap.size 37 i0 _ 1 8 Try.underlying22 hi0 hz0 hz1 hz2 rfl (by decide) _ k _ rfl (HO.out.alloc _) (wr.heap.size + 1) (some ⟨wr.heap.size, 0, none⟩) 1 1 [.int .i64 x] rfl (reads_one (Blk.new _ _ _) (by omega)) (ints_one [x]) (by unfold maxLen; omega) (by omega) (Nat.le_trans HSZ.out (by simp)) ?_; intro v5 w5 hown5 hg5 hat5; have HOW5 := Lib.hid hown5; have HU5 : Hid (Upd (fun j => (Value.slice U 0 0).ownBlock = some j) wr w5) := Lib.hid (((Upd.refl _ wr).alloc _).grown hg5 (fun j hj => .inl (by rw [← hj]; exact ownB))); obtain ⟨A5, c5, rfl⟩ := ownL_shape hown5; clear hown5 hg5 hat5))
          have hb5 : Below w.heap.size w w5 := HB.out.trans (HU5.out.below (fun j hj => (HO.out.lt j (by rw [← hj]; exact ownB)).1) HSZ.out)
          refine ⟨⟨i + 1, k + 1, A5, c5, us ++ [x], rfl, by go_num, by omega, by omega, Lib.hid (by rw [List.length_append, HK.out]; rfl), HE, Lib.hid (by rw [List.map_append]; exact HOW5.out), Lib.hid hb5⟩, ?_⟩
          show m - ((i : Int) + 1).toNat < m - (i : Int).toNat
          omega
      · obtain rfl : i = m := by omega
        have hue : us = uqs zs := by rw [HU.out, List.take_of_length_le (by have := HZL.out; omega)]
        obtain ⟨U', c', hv, hl, hkc, _, hli⟩ := OwnL.lits2 hown HUO.out
        rw [HK.out] at hv hl hkc
        cases hv
        have HFX : Hid (Fix wr U k us) := Lib.hid ⟨hl, fun g o e => (hli g o e).2⟩
        have HSM2 : Hid (∀ z ∈ us, -200 ≤ z ∧ z ≤ 200) := Lib.hid (fun z hz' => by
          rw [hue] at hz'
          rcases (uqf_mem zs [] z).1 hz' with h | h
          · cases h
          · exact HSM.out z h)
        have HRR : Hid (outr n (us.drop 0) L = R) := Lib.hid (by rw [List.drop_zero, hue]; exact HR.out.symm)
        have HSR := Lib.hid (HS.out.below HB.out)
        have HUPD : Hid (Upd (sF p A) w wr) := Lib.hid (Upd.of_quiet HB.out)
        clear hue hl hli hown HSM HR HU HO HUO HS HZ HZL HB
        go_wp2_with fail
        go_loopw [33] (fun t wx => ∃ (i : Nat) (A' : Option Addr) (cap' : Nat) (L' : List (List Int)), t = .int .i64 (i : Int) ∧ i ≤ k ∧ Hid (SetAt wx p A' cap' n L') ∧ Hid (∀ k, sF p A' k → sF p A k ∨ w.heap.size ≤ k) ∧ Hid (Upd (sF p A) w wx) ∧ Hid (Fix wx U k us) ∧ Hid (outr n (us.drop i) L' = R)) (fun t _ => k - (match t with | .int _ x => x.toNat | _ => 0))
        case atStart => exact ⟨0, A, cap, L, rfl, Nat.zero_le _, HSR, Lib.hid (fun k hk => .inl hk), HUPD, HFX, HRR⟩
        case round =>
          obtain ⟨i, A', cap', L', rfl, hi', HS', HF', HU', HX', HR'⟩ := hrel
          clear HSR HUPD HFX HRR
          by_cases hlt' : i < k
          · obtain ⟨b, o, e, hbl, hc⟩ := HX'.out.l.2.2 (by omega)
            subst e
            obtain ⟨a, ha⟩ : ∃ a, a = us.getD i 0 := ⟨_, rfl⟩
            have ka : wr.cell? ⟨b, o + i, none⟩ = some (.int .i64 a) := by rw [ha]; exact hc i hlt'
            have i1 : (i : Int) < (k : Int) := by omega
            have HA := Lib.hid ha
            have hab := HSM2.out a (by
              rw [ha, List.getD_eq_getElem?_getD, List.getElem?_eq_getElem (by have := HK.out; omega)]
              exact List.getElem_mem _)
            have hna1 : -9223372036854775808 ≤ -a := by omega
            have hna2 : -a ≤ 9223372036854775807 := by omega
            have hao : Ok (-a) := ⟨hna1, hna2⟩
            clear ha hab hc hbl
            obtain ⟨Q, hQ⟩ : ∃ Q, Q = inn n a (us.drop (i + 1)) L' := ⟨_, rfl⟩
            have HQR : Hid (R = if Q.1 then outr n (us.drop (i + 1)) Q.2 else (false, Q.2)) := Lib.hid (by
              rw [hQ, ← HR'.out, outr_step n us i (by have := HK.out; omega), ← HA.out])
            have HQ0 : Hid (inn n a ((us.drop (i + 1)).drop 0) L' = Q) := Lib.hid (by rw [List.drop_zero]; exact hQ.symm)
            clear hQ HR'
            by_cases hcu : cu = i + 1
            · have hki : k = i + 1 := by omega
              have HQE : Hid (Q = (true, L')) := Lib.hid (by
                rw [← HQ0.out, List.drop_zero, List.drop_of_length_le (by have := HK.out; omega)]; rfl)
              have HRN : Hid (outr n (us.drop (i + 1)) L' = R) := Lib.hid (by rw [HQR.out, HQE.out]; rfl)
              clear HQ0 HQR HQE
              subst hcu
              have hk0 : k - (i + 1) = 0 := by omega
              have hk1 : k ≤ i + 1 := by omega
              clear hki
              go_wp2_with fail
              go_loopw [43] (fun t wx => t = .int .i64 0 ∧ wx = wr) (fun t _ => match t with | .int _ x => x.toNat | _ => 0)
              case atStart => exact ⟨rfl, rfl⟩
              case round =>
                obtain ⟨rfl, rfl⟩ := hrel
                go_wp2_with fail
                refine ⟨⟨i + 1, A', cap', L', by go_num, by omega, HS', HF', HU', HX', HRN⟩, ?_⟩
                show k - ((i : Int) + 1).toNat < k - (i : Int).toNat
                omega
            · have hkc' : k - (i + 1) ≤ cu := by omega
              obtain ⟨q, hq⟩ : ∃ q, q = k - (i + 1) := ⟨_, rfl⟩
              go_wp2_with fail
              rw [← hq]
              have hqk : q + (i + 1) = k := by omega
              clear hq hkc'
              go_loopw [43] (fun t wx => ∃ (j : Nat) (A2 : Option Addr) (c2 : Nat) (L2 : List (List Int)), t = .int .i64 (j : Int) ∧ j ≤ q ∧ Hid (SetAt wx p A2 c2 n L2) ∧ Hid (∀ k, sF p A2 k → sF p A k ∨ w.heap.size ≤ k) ∧ Hid (Upd (sF p A) w wx) ∧ Hid (Fix wx (some ⟨b, o, none⟩) k us) ∧ Hid (inn n a ((us.drop (i + 1)).drop j) L2 = Q)) (fun t _ => q - (match t with | .int _ x => x.toNat | _ => 0))
              case atStart => exact ⟨0, A', cap', L', rfl, Nat.zero_le _, HS', HF', HU', HX', HQ0⟩
              case round =>
                obtain ⟨j, A2, c2, L2, rfl, hj, HS2, HF2, HU2, HX2, HQ2⟩ := hrel
                clear HS' HF' HU' HX' HQ0 ka
                by_cases hjq : j < q
                · obtain ⟨y, hy⟩ : ∃ y, y = us.getD (i + 1 + j) 0 := ⟨_, rfl⟩
                  have ky : wr.cell? ⟨b, o + (i + 1) + j, none⟩ = some (.int .i64 y) := by
                    obtain ⟨b', o', e', _, hc⟩ := HX2.out.l.2.2 (by omega)
                    cases e'
                    rw [hy, Nat.add_assoc o (i + 1) j]
                    exact hc (i + 1 + j) (by omega)
                  have hyb := HSM2.out y (by
                    rw [hy, List.getD_eq_getElem?_getD, List.getElem?_eq_getElem (by have := HK.out; omega)]
                    exact List.getElem_mem _)
                  have hny1 : -9223372036854775808 ≤ -y := by omega
                  have hny2 : -y ≤ 9223372036854775807 := by omega
                  have j1 : (j : Int) < (q : Int) := by omega
                  have HQS : Hid (Q = if mayL n L2 [-a, -y] then inn n a ((us.drop (i + 1)).drop (j + 1)) (addL n L2 [-a, -y]) else (false, L2)) := Lib.hid (by
                    rw [← HQ2.out, inn_step n a (us.drop (i + 1)) j (by rw [List.length_drop]; have := HK.out; omega), show (us.drop (i + 1)).getD j 0 = y by rw [hy, List.getD_eq_getElem?_getD, List.getElem?_drop, List.getD_eq_getElem?_getD]])
                  have hbw : Below wr.heap.size wr (wr.alloc (.cells #[.int .i64 (-a), .int .i64 (-y)] 37)) := (Below.refl _ _).alloc (Nat.le_refl _) _
                  have HAD := Lib.hid (Add_any p c2 n A2 L2 (some ⟨wr.heap.size, 0, none⟩) 2 2 [-a, -y] _ (HS2.out.below hbw) (two_lits wr (-a) (-y) hao ⟨hny1, hny2⟩) (by omega))
                  have HFXB := Lib.hid (HX2.out.below hbw)
                  have HNO := Lib.hid (HS2.out.below hbw).no_isL
                  have HUB : Hid (Upd (sF p A) w (wr.alloc (.cells #[.int .i64 (-a), .int .i64 (-y)] 37))) := Lib.hid (HU2.out.alloc _)
                  obtain ⟨bb, hbb⟩ : ∃ bb, bb = mayL n L2 [-a, -y] := ⟨_, rfl⟩
                  rw [← hbb] at HAD HQS
                  have HBB := Lib.hid hbb
                  clear hy hyb hbw hbb HS2 HU2 HX2 HQ2
                  cases bb with
                  | false =>
                    go_wp2_with (go_at_call 28; refine HAD.out.mono ?_; rintro e w4 ⟨rfl, hu4, A4, c4, hs4, hf4⟩)
                    go_ret
                    have hR : R = (false, L2) := by rw [HQR.out, HQS.out]; rfl
                    rw [add_no HBB.out.symm] at hs4
                    refine ⟨by rw [hR]; rfl, HUB.out.comp hu4 HF2.out, A4, c4, by rw [hR]; exact hs4, fun k hk => ?_⟩
                    rcases hf4 k hk with h | h
                    · exact HF2.out k h
                    · exact .inr (Nat.le_trans HUB.out.size h)
                  | true =>
                    go_wp2_with (go_at_call 28; refine HAD.out.mono ?_; rintro e w4 ⟨rfl, hu4, A4, c4, hs4, hf4⟩)
                    refine ⟨⟨j + 1, A4, c4, addL n L2 [-a, -y], by go_num, by omega, Lib.hid hs4, Lib.hid (fun k hk => ?_), Lib.hid (HUB.out.comp hu4 HF2.out), Lib.hid (HFXB.out.upd hu4 HNO.out), Lib.hid (by rw [HQS.out]; rfl)⟩, ?_⟩
                    · rcases hf4 k hk with h | h
                      · exact HF2.out k h
                      · exact .inr (Nat.le_trans HUB.out.size h)
                    · show q - ((j : Int) + 1).toNat < q - (j : Int).toNat
                      omega
                · have HQE : Hid (Q = (true, L2)) := Lib.hid (by
                    rw [← HQ2.out, List.drop_drop, List.drop_of_length_le (by have := HK.out; omega)]; rfl)
                  have HRN : Hid (outr n (us.drop (i + 1)) L2 = R) := Lib.hid (by rw [HQR.out, HQE.out]; rfl)
                  have hjq' : (j : Int) = (q : Int) := by omega
                  clear HQ2 HQR HQE
                  go_wp2_with fail
                  refine ⟨⟨i + 1, A2, c2, L2, by go_num, by omega, HS2, HF2, HU2, HX2, HRN⟩, ?_⟩
                  show k - ((i : Int) + 1).toNat < k - (i : Int).toNat
                  omega
          · have HRN : Hid (R = (true, L')) := Lib.hid (by
              rw [← HR'.out, List.drop_of_length_le (by have := HK.out; omega)]; rfl)
            clear HR'
            go_wp2_with fail
            go_ret
            refine ⟨by rw [HRN.out]; rfl, HU'.out, A', cap', by rw [HRN.out]; exact HS'.out, HF'.out⟩
end Go.Proofs.Ytghfelfljblkbaa
