/- The reference's AtMost. -/
import Derived.Test.YtghfelfljblkbaaAtM
import Derived.Test.YtghfelfljblkbaaBoth
namespace Go.Proofs.Ytghfelfljblkbaa
open Go.RowKit Go.Sort
set_option linter.unusedVariables false

theorem mem_take_succ {us : List Int} {j : Nat} {x : Int} (hj : j < us.length) : decide (x ∈ us.take (j + 1)) = (decide (x ∈ us.take j) || decide (x = us.getD j 0)) := by
  have h1 : us.take (j + 1) = us.take j ++ [us[j]] := by rw [List.take_add_one, List.getElem?_eq_getElem hj]; rfl
  have h2 : us.getD j 0 = us[j] := by rw [List.getD_eq_getElem?_getD, List.getElem?_eq_getElem hj]; rfl
  rw [h1, h2, Bool.eq_iff_iff, Bool.or_eq_true, decide_eq_true_eq, decide_eq_true_eq, decide_eq_true_eq, List.mem_append, List.mem_singleton]
set_option maxRecDepth 100000 in
set_option maxHeartbeats 2000000 in
theorem RAtMost_any (p cap n : Nat) (A : Option Addr) (L : List (List Int)) (B : Option Addr) (m c : Nat) (zs : List Int) (w : World) (h : RSetAt w p A cap n L) (hz : Lits w B m zs) (hm : m ≤ 1048576) :
    Calls Try.prog 36 #[.pointer (some ⟨p, 0, none⟩), .slice B m c] w fun e w' => e = .returned (.bool (atL n L zs).1) ∧ Upd (sF p A) w w' ∧ ∃ A' cap', RSetAt w' p A' cap' n (atL n L zs).2 ∧ ∀ k, sF p A' k → sF p A k ∨ w.heap.size ≤ k := by
  obtain ⟨i0, hi0, hz0, hz1, hz2⟩ := info_parts lit_row
  have HS := Lib.hid h
  have HZ := Lib.hid hz
  have HZL := Lib.hid hz.1
  have hn := h.n
  obtain ⟨R, hR⟩ : ∃ R, R = atL n L zs := ⟨_, rfl⟩
  rw [← hR]
  have HR := Lib.hid hR
  have HNO : Hid (mayL n L zs = false → R = (false, L)) := Lib.hid (fun h9 => by rw [hR]; unfold atL; rw [h9]; rfl)
  have HYES : Hid (mayL n L zs = true → R = outr n (uqs zs) L) := Lib.hid (fun h9 => by rw [hR]; unfold atL; rw [h9]; rfl)
  clear h hz hR
  go_enter Try.func36, Try.ntmps36
  go_wp2_with fail
  go_loopw [5, 17] (fun u t wr => ∃ (i k : Nat) (U : Option Addr) (cu : Nat) (us : List Int), u = .slice U k cu ∧ t = .int .i64 (i : Int) ∧ i ≤ m ∧ k ≤ i ∧ Hid (us.length = k) ∧ Hid (us = uqs (zs.take i)) ∧ Hid (∀ j, j < i → offL n (zs.getD j 0) = false) ∧ Hid (wr.ownsRow w.heap.size 37 1 (.slice U k cu) k (us.map (Value.int .i64))) ∧ Hid (Below w.heap.size w wr)) (fun _ t _ => m - (match t with | .int _ x => x.toNat | _ => 0))
  case atStart => exact ⟨0, 0, none, 0, [], rfl, rfl, Nat.zero_le _, Nat.le_refl _, Lib.hid rfl, Lib.hid rfl, Lib.hid (fun j hj => by omega), Lib.hid (World.ownsRow_nil _ _ _ _), Lib.hid (Below.refl _ _)⟩
  case round =>
    obtain ⟨i, k, U, cu, us, rfl, rfl, hi, hk, HK, HU, HI, HO, HB⟩ := hrel
    have husok : ∀ z ∈ us, Ok z := fun z hz' => by
      rw [HU.out] at hz'
      have := (uqf_mem (zs.take i) [] z).1 hz'
      rcases this with h | h
      · cases h
      · exact HZ.out.2.1 z (List.mem_of_mem_take h)
    have HUO := Lib.hid husok
    clear husok
    by_cases hlt : i < m
    · obtain ⟨x, hx⟩ : ∃ x, x = zs.getD i 0 := ⟨_, rfl⟩
      have HX := Lib.hid hx
      obtain ⟨b, o, e, hbl, hc⟩ := HZ.out.2.2 (by omega)
      subst e
      have kx : wr.cell? ⟨b, o + i, none⟩ = some (.int .i64 x) := by rw [hx]; exact (HB.out.cell hbl).trans (hc i hlt)
      have i1 : (i : Int) < (m : Int) := by omega
      have hxo : Ok x := by rw [hx]; exact HZ.out.ok i
      have HM := RMay_any p cap n A L x wr (HS.out.below HB.out) hxo
      obtain ⟨ob, hob⟩ : ∃ ob, ob = offL n x := ⟨_, rfl⟩
      rw [← hob] at HM
      have HMY := Lib.hid HM
      have HOB := Lib.hid hob
      have HSTEP : Hid (uqs (zs.take (i + 1)) = uq us x) := Lib.hid (by rw [uqs_step zs i (by have := HZL.out; omega), ← HU.out, ← HX.out])
      clear HM hob hx hc hbl hxo
      cases ob with
      | true =>
        have hRF : R = (false, L) := HNO.out (by
          unfold mayL
          have : zs.any (offL n) = true := by
            rw [List.any_eq_true]
            refine ⟨x, ?_, HOB.out.symm⟩
            rw [HX.out, List.getD_eq_getElem?_getD, List.getElem?_eq_getElem (by have := HZL.out; omega)]
            exact List.getElem_mem _
          rw [this]; simp)
        have HRF := Lib.hid hRF
        clear hRF HR HNO HYES
        go_wp2_with (go_at_call 77; refine HMY.out.mono ?_; rintro e w2 ⟨rfl, q, rfl⟩)
        go_ret
        have hb9 : Below w.heap.size w (wr.drewN q) := HB.out.trans ⟨rfl, rfl, rfl, Nat.le_refl _, fun _ _ => rfl⟩
        exact ⟨by rw [HRF.out]; rfl, Upd.of_quiet hb9, A, cap, by rw [HRF.out]; exact HS.out.below hb9, fun k hk => .inl hk⟩
      | false =>
        go_wp2_with fail
        go_at_call 77
        refine HMY.out.mono ?_
        rintro e w2 ⟨rfl, q, hw2⟩
        have hb2 : Below w.heap.size w w2 := by rw [hw2]; exact HB.out.trans ⟨rfl, rfl, rfl, Nat.le_refl _, fun _ _ => rfl⟩
        have hbr : Below wr.heap.size wr w2 := by rw [hw2]; exact ⟨rfl, rfl, rfl, Nat.le_refl _, fun _ _ => rfl⟩
        have HB2 := Lib.hid hb2
        have HO2 : Hid (w2.ownsRow w.heap.size 37 1 (.slice U k cu) k (us.map (Value.int .i64))) := Lib.hid (ownL_later HO.out hbr)
        have hown : OwnL w2 w.heap.size (.slice U k cu) us := by unfold OwnL; rw [HK.out]; exact HO2.out
        obtain ⟨U', c', hv, hl, _⟩ := OwnL.lits hown HUO.out
        rw [HK.out] at hv hl
        cases hv
        have HLU := Lib.hid hl
        have HI' : Hid (∀ j, j < i + 1 → offL n (zs.getD j 0) = false) := Lib.hid (fun j hj => by
          rcases Nat.lt_or_ge j i with h | h
          · exact HI.out j h
          · have e : j = i := by omega
            rw [e, ← HX.out]
            exact HOB.out.symm)
        clear hw2 hb2 hbr hown hl HB HO HMY kx HI HOB HX
        go_wp2_with fail
        go_loopw [8, 27] (fun v t wx => ∃ (j : Nat) (bi : Bool), v = .bool bi ∧ t = .int .i64 (j : Int) ∧ j ≤ k ∧ Hid (bi = decide (x ∈ us.take j)) ∧ wx = w2) (fun _ t _ => k - (match t with | .int _ x => x.toNat | _ => 0))
        case atStart => exact ⟨0, false, rfl, rfl, Nat.zero_le _, Lib.hid (by simp), rfl⟩
        case round =>
          obtain ⟨j, bi, rfl, rfl, hj, HBI, rfl⟩ := hrel
          by_cases hjk : j < k
          · obtain ⟨b2, o2, e2, _, hc2⟩ := HLU.out.2.2 (by omega)
            subst e2
            obtain ⟨y, hy⟩ : ∃ y, y = us.getD j 0 := ⟨_, rfl⟩
            have ky := hc2 j hjk
            rw [← hy] at ky
            have j1 : (j : Int) < (k : Int) := by omega
            have HMT : Hid (decide (x ∈ us.take (j + 1)) = (bi || decide (x = y))) := Lib.hid (by rw [mem_take_succ (by have := HK.out; omega), HBI.out, hy])
            clear hy hc2 HBI
            cases bi with
            | true =>
              go_wp2_with fail
              refine ⟨⟨j + 1, true, rfl, by go_num, by omega, Lib.hid (by rw [HMT.out]; rfl), trivial⟩, ?_⟩
              show k - ((j : Int) + 1).toNat < k - (j : Int).toNat
              omega
            | false =>
              by_cases hxy : x = y
              · subst hxy
                have hxx : (x == x) = true := by simp
                go_wp2_with fail
                refine ⟨⟨j + 1, true, rfl, by go_num, by omega, Lib.hid (by rw [HMT.out]; simp), trivial⟩, ?_⟩
                show k - ((j : Int) + 1).toNat < k - (j : Int).toNat
                omega
              · have hxx : (x == y) = false := by simp [hxy]
                go_wp2_with fail
                refine ⟨⟨j + 1, false, rfl, by go_num, by omega, Lib.hid (by rw [HMT.out]; simp [hxy]), trivial⟩, ?_⟩
                show k - ((j : Int) + 1).toNat < k - (j : Int).toNat
                omega
          · have hjk' : (j : Int) = (k : Int) := by omega
            have HMU : Hid (bi = decide (x ∈ us)) := Lib.hid (by rw [HBI.out, List.take_of_length_le (by have := HK.out; omega)])
            clear HBI
            cases bi with
            | true =>
              have HE : Hid (us = uqs (zs.take (i + 1))) := Lib.hid (by rw [HSTEP.out]; unfold uq; rw [if_pos (of_decide_eq_true HMU.out.symm)])
              go_wp2_with fail
              refine ⟨⟨i + 1, k, U, cu, us, rfl, by go_num, by omega, by omega, HK, HE, HI', HO2, HB2⟩, ?_⟩
              show m - ((i : Int) + 1).toNat < m - (i : Int).toNat
              omega
            | false =>
              have HE : Hid (us ++ [x] = uqs (zs.take (i + 1))) := Lib.hid (by rw [HSTEP.out]; unfold uq; rw [if_neg (of_decide_eq_false HMU.out.symm)])
              have HSZ := Lib.hid HB2.out.size
              go_wp2_with (at_builtin; refine wpList_append_any _ rfl (.tmp 40) (.tmp 42) 22 rfl w.heap.size 37 i0 _ 1 8 Try.underlying22 hi0 hz0 hz1 hz2 rfl (by decide) _ k _ rfl (HO2.out.alloc _) (wr.heap.size + 1) (some ⟨wr.heap.size, 0, none⟩) 1 1 [.int .i64 x] rfl (reads_one (Blk.new _ _ _) (by omega)) (ints_one [x]) (by unfold maxLen; omega) (by omega) (Nat.le_trans HSZ.out (by simp)) ?_; intro v5 w5 hown5 hg5 hat5; have HOW5 := Lib.hid hown5; have HU5 : Hid (Upd (fun j => (Value.slice U 0 0).ownBlock = some j) wr w5) := Lib.hid (((Upd.refl _ wr).alloc _).grown hg5 (fun j hj => .inl (by rw [← hj]; exact ownB))); obtain ⟨A5, c5, rfl⟩ := ownL_shape hown5; clear hown5 hg5 hat5)
              have hb5 : Below w.heap.size w w5 := HB2.out.trans (HU5.out.below (fun j hj => (HO2.out.lt j (by rw [← hj]; exact ownB)).1) HSZ.out)
              refine ⟨⟨i + 1, k + 1, A5, c5, us ++ [x], rfl, by go_num, by omega, by omega, Lib.hid (by rw [List.length_append, HK.out]; rfl), HE, HI', Lib.hid (by rw [List.map_append]; exact HOW5.out), Lib.hid hb5⟩, ?_⟩
              show m - ((i : Int) + 1).toNat < m - (i : Int).toNat
              omega
    · obtain rfl : i = m := by omega
      have hown : OwnL wr w.heap.size (.slice U k cu) us := by unfold OwnL; rw [HK.out]; exact HO.out
      have hue : us = uqs zs := by rw [HU.out, List.take_of_length_le (by have := HZL.out; omega)]
      have hany : zs.any (offL n) = false := by
        rw [List.any_eq_false]
        intro x hx
        obtain ⟨j, hj, rfl⟩ := List.mem_iff_getElem.1 hx
        have := HI.out j (by have := HZL.out; omega)
        rw [List.getD_eq_getElem?_getD, List.getElem?_eq_getElem hj] at this
        simpa using this
      have hmay : mayL n L zs = decide (L.length < 5000) := by unfold mayL; rw [hany]; simp
      have HSW := Lib.hid (HS.out.below HB.out)
      have kL : wr.cell? ⟨p, 1, none⟩ = some (.slice A L.length cap) := HSW.out.blk.cell 1
      have hlen := HSW.out.len
      have HMY := Lib.hid hmay
      clear hmay hany
      by_cases h5 : L.length < 5000
      · have h5' : decide ((5000 : Int) ≤ (L.length : Int)) = false := decide_eq_false (by omega)
        have HSM : Hid (∀ z ∈ zs, -200 ≤ z ∧ z ≤ 200) := Lib.hid (may_small hn HZ.out.2.1 (by rw [HMY.out]; exact decide_eq_true h5))
        obtain ⟨U', c', hv, hl, hkc, _, hli⟩ := OwnL.lits2 hown HUO.out
        rw [HK.out] at hv hl hkc
        cases hv
        have HFX : Hid (Fix wr U k us) := Lib.hid ⟨hl, fun g o e => (hli g o e).2⟩
        have HSM2 : Hid (∀ z ∈ us, -200 ≤ z ∧ z ≤ 200) := Lib.hid (fun z hz' => by
          rw [hue] at hz'
          rcases (uqf_mem zs [] z).1 hz' with h | h
          · cases h
          · exact HSM.out z h)
        have HRR : Hid (outr n (us.drop 0) L = R) := Lib.hid (by rw [List.drop_zero, hue]; exact (HYES.out (by rw [HMY.out]; exact decide_eq_true h5)).symm)
        have HSR := Lib.hid HSW.out
        have HUPD : Hid (Upd (sF p A) w wr) := Lib.hid (Upd.of_quiet HB.out)
        clear hue hl hli hown HSM HR HU HO HUO HS HZ HZL HB HNO HYES HMY HI HSW
        go_wp2_with fail
        go_loopw [53] (fun t wx => ∃ (i : Nat) (A' : Option Addr) (cap' : Nat) (L' : List (List Int)), t = .int .i64 (i : Int) ∧ i ≤ k ∧ Hid (RSetAt wx p A' cap' n L') ∧ Hid (∀ k, sF p A' k → sF p A k ∨ w.heap.size ≤ k) ∧ Hid (Upd (sF p A) w wx) ∧ Hid (Fix wx U k us) ∧ Hid (outr n (us.drop i) L' = R)) (fun t _ => k - (match t with | .int _ x => x.toNat | _ => 0))
        case atStart => exact ⟨0, A, cap, L, rfl, Nat.zero_le _, HSR, Lib.hid (fun k hk => .inl hk), HUPD, HFX, HRR⟩
        case round =>
          obtain ⟨i, A', cap', L', rfl, hi', HS', HF', HU', HX', HR'⟩ := hrel
          clear HSR HUPD HFX HRR
          by_cases hlt' : i < k
          · obtain ⟨b, o, e, hbl, hc⟩ := HX'.out.l.2.2 (by omega)
            subst e
            obtain ⟨a, ha⟩ : ∃ a, a = us.getD i 0 := ⟨_, rfl⟩
            have ka : wr.cell? ⟨b, o + i, none⟩ = some (.int .i64 a) := by rw [ha]; exact hc i hlt'
            have i1 : (i : Int) < (k : Int) := by omega
            have HA := Lib.hid ha
            have hab := HSM2.out a (by
              rw [ha, List.getD_eq_getElem?_getD, List.getElem?_eq_getElem (by have := HK.out; omega)]
              exact List.getElem_mem _)
            have hna1 : -9223372036854775808 ≤ -a := by omega
            have hna2 : -a ≤ 9223372036854775807 := by omega
            have hao : Ok (-a) := ⟨hna1, hna2⟩
            clear ha hab hc hbl
            obtain ⟨Q, hQ⟩ : ∃ Q, Q = inn n a (us.drop (i + 1)) L' := ⟨_, rfl⟩
            have HQR : Hid (R = if Q.1 then outr n (us.drop (i + 1)) Q.2 else (false, Q.2)) := Lib.hid (by
              rw [hQ, ← HR'.out, outr_step n us i (by have := HK.out; omega), ← HA.out])
            have HQ0 : Hid (inn n a ((us.drop (i + 1)).drop 0) L' = Q) := Lib.hid (by rw [List.drop_zero]; exact hQ.symm)
            clear hQ HR'
            by_cases hcu : cu = i + 1
            · have hki : k = i + 1 := by omega
              have HQE : Hid (Q = (true, L')) := Lib.hid (by
                rw [← HQ0.out, List.drop_zero, List.drop_of_length_le (by have := HK.out; omega)]; rfl)
              have HRN : Hid (outr n (us.drop (i + 1)) L' = R) := Lib.hid (by rw [HQR.out, HQE.out]; rfl)
              clear HQ0 HQR HQE
              subst hcu
              have hk0 : k - (i + 1) = 0 := by omega
              have hk1 : k ≤ i + 1 := by omega
              clear hki
              go_wp2_with fail
              go_loopw [63] (fun t wx => t = .int .i64 0 ∧ wx = wr) (fun t _ => match t with | .int _ x => x.toNat | _ => 0)
              case atStart => exact ⟨rfl, rfl⟩
              case round =>
                obtain ⟨rfl, rfl⟩ := hrel
                go_wp2_with fail
                refine ⟨⟨i + 1, A', cap', L', by go_num, by omega, HS', HF', HU', HX', HRN⟩, ?_⟩
                show k - ((i : Int) + 1).toNat < k - (i : Int).toNat
                omega
            · have hkc' : k - (i + 1) ≤ cu := by omega
              obtain ⟨q, hq⟩ : ∃ q, q = k - (i + 1) := ⟨_, rfl⟩
              go_wp2_with fail
              rw [← hq]
              have hqk : q + (i + 1) = k := by omega
              clear hq hkc'
              go_loopw [63] (fun t wx => ∃ (j : Nat) (A2 : Option Addr) (c2 : Nat) (L2 : List (List Int)), t = .int .i64 (j : Int) ∧ j ≤ q ∧ Hid (RSetAt wx p A2 c2 n L2) ∧ Hid (∀ k, sF p A2 k → sF p A k ∨ w.heap.size ≤ k) ∧ Hid (Upd (sF p A) w wx) ∧ Hid (Fix wx (some ⟨b, o, none⟩) k us) ∧ Hid (inn n a ((us.drop (i + 1)).drop j) L2 = Q)) (fun t _ => q - (match t with | .int _ x => x.toNat | _ => 0))
              case atStart => exact ⟨0, A', cap', L', rfl, Nat.zero_le _, HS', HF', HU', HX', HQ0⟩
              case round =>
                obtain ⟨j, A2, c2, L2, rfl, hj, HS2, HF2, HU2, HX2, HQ2⟩ := hrel
                clear HS' HF' HU' HX' HQ0 ka
                by_cases hjq : j < q
                · obtain ⟨y, hy⟩ : ∃ y, y = us.getD (i + 1 + j) 0 := ⟨_, rfl⟩
                  have ky : wr.cell? ⟨b, o + (i + 1) + j, none⟩ = some (.int .i64 y) := by
                    obtain ⟨b', o', e', _, hc⟩ := HX2.out.l.2.2 (by omega)
                    cases e'
                    rw [hy, Nat.add_assoc o (i + 1) j]
                    exact hc (i + 1 + j) (by omega)
                  have hyb := HSM2.out y (by
                    rw [hy, List.getD_eq_getElem?_getD, List.getElem?_eq_getElem (by have := HK.out; omega)]
                    exact List.getElem_mem _)
                  have hny1 : -9223372036854775808 ≤ -y := by omega
                  have hny2 : -y ≤ 9223372036854775807 := by omega
                  have j1 : (j : Int) < (q : Int) := by omega
                  have HQS : Hid (Q = if mayL n L2 [-a, -y] then inn n a ((us.drop (i + 1)).drop (j + 1)) (addL n L2 [-a, -y]) else (false, L2)) := Lib.hid (by
                    rw [← HQ2.out, inn_step n a (us.drop (i + 1)) j (by rw [List.length_drop]; have := HK.out; omega), show (us.drop (i + 1)).getD j 0 = y by rw [hy, List.getD_eq_getElem?_getD, List.getElem?_drop, List.getD_eq_getElem?_getD]])
                  have hbw : Below wr.heap.size wr (wr.alloc (.cells #[.int .i64 (-a), .int .i64 (-y)] 37)) := (Below.refl _ _).alloc (Nat.le_refl _) _
                  have HAD := Lib.hid (RAdd_any p c2 n A2 L2 (some ⟨wr.heap.size, 0, none⟩) 2 2 [-a, -y] _ (HS2.out.below hbw) (two_lits wr (-a) (-y) hao ⟨hny1, hny2⟩) (by omega))
                  have HFXB := Lib.hid (HX2.out.below hbw)
                  have HNO := Lib.hid (HS2.out.below hbw).notL
                  have HUB : Hid (Upd (sF p A) w (wr.alloc (.cells #[.int .i64 (-a), .int .i64 (-y)] 37))) := Lib.hid (HU2.out.alloc _)
                  obtain ⟨bb, hbb⟩ : ∃ bb, bb = mayL n L2 [-a, -y] := ⟨_, rfl⟩
                  rw [← hbb] at HAD HQS
                  have HBB := Lib.hid hbb
                  clear hy hyb hbw hbb HS2 HU2 HX2 HQ2
                  cases bb with
                  | false =>
                    go_wp2_with (go_at_call 37; refine HAD.out.mono ?_; rintro e w4 ⟨rfl, hu4, A4, c4, hs4, hf4⟩)
                    go_ret
                    have hR : R = (false, L2) := by rw [HQR.out, HQS.out]; rfl
                    rw [add_no HBB.out.symm] at hs4
                    refine ⟨by rw [hR]; rfl, HUB.out.comp hu4 HF2.out, A4, c4, by rw [hR]; exact hs4, fun k hk => ?_⟩
                    rcases hf4 k hk with h | h
                    · exact HF2.out k h
                    · exact .inr (Nat.le_trans HUB.out.size h)
                  | true =>
                    go_wp2_with (go_at_call 37; refine HAD.out.mono ?_; rintro e w4 ⟨rfl, hu4, A4, c4, hs4, hf4⟩)
                    refine ⟨⟨j + 1, A4, c4, addL n L2 [-a, -y], by go_num, by omega, Lib.hid hs4, Lib.hid (fun k hk => ?_), Lib.hid (HUB.out.comp hu4 HF2.out), Lib.hid (HFXB.out.upd hu4 HNO.out), Lib.hid (by rw [HQS.out]; rfl)⟩, ?_⟩
                    · rcases hf4 k hk with h | h
                      · exact HF2.out k h
                      · exact .inr (Nat.le_trans HUB.out.size h)
                    · show q - ((j : Int) + 1).toNat < q - (j : Int).toNat
                      omega
                · have HQE : Hid (Q = (true, L2)) := Lib.hid (by
                    rw [← HQ2.out, List.drop_drop, List.drop_of_length_le (by have := HK.out; omega)]; rfl)
                  have HRN : Hid (outr n (us.drop (i + 1)) L2 = R) := Lib.hid (by rw [HQR.out, HQE.out]; rfl)
                  have hjq' : (j : Int) = (q : Int) := by omega
                  clear HQ2 HQR HQE
                  go_wp2_with fail
                  refine ⟨⟨i + 1, A2, c2, L2, by go_num, by omega, HS2, HF2, HU2, HX2, HRN⟩, ?_⟩
                  show k - ((i : Int) + 1).toNat < k - (i : Int).toNat
                  omega
          · have HRN : Hid (R = (true, L')) := Lib.hid (by
              rw [← HR'.out, List.drop_of_length_le (by have := HK.out; omega)]; rfl)
            clear HR'
            go_wp2_with fail
            go_ret
            refine ⟨by rw [HRN.out]; rfl, HU'.out, A', cap', by rw [HRN.out]; exact HS'.out, HF'.out⟩
      · have h5' : decide ((5000 : Int) ≤ (L.length : Int)) = true := decide_eq_true (by omega)
        have HRN : Hid (R = (false, L)) := Lib.hid (HNO.out (by rw [HMY.out]; exact decide_eq_false h5))
        have HUPD : Hid (Upd (sF p A) w wr) := Lib.hid (Upd.of_quiet HB.out)
        clear hue hown HR HU HO HUO HZ HZL HB HNO HYES HMY HI HS
        go_wp2_with fail
        go_ret
        exact ⟨by rw [HRN.out]; rfl, HUPD.out, A, cap, by rw [HRN.out]; exact HSW.out, fun k hk => .inl hk⟩
end Go.Proofs.Ytghfelfljblkbaa
