/- CnfOne: the walk. -/
import Derived.Test.YtghfelfljblkbaaUn
import Derived.Test.YtghfelfljblkbaaAddNew
import Derived.Test.YtghfelfljblkbaaAtMost
import Derived.Test.YtghfelfljblkbaaHalf
import Derived.Test.YtghfelfljblkbaaAwakeC
import Derived.Test.YtghfelfljblkbaaOpenB
import Derived.Deep.DeepCutAuto
import Derived.Deep.CutBlock
import Derived.Outline
namespace Go.Proofs.Ytghfelfljblkbaa
open Go.RowKit Go.Sort
set_option linter.unusedVariables false

theorem one_empty {w : World} {p n : Nat} (h : Blk w p 80 #[.int .i64 (n : Int), .slice none 0 0]) (hn : n ≤ 200) : SetAt w p none 0 n [] :=
  ⟨h, ⟨[], World.ownsRow_nil _ _ _ _, LIn.nil _⟩, hn, by simp⟩
theorem one_tidy {n : Nat} {u zs : List Int} (h : Un n u) (hm : ∀ x, x ∈ zs ↔ x ∈ u) : ∃ r, Cf.tidy zs = some r := by
  cases ht : Cf.tidy zs with
  | some r => exact ⟨r, rfl⟩
  | none =>
    exfalso
    rcases Cf.tidy_bad ht with h0 | ⟨x, hx, y, hy, h1, h2⟩
    · have := (h.in_ 0 ((hm 0).1 h0)).1
      unfold Cf.va at this
      omega
    · exact h2 (un_inj h x ((hm x).1 hx) y ((hm y).1 hy) h1)
theorem one_add {n : Nat} {u zs r : List Int} (hn : n ≤ 200) (h : Un n u) (hm : ∀ x, x ∈ zs ↔ x ∈ u) (ht : Cf.tidy zs = some r) : addL n [] zs = [r] := by
  unfold addL
  rw [may_same hn h hm, ht]; rfl
/-- What stands at the last statement: three sets. -/
structure Three (w0 w : World) (p pa pb : Nat) (A Aa Ab : Option Addr) (c ca cb n : Nat) (L La Lb : List (List Int)) : Prop where
  s : SetAt w p A c n L
  a : SetAt w pa Aa ca n La
  b : SetAt w pb Ab cb n Lb
  bel : Below w0.heap.size w0 w
theorem Three.below {w0 w w' : World} {p pa pb c ca cb n : Nat} {A Aa Ab : Option Addr} {L La Lb : List (List Int)} (h : Three w0 w p pa pb A Aa Ab c ca cb n L La Lb) (hb : Below w.heap.size w w') : Three w0 w' p pa pb A Aa Ab c ca cb n L La Lb :=
  ⟨h.s.below hb, h.a.below hb, h.b.below hb, h.bel.trans (hb.mono h.bel.size)⟩
set_option maxRecDepth 100000 in
set_option maxHeartbeats 8000000 in
theorem cnfOne_any (x : Int) (C : Option Addr) (lc cc : Nat) (cs : List Int) (B : Option Addr) (lb cb : Nat) (bs : List Bool) (w : World) (hc : Lits w C lc cs) (hcc : lc ≤ cc) (hlc : lc ≤ 1048576) (hb : Bools w B lb bs) (hlb : lb ≤ cb) (hcb : cb ≤ maxLen) :
    Calls Try.prog 7 #[.int .i64 x, .slice C lc cc, .slice B lb cb] w fun e w' => e = .returned (.bool true) ∧ Below w.heap.size w w' := by
  obtain ⟨i0, hi0, hz0, hz1, hz2⟩ := info_parts lit_row
  obtain ⟨N, hN, hx'⟩ := mod_un x (n := 12) (by omega)
  have hx : (IntKind.u64.wrap x).tmod 12 = (N : Int) := hx'
  clear hx'
  have hlb2 : lb ≤ 9223372036854775807 := by unfold maxLen at hcb; omega
  obtain ⟨n, hn⟩ : ∃ n, n = N + 1 := ⟨_, rfl⟩
  have hn1 : 1 ≤ n := by omega
  have hn2 : n ≤ 12 := by omega
  have hvn : vars (n : Int) = n := by unfold vars; omega
  have hNn : (N : Int) + 1 = (n : Int) := by omega
  have hn0 : ((n : Int) == 0) = false := by rw [beq_eq_false_iff_ne]; omega
  have HC := Lib.hid hc
  have HB := Lib.hid hb
  have HNW := Lib.hid (fun W => New_any (n : Int) W)
  rw [hvn] at HNW
  clear hc hb hvn hn
  go_enter Try.func7, Try.ntmps7
  go_wp2_with fail
  go_loopw [7, 8, 27] (fun u kk t wr => ∃ (i k kc : Nat) (U : Option Addr) (cu : Nat) (us : List Int), u = .slice U k cu ∧ kk = .int .i64 (kc : Int) ∧ t = .int .i64 (i : Int) ∧ i ≤ lc ∧ k ≤ 10 ∧ kc ≤ k ∧ Hid (us.length = k) ∧ Hid (Un n us) ∧ Hid (kc = cnt bs us) ∧ Hid (wr.ownsRow w.heap.size 37 1 (.slice U k cu) k (us.map (Value.int .i64))) ∧ Hid (Below w.heap.size w wr)) (fun _ _ t _ => lc - (match t with | .int _ x => x.toNat | _ => 0))
  case atStart => exact ⟨0, 0, 0, none, 0, [], rfl, rfl, rfl, Nat.zero_le _, by omega, by omega, Lib.hid rfl, Lib.hid (Un.nil n), Lib.hid rfl, Lib.hid (World.ownsRow_nil _ _ _ _), Lib.hid (Below.refl _ _)⟩
  case round =>
    obtain ⟨i, k, kc, U, cu, us, rfl, rfl, rfl, hi, hk10, hkc, HK, HUN, HKC, HO, HBR⟩ := hrel
    have husok : ∀ z ∈ us, Ok z := fun z hz => by
      have := HUN.out.ok (by omega) z hz
      exact ⟨by omega, by omega⟩
    have HUO := Lib.hid husok
    have hown : OwnL wr w.heap.size (.slice U k cu) us := by unfold OwnL; rw [HK.out]; exact HO.out
    obtain ⟨U', c', hv, hl, _⟩ := OwnL.lits hown HUO.out
    rw [HK.out] at hv hl
    cases hv
    have HLU := Lib.hid hl
    clear husok hown hl
    by_cases hlt : i < lc
    · obtain ⟨b, o, hC, hbl, hcell⟩ := HC.out.2.2 (by omega)
      obtain ⟨z, hz⟩ : ∃ z, z = cs.getD i 0 := ⟨_, rfl⟩
      have kz : wr.cell? ⟨b, o + i, none⟩ = some (.int .i64 z) := by rw [hz]; exact (HBR.out.cell hbl).trans (hcell i hlt)
      subst hC
      obtain ⟨r, hr, hmod⟩ := mod_un z hn1
      obtain ⟨y0, hy0⟩ : ∃ y0, y0 = r + 1 := ⟨_, rfl⟩
      have hry : (r : Int) + 1 = (y0 : Int) := by omega
      have y01 : 1 ≤ y0 := by omega
      have y02 : y0 ≤ n := by omega
      have i1 : (i : Int) < (lc : Int) := by omega
      clear hcell hbl hz hy0
      go_upto_if 41 with fail
      go_cut [10] (fun v10 wx => wx = wr ∧ ∃ y : Int, v10 = .int .i64 y ∧ Hid (Cf.va y = y0))
      case first =>
        by_cases h3 : k % 3 = 2
        · have hd : ((k : Int) % 3 == 2) = true := by rw [beq_iff_eq]; omega
          clear h3
          go_wp2_with fail
          go_meet
          exact ⟨rfl, -(y0 : Int), rfl, Lib.hid (by unfold Cf.va; omega)⟩
        · have hd : ((k : Int) % 3 == 2) = false := by rw [beq_eq_false_iff_ne]; omega
          clear h3
          go_wp2_with fail
          go_meet
          exact ⟨rfl, (y0 : Int), rfl, Lib.hid (by unfold Cf.va; omega)⟩
      case rest =>
        obtain ⟨rfl, y, rfl, HY⟩ := hcut
        have yb1 : -12 ≤ y := by have := HY.out; unfold Cf.va at this; omega
        have yb2 : y ≤ 12 := by have := HY.out; unfold Cf.va at this; omega
        clear hmod kz hr hry
        go_wp2_with fail
        go_loopw [11, 46] (fun v t wx => ∃ (j : Nat) (bi : Bool), v = .bool bi ∧ t = .int .i64 (j : Int) ∧ j ≤ k ∧ Hid (bi = inU y (us.take j)) ∧ wx = wc) (fun _ t _ => k - (match t with | .int _ x => x.toNat | _ => 0))
        case atStart => exact ⟨0, false, rfl, rfl, Nat.zero_le _, Lib.hid rfl, rfl⟩
        case round =>
          obtain ⟨j, bi, rfl, rfl, hj, HBI, rfl⟩ := hrel
          by_cases hjk : j < k
          · obtain ⟨b2, o2, e2, _, hc2⟩ := HLU.out.2.2 (by omega)
            obtain ⟨q, hq⟩ : ∃ q, q = us.getD j 0 := ⟨_, rfl⟩
            have ky := hc2 j hjk
            rw [← hq] at ky
            have hqb := HUN.out.ok (by omega) q (by
              rw [hq, List.getD_eq_getElem?_getD, List.getElem?_eq_getElem (by have := HK.out; omega)]
              exact List.getElem_mem _)
            have q1 : -200 ≤ q := hqb.1
            have q2 : q ≤ 200 := hqb.2
            have j1 : (j : Int) < (k : Int) := by omega
            have HMT : Hid (inU y (us.take (j + 1)) = (bi || ((y == q) || (y == -q)))) := Lib.hid (by rw [inU_succ (by have := HK.out; omega), HBI.out, hq])
            subst e2
            clear hq hc2 HBI hqb
            cases bi with
            | true =>
              go_wp2_with fail
              refine ⟨⟨j + 1, true, rfl, by go_num, by omega, Lib.hid (by rw [HMT.out]; rfl), trivial⟩, ?_⟩
              show k - ((j : Int) + 1).toNat < k - (j : Int).toNat
              omega
            | false =>
              cases h1 : (y == q) with
              | true =>
                rw [h1] at HMT
                go_wp2_with fail
                refine ⟨⟨j + 1, true, rfl, by go_num, by omega, Lib.hid (by rw [HMT.out]; rfl), trivial⟩, ?_⟩
                show k - ((j : Int) + 1).toNat < k - (j : Int).toNat
                omega
              | false =>
                rw [h1] at HMT
                cases h2 : (y == -q) with
                | true =>
                  rw [h2] at HMT
                  go_wp2_with fail
                  refine ⟨⟨j + 1, true, rfl, by go_num, by omega, Lib.hid (by rw [HMT.out]; rfl), trivial⟩, ?_⟩
                  show k - ((j : Int) + 1).toNat < k - (j : Int).toNat
                  omega
                | false =>
                  rw [h2] at HMT
                  go_wp2_with fail
                  refine ⟨⟨j + 1, false, rfl, by go_num, by omega, Lib.hid (by rw [HMT.out]; rfl), trivial⟩, ?_⟩
                  show k - ((j : Int) + 1).toNat < k - (j : Int).toNat
                  omega
          · have hjk' : (j : Int) = (k : Int) := by omega
            have HIU : Hid (bi = inU y us) := Lib.hid (by rw [HBI.out, List.take_of_length_le (by have := HK.out; omega)])
            clear HBI
            cases bi with
            | true =>
              go_wp2_with fail
              refine ⟨⟨i + 1, k, kc, U, cu, us, rfl, rfl, by go_num, by omega, hk10, hkc, HK, HUN, HKC, HO, HBR⟩, ?_⟩
              show lc - ((i : Int) + 1).toNat < lc - (i : Int).toNat
              omega
            | false =>
              by_cases h10 : 10 ≤ k
              · have hd : (10 : Int) ≤ (k : Int) := by omega
                go_wp2_with fail
                refine ⟨⟨i + 1, k, kc, U, cu, us, rfl, rfl, by go_num, by omega, hk10, hkc, HK, HUN, HKC, HO, HBR⟩, ?_⟩
                show lc - ((i : Int) + 1).toNat < lc - (i : Int).toNat
                omega
              · have hd : decide ((10 : Int) ≤ (k : Int)) = false := decide_eq_false (by omega)
                have HSZ := Lib.hid HBR.out.size
                have HUS : Hid (Un n (us ++ [y])) := Lib.hid (HUN.out.snoc (by have := HY.out; omega) HIU.out.symm)
                go_upto_if 75 with (at_builtin; refine wpList_append_any _ rfl (.tmp 69) (.tmp 71) 22 rfl w.heap.size 37 i0 _ 1 8 Try.underlying22 hi0 hz0 hz1 hz2 rfl (by decide) _ k _ rfl (HO.out.alloc _) (wr.heap.size + 1) (some ⟨wr.heap.size, 0, none⟩) 1 1 [.int .i64 y] rfl (reads_one (Blk.new _ _ _) (by omega)) (ints_one [y]) (by unfold maxLen; omega) (by omega) (Nat.le_trans HSZ.out (by simp)) ?_; intro v5 w5 hown5 hg5 hat5; have HOW5 := Lib.hid hown5; have HU5 : Hid (Upd (fun j => (Value.slice U 0 0).ownBlock = some j) wr w5) := Lib.hid (((Upd.refl _ wr).alloc _).grown hg5 (fun j hj => .inl (by rw [← hj]; exact ownB))); obtain ⟨A5, c5, rfl⟩ := ownL_shape hown5; clear hown5 hg5 hat5)
                have hb5 : Below w.heap.size w w5 := HBR.out.trans (HU5.out.below (fun j hj => (HO.out.lt j (by rw [← hj]; exact ownB)).1) HSZ.out)
                have HB5 := Lib.hid hb5
                clear hb5 HU5 hd
                go_cut [14] (fun v14 wx => wx = w5 ∧ v14 = .int .i64 (y0 : Int))
                case first =>
                  by_cases hneg : y < 0
                  · have HYE : Hid (-y = (y0 : Int)) := Lib.hid (by have := HY.out; unfold Cf.va at this; omega)
                    go_wp2_with fail
                    go_meet
                    exact ⟨rfl, by rw [HYE.out]⟩
                  · have HYE : Hid (y = (y0 : Int)) := Lib.hid (by have := HY.out; unfold Cf.va at this; omega)
                    go_wp2_with fail
                    go_meet
                    exact ⟨rfl, by rw [HYE.out]⟩
                case rest =>
                  obtain ⟨rfl, rfl⟩ := hcut
                  obtain ⟨hb9, hhb⟩ : ∃ hb9, hb9 = hv bs y := ⟨_, rfl⟩
                  have HHV : Hid (hb9 = ((decide (y0 ≤ lb) && bs.getD (y0 - 1) false) == decide (0 < y))) := Lib.hid (by rw [hhb, hv_of HY.out y01 (by omega), HB.out.1])
                  have HCN : Hid (cnt bs (us ++ [y]) = if hb9 then kc + 1 else kc) := Lib.hid (by rw [cnt_snoc, ← hhb, HKC.out])
                  clear hhb
                  go_upto_region 21 with fail
                  go_cut [91] (fun v91 wx => wx = wc ∧ v91 = .bool hb9)
                  case first =>
                    by_cases h1 : y0 ≤ lb
                    · obtain ⟨b', o', hB, hbl, hcell⟩ := HB.out.2 (by omega)
                      obtain ⟨bb, hbb⟩ : ∃ bb, bb = bs.getD (y0 - 1) false := ⟨_, rfl⟩
                      have kb : wc.cell? ⟨b', o' + (y0 - 1), none⟩ = some (.bool bb) := by rw [hbb]; exact (HB5.out.cell hbl).trans (hcell (y0 - 1) (by omega))
                      have p1 : (y0 : Int) ≤ (lb : Int) := by omega
                      have p2 : (0 : Int) ≤ (y0 : Int) - 1 := by omega
                      have p3 : (y0 : Int) - 1 < (lb : Int) := by omega
                      have p4 : ((y0 : Int) - 1).toNat = y0 - 1 := by omega
                      have HE : Hid (hb9 = (bb == decide (0 < y))) := Lib.hid (by rw [HHV.out, decide_eq_true h1, Bool.true_and, hbb])
                      subst hB
                      clear hcell hbl hbb
                      go_wp2_with fail
                      go_meet
                      exact ⟨rfl, by rw [HE.out]⟩
                    · have p1 : decide ((y0 : Int) ≤ (lb : Int)) = false := decide_eq_false (by omega)
                      have HE : Hid (hb9 = (false == decide (0 < y))) := Lib.hid (by rw [HHV.out, decide_eq_false h1, Bool.false_and])
                      go_wp2_with fail
                      go_meet
                      exact ⟨rfl, by rw [HE.out]; cases decide (0 < y) <;> rfl⟩
                  case rest =>
                    obtain ⟨rfl, rfl⟩ := hcut
                    have HLN : Hid ((us ++ [y]).length = k + 1) := Lib.hid (by rw [List.length_append, HK.out]; rfl)
                    have HOM : Hid (wc.ownsRow w.heap.size 37 1 (.slice A5 (k + 1) c5) (k + 1) ((us ++ [y]).map (Value.int .i64))) := Lib.hid (by rw [List.map_append]; exact HOW5.out)
                    cases hb9 with
                    | true =>
                      go_wp2_with fail
                      refine ⟨⟨i + 1, k + 1, kc + 1, A5, c5, us ++ [y], rfl, by go_num, by go_num, by omega, by omega, by omega, HLN, HUS, Lib.hid (by rw [HCN.out]; rfl), HOM, HB5⟩, ?_⟩
                      show lc - ((i : Int) + 1).toNat < lc - (i : Int).toNat
                      omega
                    | false =>
                      go_wp2_with fail
                      refine ⟨⟨i + 1, k + 1, kc, A5, c5, us ++ [y], rfl, rfl, by go_num, by omega, by omega, by omega, HLN, HUS, Lib.hid (by rw [HCN.out]; rfl), HOM, HB5⟩, ?_⟩
                      show lc - ((i : Int) + 1).toNat < lc - (i : Int).toNat
                      omega
    · have hil : (i : Int) = (lc : Int) := by omega
      have HNB : Hid (∀ j, (Value.slice U 0 0).ownBlock = some j → j < wr.heap.size) := Lib.hid (fun j hj => (HO.out.lt j (by rw [← hj]; exact ownB)).2)
      clear HO HC HUO
      go_wp2_with fail
      go_at_call 29
      refine (HNW.out _).mono ?_
      rintro e w1 ⟨p, rfl, hs1, hb1, hp⟩
      have HP := Lib.hid hp
      have HA := AtMost_any p 0 n none [] U k cu us w1 hs1 (HLU.out.below hb1) (by omega)
      rw [(atL_good (bs := bs) (by omega) HUN.out (by have := HK.out; omega)).1] at HA
      have HAM := Lib.hid HA
      have HB1 := Lib.hid hb1
      have HL1 := Lib.hid (HLU.out.below hb1)
      clear HA hs1 hb1 hp HLU
      go_wp2_with fail
      go_at_call 33
      refine HAM.out.mono ?_
      rintro e w3 ⟨rfl, hu3, A3, c3, hs3, hf3⟩
      have hT3 : ∀ j, sF p none j → wr.heap.size ≤ j := fun j hj => by
        rcases hj with rfl | hj
        · exact HP.out
        · cases hj
      have HB3 : Hid (Below w.heap.size w w3) := Lib.hid ((HBR.out.trans (HB1.out.mono HBR.out.size)).trans (hu3.below (fun j hj => Nat.le_trans HBR.out.size (hT3 j hj)) (Nat.le_trans HBR.out.size HB1.out.size)))
      have HL3 : Hid (Lits w3 U k us) := Lib.hid (HL1.out.upd hu3 (fun b o e hj => by
        have h1 := HNB.out b (by rw [e]; rfl)
        have h2 := hT3 b hj
        omega))
      obtain ⟨L3, hL3⟩ : ∃ L3, L3 = (atL n [] us).2 := ⟨_, rfl⟩
      have hh3 : holdsL bs L3 = decide (cnt bs us ≤ 1) := by rw [hL3]; exact (atL_good (bs := bs) (by omega) HUN.out (by have := HK.out; omega)).2
      have hsh3 : ∀ r ∈ L3, r.length ≤ 1048576 := fun r hr => by
        rw [hL3] at hr
        rcases atL_mem hr with h | h
        · cases h
        · omega
      rw [← hL3] at hs3
      have HS3 := Lib.hid hs3
      have HH3 := Lib.hid hh3
      have HSH3 := Lib.hid hsh3
      clear hu3 hs3 hf3 hT3 hL3 hh3 hsh3 HAM HB1 HL1 HBR HNB HP
      go_wp2_with fail
      go_loopw [16, 103] (fun v t wx => ∃ (j : Nat) (V : Option Addr) (cv : Nat) (vs : List Int), v = .slice V j cv ∧ t = .int .i64 (j : Int) ∧ j ≤ k ∧ Hid (vs = us.reverse.take j) ∧ Hid (wx.ownsRow w3.heap.size 37 1 (.slice V j cv) j (vs.map (Value.int .i64))) ∧ Hid (Below w3.heap.size w3 wx)) (fun _ t _ => k - (match t with | .int _ x => x.toNat | _ => 0))
      case atStart => exact ⟨0, none, 0, [], rfl, rfl, Nat.zero_le _, Lib.hid rfl, Lib.hid (World.ownsRow_nil _ _ _ _), Lib.hid (Below.refl _ _)⟩
      case round =>
        obtain ⟨j, V, cv, vs, rfl, rfl, hj, HVS, HOV, HBV⟩ := hrel
        have HLU := Lib.hid (HL3.out.below HBV.out)
        by_cases hjk : j < k
        · obtain ⟨b2, o2, e2, _, hc2⟩ := HLU.out.2.2 (by omega)
          obtain ⟨q, hq⟩ : ∃ q, q = us.getD (k - 1 - j) 0 := ⟨_, rfl⟩
          have ky := hc2 (k - 1 - j) (by omega)
          rw [← hq] at ky
          have j1 : (j : Int) < (k : Int) := by omega
          have p1 : (0 : Int) ≤ (k : Int) - 1 - (j : Int) := by omega
          have p2 : (k : Int) - 1 - (j : Int) < (k : Int) := by omega
          have p3 : ((k : Int) - 1 - (j : Int)).toNat = k - 1 - j := by omega
          have HVS2 : Hid (vs ++ [q] = us.reverse.take (j + 1)) := Lib.hid (by rw [take_rev_succ (by have := HK.out; omega), HVS.out, hq, HK.out])
          have HSZ := Lib.hid HBV.out.size
          subst e2
          clear hq hc2 HVS
          go_wp2_with (at_builtin; refine wpList_append_any _ rfl (.tmp 106) (.tmp 115) 22 rfl w3.heap.size 37 i0 _ 1 8 Try.underlying22 hi0 hz0 hz1 hz2 rfl (by decide) _ j _ rfl (HOV.out.alloc _) (wr.heap.size + 1) (some ⟨wr.heap.size, 0, none⟩) 1 1 [.int .i64 q] rfl (reads_one (Blk.new _ _ _) (by omega)) (ints_one [q]) (by unfold maxLen; omega) (by omega) (Nat.le_trans HSZ.out (by simp)) ?_; intro v5 w5 hown5 hg5 hat5; have HOW5 := Lib.hid hown5; have HU5 : Hid (Upd (fun j => (Value.slice V 0 0).ownBlock = some j) wr w5) := Lib.hid (((Upd.refl _ wr).alloc _).grown hg5 (fun j hj => .inl (by rw [← hj]; exact ownB))); obtain ⟨A5, c5, rfl⟩ := ownL_shape hown5; clear hown5 hg5 hat5)
          have hb5 : Below w3.heap.size w3 w5 := HBV.out.trans (HU5.out.below (fun j hj => (HOV.out.lt j (by rw [← hj]; exact ownB)).1) HSZ.out)
          refine ⟨⟨j + 1, A5, c5, vs ++ [q], rfl, by go_num, by omega, HVS2, Lib.hid (by rw [List.map_append]; exact HOW5.out), Lib.hid hb5⟩, ?_⟩
          show k - ((j : Int) + 1).toNat < k - (j : Int).toNat
          omega
        · have hjk' : j = k := by omega
          subst hjk'
          have HVE : Hid (vs = us.reverse) := Lib.hid (by rw [HVS.out, List.take_of_length_le (by rw [List.length_reverse]; have := HK.out; omega)])
          clear HVS
          go_wp2_with fail
          go_at_call 29
          refine (HNW.out _).mono ?_
          rintro e w4 ⟨pa, rfl, hs4, hb4, hpa⟩
          have HB4 := Lib.hid (HBV.out.trans (hb4.mono HBV.out.size))
          have HKA : Hid (Blk w4 pa 80 #[.int .i64 (n : Int), .slice none 0 0]) := Lib.hid hs4.blk
          have HPA := Lib.hid hpa
          have HO4 := Lib.hid (ownL_later HOV.out hb4)
          have HVB : Hid (∀ i, (Value.slice V 0 0).ownBlock = some i → w3.heap.size ≤ i ∧ i < wr.heap.size) := Lib.hid (fun i hi => HOV.out.lt i (by rw [← hi]; exact ownB))
          have HBVS := Lib.hid HBV.out.size
          clear hs4 hb4 hpa HOV HBV HLU
          go_wp2_with fail
          go_at_call 29
          refine (HNW.out w4).mono ?_
          rintro e w5 ⟨pb, rfl, hs5, hb5, hpb⟩
          have hpal := HKA.out.lt
          have HB5 := Lib.hid (HB4.out.trans (hb5.mono HB4.out.size))
          have HKA5 := Lib.hid (HKA.out.below hb5 hpal)
          have HKB5 : Hid (Blk w5 pb 80 #[.int .i64 (n : Int), .slice none 0 0]) := Lib.hid hs5.blk
          have HPB : Hid (pa < pb) := Lib.hid (by omega)
          have HO5 := Lib.hid (ownL_later HO4.out hb5)
          clear hs5 hb5 hpb hpal HKA HO4 HB4
          obtain ⟨r1, hr1⟩ := one_tidy HUN.out (zs := us) (fun x => Iff.rfl)
          have HA1 := Lib.hid (AddNew_any pa n U j cu us r1 w5 (one_empty HKA5.out (by omega)) (HL3.out.below HB5.out) (by omega) (may_un (by omega) HUN.out) hr1)
          have HR1 : Hid (holdsL bs [r1] = decide (1 ≤ cnt bs us)) := Lib.hid (by
            have := add_good (n := n) (bs := bs) (u := us) (zs := us) (by omega) HUN.out (fun x => Iff.rfl)
            rw [one_add (by omega) HUN.out (fun x => Iff.rfl) hr1] at this
            exact this)
          have HRL1 : Hid (r1.length ≤ 1048576) := Lib.hid (by have := Cf.tidy_len hr1; have := HK.out; omega)
          clear hr1
          go_wp2_with fail
          go_at_call 28
          refine HA1.out.mono ?_
          rintro e w6 ⟨rfl, hu6, A6, c6, hs6, hk6⟩
          have HB6 : Hid (Below w3.heap.size w3 w6) := Lib.hid (HB5.out.trans (hu6.below (fun i hi => by subst hi; exact Nat.le_trans HBVS.out HPA.out) HB5.out.size))
          have HO6 : Hid (w6.ownsRow w3.heap.size 37 1 (.slice V j cv) j (vs.map (Value.int .i64))) := Lib.hid (own_upd HO5.out hu6 (fun i hi e => by
            have h1 := (HVB.out i (by rw [← hi]; exact ownB)).2
            have h2 := HPA.out
            omega))
          have HKB6 := Lib.hid (HKB5.out.upd hu6 (fun e => by have := HPB.out; omega))
          have HK6 := Lib.hid hk6
          have HL6 := Lib.hid (HL3.out.below HB6.out)
          have HSZ6 := Lib.hid HB6.out.size
          have HZ6 : Hid (w5.heap.size ≤ w6.heap.size) := Lib.hid hu6.size
          have HPB5 : Hid (pb < w5.heap.size) := Lib.hid HKB5.out.lt
          have HW5 : Hid (wr.heap.size ≤ w5.heap.size) := Lib.hid (by have := HKA5.out.lt; have := HPA.out; omega)
          clear hu6 hs6 hk6 HA1 HKA5 HKB5 HO5 HB5
          go_wp2_with (at_builtin; refine wpList_append_any _ rfl (.tmp 126) (.tmp 127) 22 rfl w3.heap.size 37 i0 _ 1 8 Try.underlying22 hi0 hz0 hz1 hz2 rfl (by decide) _ j _ rfl HO6.out w6.heap.size U j cu (us.map (Value.int .i64)) rfl HL6.out.reads (ints_one us) (by unfold maxLen; omega) (by omega) HSZ6.out ?_; intro v7 w7 hown7 hg7 hat7; have HU7 : Hid (Upd (fun i => (Value.slice V 0 0).ownBlock = some i) w6 w7) := Lib.hid ((Upd.refl _ w6).grown hg7 (fun i hi => .inl (by rw [← hi]; exact ownB))); obtain ⟨A7, c7, rfl⟩ := ownL_shape hown7; have HOW7 := Lib.hid hown7; clear hown7 hg7 hat7)
          have hown7 := HOW7.out
          have hmem : ∀ x, x ∈ us.reverse ++ us ↔ x ∈ us := fun x => by simp
          have hown : OwnL w7 w3.heap.size (.slice A7 (j + j) c7) (us.reverse ++ us) := by
            unfold OwnL
            rw [List.length_append, List.length_reverse, HK.out, List.map_append, ← HVE.out]
            exact hown7
          obtain ⟨A7', c7', hv, hl7, _⟩ := OwnL.lits hown (fun z hz => by
            have := HUN.out.ok (by omega) z ((hmem z).1 hz)
            exact ⟨by omega, by omega⟩)
          rw [List.length_append, List.length_reverse, HK.out] at hv hl7
          cases hv
          have HKB7 := Lib.hid (HKB6.out.upd HU7.out (fun e => by
            have h1 := (HVB.out pb e).2
            have h2 := HPB.out
            have h3 := HPA.out
            omega))
          obtain ⟨r2, hr2⟩ := one_tidy HUN.out hmem
          have HA2 := Add_any pb 0 n none [] A7 (j + j) c7 (us.reverse ++ us) w7 (one_empty HKB7.out (by omega)) hl7 (by omega)
          rw [may_same (by omega) HUN.out hmem, one_add (by omega) HUN.out hmem hr2] at HA2
          have HR2 : Hid (holdsL bs [r2] = decide (1 ≤ cnt bs us)) := Lib.hid (by
            have := add_good (n := n) (bs := bs) (u := us) (zs := us.reverse ++ us) (by omega) HUN.out hmem
            rw [one_add (by omega) HUN.out hmem hr2] at this
            exact this)
          have HRL2 : Hid (r2.length ≤ 1048576) := Lib.hid (by have := Cf.tidy_len hr2; have := HK.out; rw [List.length_append, List.length_reverse] at *; omega)
          have HAD2 := Lib.hid HA2
          clear hown7 HOW7 hmem hown hl7 hr2 HA2 HO6 HL6 HKB6
          go_wp2_with fail
          go_at_call 28
          refine HAD2.out.mono ?_
          rintro e w8 ⟨rfl, hu8, A8, c8, hs8, _⟩
          have hb7 : Below w3.heap.size w3 w7 := HB6.out.trans (HU7.out.below (fun i hi => (HVB.out i hi).1) HB6.out.size)
          have hb8 : Below w3.heap.size w3 w8 := hb7.trans (hu8.below (fun i hi => by
            rcases hi with rfl | hi
            · have h1 := HPB.out
              have h2 := HPA.out
              have h3 := HBVS.out
              omega
            · cases hi) hb7.size)
          have hu68 : Upd (fun i => (Value.slice V 0 0).ownBlock = some i ∨ i = pb) w6 w8 := (HU7.out.mono (fun i _ h => .inl h)).trans (hu8.mono (fun i _ h => by
            rcases h with h | h
            · exact .inr h
            · cases h))
          have ha8 := HK6.out _ w8 hu68 (fun i hi => by
            have h1 := HPB.out
            have h2 := HPA.out
            have h3 := HPB5.out
            have h4 := HW5.out
            rcases hi with hi | rfl
            · have := (HVB.out i hi).2
              exact ⟨by omega, by omega⟩
            · exact ⟨by omega, by omega⟩)
          have HT8 : Hid (Three w w8 p pa pb A3 A6 A8 c3 c6 c8 n L3 [r1] [r2]) := Lib.hid ⟨HS3.out.below hb8, ha8, hs8, HB3.out.trans (hb8.mono HB3.out.size)⟩
          have HB8 : Hid (Bools w8 B lb bs) := Lib.hid (HB.out.below HT8.out.bel)
          obtain ⟨g1, hg1⟩ : ∃ g1, g1 = decide ((kc : Int) ≤ 1) := ⟨_, rfl⟩
          obtain ⟨g2, hg2⟩ : ∃ g2, g2 = decide ((1 : Int) ≤ (kc : Int)) := ⟨_, rfl⟩
          have e1 : holdsL bs L3 = g1 := by rw [HH3.out, hg1, ← HKC.out, decide_eq_decide]; omega
          have e2 : holdsL bs [r1] = g2 := by rw [HR1.out, hg2, ← HKC.out, decide_eq_decide]; omega
          have e3 : holdsL bs [r2] = g2 := by rw [HR2.out, hg2, ← HKC.out, decide_eq_decide]; omega
          have HHX : Hid (∀ (W : World) (P : Nat) (h : Bool), (P = p ∧ h = g1) ∨ (P = pa ∧ h = g2) ∨ (P = pb ∧ h = g2) → Below w8.heap.size w8 W → Calls Try.prog 27 #[.pointer (some ⟨P, 0, none⟩), .slice B lb cb] W fun e w' => e = .returned (.bool h) ∧ Below W.heap.size W w') := Lib.hid (fun W P h hP hW => by
            rcases hP with ⟨rfl, rfl⟩ | ⟨rfl, rfl⟩ | ⟨rfl, rfl⟩
            · rw [← e1]
              exact Holds_any P c3 n A3 L3 B lb cb bs W (HT8.out.s.below hW) HSH3.out (HB8.out.below hW) hlb2
            · rw [← e2]
              exact Holds_any P c6 n A6 [r1] B lb cb bs W (HT8.out.a.below hW) (fun r hr => by rw [List.mem_singleton.1 hr]; exact HRL1.out) (HB8.out.below hW) hlb2
            · rw [← e3]
              exact Holds_any P c8 n A8 [r2] B lb cb bs W (HT8.out.b.below hW) (fun r hr => by rw [List.mem_singleton.1 hr]; exact HRL2.out) (HB8.out.below hW) hlb2)
          have HBW : Hid (Below w.heap.size w w8) := Lib.hid HT8.out.bel
          have hd1 : decide ((kc : Int) ≤ 1) = g1 := hg1.symm
          have hd2 : decide ((1 : Int) ≤ (kc : Int)) = g2 := hg2.symm
          have hx1 : (g1 == g1) = true := by simp
          have hx2 : (g2 == g2) = true := by simp
          have hb0 : Below w8.heap.size w8 w8 := Below.refl _ _
          clear hu8 hs8 hb7 hb8 hu68 ha8 hg1 hg2 e1 e2 e3 HAD2 HKB7 HU7 HK6 HB6 HR1 HR2 HS3 HH3 HL3 HVE HUN HKC HB3 HT8 HB8
          go_wp2_with (first
            | (go_at_call 27
               refine (HHX.out _ _ _ (by first | exact .inl ⟨rfl, rfl⟩ | exact .inr (.inl ⟨rfl, rfl⟩) | exact .inr (.inr ⟨rfl, rfl⟩)) (by assumption)).mono ?_
               rintro e wa ⟨rfl, hba⟩
               have hbA : Below w8.heap.size w8 wa := (show Below w8.heap.size w8 _ from by assumption).trans (hba.mono (show Below w8.heap.size w8 _ from by assumption).size)
               clear hba)
            | (go_at_call 22
               refine (awake_any _).mono ?_
               rintro e wa ⟨rfl, hba⟩
               have hbA : Below w8.heap.size w8 wa := (show Below w8.heap.size w8 _ from by assumption).trans (hba.mono (show Below w8.heap.size w8 _ from by assumption).size)
               clear hba))
          go_ret
          exact ⟨rfl, HBW.out.trans ((show Below w8.heap.size w8 _ from by assumption).mono HBW.out.size)⟩
open Go.ChangeShapes Go.WideShapes Go.ChangeAt in
set_option maxRecDepth 100000 in
theorem cnfOne_walk {H : Type} {enc : TypeId × Value → H} (W : World) {base : Nat} (v0 v1 v2 : Value) {d0 d1 d2 : DataW H} {p0 p1 p2 : List MemPlace}
    (h0 : DataW.Trod enc Try.prog W 0 (fun _ => true) true 3 v0 d0 p0) (o0 : Value.okWide Try.prog W .any base 3 v0)
    (h1 : DataW.Trod enc Try.prog W 0 (fun _ => true) true 22 v1 d1 p1) (o1 : Value.okWide Try.prog W .any base 22 v1)
    (h2 : DataW.Trod enc Try.prog W 0 (fun _ => true) true 29 v2 d2 p2) (o2 : Value.okWide Try.prog W .any base 29 v2)
    (hk : Rows.uptoBulkAll [d0, d1, d2] ≤ 1048576) :
    Calls Try.prog 7 #[v0, v1, v2] W fun e w' => e = .returned (.bool true) ∧ Below W.heap.size W w' := by
  obtain ⟨x, rfl, rfl, rfl, wx⟩ := open_int Try.underlying3 o0 h0
  obtain ⟨C, lc, cc, cs, rfl, hc, hcc, _, hlc⟩ := open_lits h1 o1
  obtain ⟨B, lb, cb, bs, rfl, hb, hlb, hcb⟩ := open_bs h2 o2
  simp only [Rows.uptoBulkAll] at hk
  exact cnfOne_any x C lc cc cs B lb cb bs W hc hcc (by omega) hb hlb hcb
end Go.Proofs.Ytghfelfljblkbaa
