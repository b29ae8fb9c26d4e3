/- SatHolds: the walk. -/
import Derived.Test.YtghfelfljblkbaaCoreS
import Derived.Test.YtghfelfljblkbaaCnt5
import Derived.Test.YtghfelfljblkbaaHoldP
namespace Go.Proofs.Ytghfelfljblkbaa
open Go.RowKit Go.Sort
set_option linter.unusedVariables false

theorem takeH {w W : World} {A : Option Addr} {n : Nat} {zs : List Int} (h : Lits w A n zs) (hW : Below w.heap.size w W) (i : Nat) (hi : i ≤ n) : Reads W w.heap.size 1 A i ((zs.take i).map (Value.int .i64)) := (take_lits h i hi).reads.below hW
theorem dropH {w W : World} {b o n : Nat} {zs : List Int} (h : Lits w (some ⟨b, o, none⟩) n zs) (hW : Below w.heap.size w W) (i : Nat) (hi : i ≤ n) : Reads W w.heap.size 1 (some ⟨b, o + i, none⟩) (n - i) ((zs.drop i).map (Value.int .i64)) := by
  have := (h.cut i (n - i) (by omega)).reads.below hW
  rw [List.take_of_length_le (by rw [List.length_drop, h.1]; omega)] at this
  exact this
/-- A literal of a variable in a model in which it holds. -/
theorem lit_in {n : Nat} {bs : List Bool} {y : Int} (hy : Ok y) (ho : offL n y = false) (hn : n ≤ 200) (hl : bs.length = n) (hh : hv bs y = true) : ∃ j : Nat, j < n ∧ Cf.va y = j + 1 ∧ -200 ≤ y ∧ y ≤ 200 ∧ max y (-y) = (j : Int) + 1 ∧ (bs.getD j false == decide (0 < y)) = true := by
  have h1 : y ≠ 0 ∧ Cf.va y ≤ n := by
    unfold offL at ho
    rw [vw_ok hy, Bool.or_eq_false_iff] at ho
    have a := of_decide_eq_false ho.1
    have b := of_decide_eq_false ho.2
    exact ⟨a, by omega⟩
  have h2 : 1 ≤ Cf.va y := by unfold Cf.va; omega
  have ha : atw y = ((Cf.va y - 1 : Nat) : Int) := by
    unfold atw
    rw [vw_ok hy, u64_w]; omega
  unfold hv at hh
  rw [ha, hl, Int.toNat_natCast, decide_eq_true (by omega), Bool.true_and] at hh
  exact ⟨Cf.va y - 1, by omega, by omega, by have := h1.2; unfold Cf.va at this; omega, by have := h1.2; unfold Cf.va at this; omega, by unfold Cf.va at h2 ⊢; omega, hh⟩
set_option maxRecDepth 100000 in
set_option maxHeartbeats 8000000 in
theorem satHolds_any (x : Int) (v : Value) (Z : List (List Int)) (C : Option Addr) (lc cc : Nat) (cs : List Int) (D : Option Addr) (ld cd : Nat) (ds : List Int) (w : World) (hz : ClsAt w v Z) (hZ : Z.length ≤ 4294967296) (hc : Lits w C lc cs) (hcc : lc ≤ cc) (hd : Lits w D ld ds) (hdd : ld ≤ cd) :
    Calls Try.prog 21 #[.int .i64 x, v, .slice C lc cc, .slice D ld cd] w fun e w' => e = .returned (.bool true) ∧ Below w.heap.size w w' := by
  obtain ⟨i0, hi0, hz0, hz1, hz2⟩ := info_parts lit_row
  have HBO := Lib.hid (bothS_any x v Z w hz hZ)
  obtain ⟨AZ, cZ, rfl, _⟩ := hz
  have HC := Lib.hid hc
  have HD := Lib.hid hd
  clear hc hd
  go_enter Try.func21, Try.ntmps21
  go_wp2_with fail
  go_at_call 53
  refine HBO.out.mono ?_
  rintro e w1 ⟨n, s, q0, A, B, ca, cb, rfl, hn, htw, hcl⟩
  obtain ⟨L, hL⟩ : ∃ L, L = bothQ 40 10 n Z 0 [] := ⟨_, rfl⟩
  rw [← hL] at htw hcl
  have hsh : ∀ c ∈ L, c.length ≤ 1048576 := fun c hc => by have := htw.short c hc; omega
  have HTW := Lib.hid htw
  have HCL := Lib.hid hcl
  have HSH := Lib.hid hsh
  have HFW := Lib.hid (few_any C lc cc cs w1 (HC.out.below htw.bel) hcc)
  clear hL HBO htw hcl hsh
  go_wp2_with fail
  go_at_call 54
  refine HFW.out.mono ?_
  rintro e w1 ⟨rfl, m, d, rfl, hm, hl⟩
  obtain ⟨zs, hzs⟩ : ∃ zs, zs = cs.take m := ⟨_, rfl⟩
  rw [← hzs] at hl
  have HL := Lib.hid hl
  obtain ⟨N1, hN1⟩ : ∃ N1, N1 = Ct.cnt (fun k => holdsL (vec n k) L) 0 (2 ^ n) := ⟨_, rfl⟩
  obtain ⟨k1, hk1⟩ : ∃ k1 : Int, k1 = min 3000 (N1 : Int) := ⟨_, rfl⟩
  have HK1 := Lib.hid hk1
  have HN1 := Lib.hid hN1
  have HCP : Hid (∀ W, Below w1.heap.size w1 W → Calls Try.prog 30 #[.pointer (some ⟨s, 0, none⟩)] W fun e w' => ∃ p' A' cap', e = .returned (.pointer (some ⟨p', 0, none⟩)) ∧ SetAt w' p' A' cap' n L ∧ Below W.heap.size W w' ∧ ∀ k, sF p' A' k → W.heap.size ≤ k) := Lib.hid (fun W hW => Copy_any s ca n A L W (HTW.out.s.below hW) HSH.out (cl_ok HCL.out (by omega)))
  have HFD : Hid (∀ W, Below w1.heap.size w1 W → Calls Try.prog 54 #[.slice D ld cd] W fun e w' => W = w' ∧ ∃ m d, e = .returned (.slice D m d) ∧ m ≤ 12 ∧ Lits W D m (ds.take m)) := Lib.hid (fun W hW => few_any D ld cd ds W ((HD.out.below HTW.out.bel).below hW) hdd)
  have HCN : Hid (∀ W, Below w1.heap.size w1 W → Calls Try.prog 61 #[.pointer (some ⟨s, 0, none⟩), .int .i64 3000] W fun e w' => e = .returned (.int .i64 k1) ∧ Below W.heap.size W w') := Lib.hid (fun W hW => by
    have := Count_any s ca n A L 3000 ⟨by decide, by decide⟩ W (HTW.out.s.below hW) HSH.out HCL.out (by omega)
    rw [if_pos (by decide), ← HN1.out, ← HK1.out] at this
    exact this)
  have HCR : Hid (∀ W, Below w1.heap.size w1 W → Calls Try.prog 58 #[.pointer (some ⟨s, 0, none⟩), .slice C m d] W fun e w' => Below W.heap.size W w' ∧ ∃ A' m' c', e = .returned (.tuple #[.slice A' m' c', .bool (!canS n L zs)]) ∧ m' ≤ c' ∧ Lits w' A' m' ((coreR n L zs).getD [])) := Lib.hid (fun W hW => by
    rw [← core_some]
    exact Core_cap s ca n A L C m d zs W (HTW.out.s.below hW) HSH.out HCL.out (HL.out.below hW) (by omega) (by omega))
  have HSV : Hid (∀ W, Below w1.heap.size w1 W → ∀ (E : Option Addr) (le ce : Nat) (es : List Int), Lits W E le es → le ≤ 100000 → Calls Try.prog 55 #[.pointer (some ⟨s, 0, none⟩), .slice E le ce, .int .i64 0] W fun e w' => ∃ F l c, e = .returned (.tuple #[.slice F l c, .bool (canS n L es), .int .i64 0]) ∧ Below W.heap.size W w') := Lib.hid (fun W hW E le ce es he hle => (Solve0_any s ca n A L E le ce es W (HTW.out.s.below hW) HSH.out HCL.out he hle (by omega)).mono fun e w' ⟨r, F, l, c, h1, h2, _, _, h5⟩ => ⟨F, l, c, by rw [← can_first h2]; exact h1, h5⟩)
  have HAW := Lib.hid (fun W => awakeS_any W)
  have HS0 := Lib.hid (Solve0_any s ca n A L C m d zs w1 HTW.out.s HSH.out HCL.out hl (by omega) (by omega))
  clear hl hzs HFW hN1 hk1
  go_wp2_with fail
  go_at_call 55
  refine HS0.out.mono ?_
  rintro e w2 ⟨r, A2, m2, c2, rfl, hf, hm2, hbs, hb2⟩
  have HB2 := Lib.hid hb2
  have HCA : Hid (canS n L zs = r.isSome) := Lib.hid (can_first hf).symm
  clear HS0
  cases r with
  | none =>
    have hcan : canS n L zs = false := HCA.out
    rw [hcan] at HCR
    have HCB := Lib.hid (core_bad hcan)
    have HCM := Lib.hid (core_min n L zs)
    have HCLN := Lib.hid (core_len n L zs)
    clear hf hm2 hbs hb2 hcan HCA
    go_wp2_with fail
    go_loopw [57] (fun t wr => ∃ i : Nat, t = .int .i64 (i : Int) ∧ i ≤ m ∧ wr = w2) (fun t _ => m - (match t with | .int _ x => x.toNat | _ => 0))
    case atStart => exact ⟨0, rfl, Nat.zero_le _, rfl⟩
    case round =>
      obtain ⟨i, rfl, hi, rfl⟩ := hrel
      by_cases hlt : i < m
      · obtain ⟨b, o, hCa, hbl, hcell⟩ := HL.out.2.2 (by omega)
        obtain ⟨y, hy⟩ : ∃ y, y = zs.getD i 0 := ⟨_, rfl⟩
        have ky : wr.cell? ⟨b, o + i, none⟩ = some (.int .i64 y) := by rw [hy]; exact (HB2.out.cell hbl).trans (hcell i hlt)
        have hyo : Ok y := by rw [hy]; exact HL.out.ok i
        obtain ⟨y1, y2⟩ := hyo
        have i1 : (i : Int) < (m : Int) := by omega
        subst hCa
        clear hcell hbl hy
        go_wp2_with fail
        refine ⟨⟨i + 1, by go_num, by omega, by first | rfl | trivial⟩, ?_⟩
        show m - ((i : Int) + 1).toNat < m - (i : Int).toNat
        omega
      · have hnn : ¬ (i : Int) < (m : Int) := by omega
        clear hi hlt
        have HBA := HB2
        have HC1 := Lib.hid (HCP.out wr HBA.out)
        go_wp2_with fail
        go_at_call 30
        refine HC1.out.mono ?_
        rintro e wB ⟨p', A', cap', rfl, hsB, hbB, hfB⟩
        have HBB := Lib.hid (HBA.out.trans (hbB.mono HBA.out.size))
        have HSB := Lib.hid hsB
        have HFB : Hid (∀ k, sF p' A' k → w1.heap.size ≤ k) := Lib.hid (fun k hk => Nat.le_trans HBA.out.size (hfB k hk))
        have HFW := Lib.hid (HFD.out wB HBB.out)
        clear hsB hbB hfB HC1
        go_wp2_with fail
        go_at_call 54
        refine HFW.out.mono ?_
        rintro e wB' ⟨rfl, m5, d5, rfl, hm5, hl5⟩
        have hsh2 : ∀ c ∈ addL n L (ds.take m5), c.length ≤ 1048576 := fun c hc => by
          rcases addL_mem hc with h | h
          · exact HSH.out c h
          · have := hl5.1; omega
        have hcl2 : Pr.Cl n (addL n L (ds.take m5)) := add_cl HCL.out hl5.2.1
        have hle2 := cnt_more n L (ds.take m5)
        have had := Add_any p' cap' n A' L D m5 d5 _ wB HSB.out hl5 (by omega)
        obtain ⟨L2, hL2⟩ : ∃ L2, L2 = addL n L (ds.take m5) := ⟨_, rfl⟩
        rw [← hL2] at had hsh2 hcl2 hle2
        have HAD := Lib.hid had
        have HSH2 := Lib.hid hsh2
        have HCL2 := Lib.hid hcl2
        obtain ⟨N2, hN2⟩ : ∃ N2, N2 = Ct.cnt (fun k => holdsL (vec n k) L2) 0 (2 ^ n) := ⟨_, rfl⟩
        obtain ⟨k2, hk2⟩ : ∃ k2 : Int, k2 = min 3000 (N2 : Int) := ⟨_, rfl⟩
        have HK2 := Lib.hid hk2
        have HN2 := Lib.hid hN2
        have HLE := Lib.hid hle2
        clear had hsh2 hcl2 hle2 hL2 hl5 HFW hN2 hk2
        go_wp2_with fail
        go_at_call 28
        refine HAD.out.mono ?_
        rintro e wC ⟨rfl, huC, A6, cap6, hsC, _⟩
        have HBC := Lib.hid (HBB.out.trans (huC.below (fun k hk => HFB.out k hk) HBB.out.size))
        have hcnt := Count_any p' cap6 n A6 L2 3000 ⟨by decide, by decide⟩ wC hsC HSH2.out HCL2.out (by omega)
        rw [if_pos (by decide), ← HN2.out, ← HK2.out] at hcnt
        have HC2 := Lib.hid hcnt
        have hk21 : ¬ k1 < k2 := by
          have h1 := HLE.out
          have h2 := HK1.out
          have h3 := HK2.out
          rw [← HN2.out, ← HN1.out] at h1
          omega
        clear huC hsC hcnt HAD HSB HFB HSH2 HCL2
        go_wp2_with fail
        go_at_call 61
        refine HC2.out.mono ?_
        rintro e wE ⟨rfl, hbE⟩
        have HBE := Lib.hid (HBC.out.trans (hbE.mono HBC.out.size))
        have HC3 := Lib.hid (HCN.out wE HBE.out)
        clear hbE HC2
        go_wp2_with fail
        go_at_call 61
        refine HC3.out.mono ?_
        rintro e wG ⟨rfl, hbG⟩
        have HBG := Lib.hid (HBE.out.trans (hbG.mono HBE.out.size))
        have HC4 := Lib.hid (HCR.out wG HBG.out)
        clear hbG HC3
        go_wp2_with fail
        go_at_call 58
        refine HC4.out.mono ?_
        rintro e wH ⟨hbH, A7, m7, c7, rfl, hmc7, hl7⟩
        have HBH := Lib.hid (HBG.out.trans (hbH.mono HBG.out.size))
        have HL7 := Lib.hid hl7
        obtain ⟨c, hc⟩ : ∃ c, c = (coreR n L zs).getD [] := ⟨_, rfl⟩
        have hm7 : m7 ≤ 12 := by
          have h1 := hl7.1
          have h2 := HCLN.out
          have h3 := HL.out.1
          omega
        rw [← hc] at HL7 HCB HCM
        have HC5 := HSV.out wH HBH.out A7 m7 c7 c HL7.out (by omega)
        rw [HCB.out] at HC5
        have HC6 := Lib.hid HC5
        clear hbH hl7 hc HC4 HC5 HCR HCN HCP HFD
        go_wp2_with fail
        go_at_call 55
        refine HC6.out.mono ?_
        rintro e wI ⟨F8, l8, c8, rfl, hbI⟩
        have HBI := Lib.hid (HBH.out.trans (hbI.mono HBH.out.size))
        have HL8 := Lib.hid (HL7.out.below hbI)
        clear hbI HC6
        go_wp2_with fail
        go_loopw [121] (fun t wr => ∃ i : Nat, t = .int .i64 (i : Int) ∧ i ≤ m7 ∧ Hid (Below w1.heap.size w1 wr) ∧ Hid (Lits wr A7 m7 c)) (fun t _ => m7 - (match t with | .int _ x => x.toNat | _ => 0))
        case atStart => exact ⟨0, rfl, Nat.zero_le _, HBI, HL8⟩
        case round =>
          obtain ⟨i, rfl, hi, HBK, HLK⟩ := hrel
          clear HL8 HBI HL7
          by_cases hlt : i < m7
          · have i1 : (i : Int) < (m7 : Int) := by omega
            obtain ⟨b, o, hAk, _, _⟩ := HLK.out.2.2 (by omega)
            subst hAk
            obtain ⟨X1, hX1⟩ : ∃ X1, X1 = (c.take i).map (Value.int .i64) := ⟨_, rfl⟩
            obtain ⟨X3, hX3⟩ : ∃ X3, X3 = (c.drop (i + 1)).map (Value.int .i64) := ⟨_, rfl⟩
            have HE1 := Lib.hid hX1
            have HE3 := Lib.hid hX3
            have HI1 : Hid (∀ u ∈ X1, u.oneCell' = true) := Lib.hid (by rw [hX1]; exact ints_one _)
            have HI3 : Hid (∀ u ∈ X3, u.oneCell' = true) := Lib.hid (by rw [hX3]; exact ints_one _)
            have HX1 : Hid (∀ W, Below wr.heap.size wr W → Reads W wr.heap.size 1 (some ⟨b, o, none⟩) i X1) := Lib.hid (fun W hW => by rw [hX1]; exact takeH HLK.out hW i (by omega))
            obtain ⟨Ad, hAd⟩ : ∃ Ad : Option Addr, Ad = if c7 = i + 1 then some ⟨b, o, none⟩ else some ⟨b, o + (i + 1), none⟩ := ⟨_, rfl⟩
            have HX3 : Hid (∀ W, Below wr.heap.size wr W → Reads W wr.heap.size 1 Ad (m7 - (i + 1)) X3) := Lib.hid (fun W hW => by
              rw [hX3, hAd]
              split
              · next h =>
                have e : m7 - (i + 1) = 0 := by omega
                rw [e, List.drop_of_length_le (by have := HLK.out.1; omega)]
                exact Reads.none_
              · exact dropH HLK.out hW (i + 1) (by omega))
            have hw1 : IntKind.i64.wrap ((i : Int) + 1) = (i : Int) + 1 := by rw [IntKind.wrap_i64]; omega
            have hik0 : (0 : Int) ≤ (i : Int) + 1 := by omega
            have hik : (i : Int) ≤ (c7 : Int) := by omega
            have hik1 : (i : Int) + 1 ≤ (m7 : Int) := by omega
            have hkck : (m7 : Int) ≤ (c7 : Int) := by omega
            have hb0 : Below wr.heap.size wr wr.drew := ⟨rfl, rfl, rfl, Nat.le_refl _, fun _ _ => rfl⟩
            clear hX1 hX3
            go_wp2_with fail
            go_region_law (first
              | (refine step_append_any _ (by rfl) (.const (.slice none 0 0)) (.tmp 126) 22 (by rfl) wr.heap.size 37 i0 _ 1 8 Try.underlying22 hi0 hz0 hz1 hz2 rfl (by omega) (.slice none 0 0) 0 [] (by rfl) (World.ownsRow_nil _ _ _ _) wr.heap.size (some ⟨b, o, none⟩) i c7 X1 (by simp [Act.eval, Act.put]) ?_ HI1.out (by unfold maxLen; omega) (by omega) ?_ ?_
                 · exact HX1.out _ (by assumption)
                 · exact (show Below wr.heap.size wr _ from by assumption).size
                 intro v1 wa1 hown hgr hat
                 have hbw1 : Below wr.heap.size wr wa1 := (show Below wr.heap.size wr _ from by assumption).grown hgr (show Below wr.heap.size wr _ from by assumption).size (fun k hk => by cases hk)
                 rw [Nat.zero_add, List.nil_append] at hown
                 obtain ⟨A5, c5, rfl⟩ := ownL_shape hown
                 have HO1 := Lib.hid hown
                 clear hown hgr hat)
              | (refine step_append_any _ (by rfl) (.tmp 127) (.tmp 131) 22 (by rfl) wr.heap.size 37 i0 _ 1 8 Try.underlying22 hi0 hz0 hz1 hz2 rfl (by omega) (.slice A5 i c5) i X1 (by simp [Act.eval]) HO1.out wr.heap.size Ad (m7 - (i + 1)) (c7 - (i + 1)) X3 (by simp [Act.eval, hAd]) ?_ HI3.out (by unfold maxLen; omega) (by omega) ?_ ?_
                 · exact HX3.out _ hbw1
                 · exact hbw1.size
                 intro v2 wa2 hown hgr hat
                 have hbw2 : Below wr.heap.size wr wa2 := hbw1.grown hgr hbw1.size (fun q hq => (HO1.out.lt q hq).1)
                 obtain ⟨A6, c6, rfl⟩ := ownL_shape hown
                 have HO2 := Lib.hid hown
                 clear hown hgr hat))
            all_goals
              obtain ⟨k6, hk6⟩ : ∃ k6, k6 = i + (m7 - (i + 1)) := ⟨_, rfl⟩
              rw [← hk6] at HO2 ⊢
              rw [← hAd]
              have ho6 : OwnL wa2 wr.heap.size (.slice A6 k6 c6) (c.eraseIdx i) := by
                have h9 := HO2.out
                rw [HE1.out, HE3.out, ← List.map_append, ← List.eraseIdx_eq_take_drop_succ] at h9
                unfold OwnL
                have e : (c.eraseIdx i).length = k6 := by rw [List.length_eraseIdx, if_pos (by have := HLK.out.1; omega), HLK.out.1]; omega
                rw [e]
                exact h9
              obtain ⟨A6', c6', hv, hl6, hlc6, hcm6, _⟩ := ho6.lits (erase_ok HLK.out.2.1)
              have HEL : Hid ((c.eraseIdx i).length = k6) := Lib.hid (by rw [List.length_eraseIdx, if_pos (by have := HLK.out.1; omega), HLK.out.1]; omega)
              rw [HEL.out] at hv hl6 hlc6
              cases hv
              have HB6 : Hid (Below w1.heap.size w1 wa2) := Lib.hid (HBK.out.trans (hbw2.mono HBK.out.size))
              have HLK6 := Lib.hid (HLK.out.below hbw2)
              have hsv := HSV.out wa2 HB6.out A6 k6 c6 _ hl6 (by omega)
              have hmin := HCM.out i (by have := HLK.out.1; omega)
              obtain ⟨fb, hfb⟩ : ∃ fb, fb = canS n L (c.eraseIdx i) := ⟨_, rfl⟩
              rw [← hfb] at hsv hmin
              have HF6 := Lib.hid hsv
              have hmm : 1 < m7 → fb = true := fun h => hmin (by have := HLK.out.1; omega)
              clear ho6 hl6 hbw2 hfb hsv hmin HBK HLK HX1 HX3 hAd HE1 HE3 HI1 HI3 HO1 HO2 hk6
              go_wp2_with fail
              go_at_call 55
              refine HF6.out.mono ?_
              rintro e w7 ⟨E7, l7, c9, rfl, hb7⟩
              have HB7 : Hid (Below w1.heap.size w1 w7) := Lib.hid (HB6.out.trans (hb7.mono HB6.out.size))
              have HLK7 := Lib.hid (HLK6.out.below hb7)
              clear hb7 HF6 HB6 HLK6
              cases fb with
              | true =>
                clear hmm
                go_wp2_with fail
                refine ⟨⟨i + 1, by go_num, by omega, HB7, HLK7⟩, ?_⟩
                show m7 - ((i : Int) + 1).toNat < m7 - (i : Int).toNat
                omega
              | false =>
                have h17 : ¬ (1 : Int) < (m7 : Int) := fun h => by have := hmm (by omega); cases this
                clear hmm
                go_wp2_with fail
                refine ⟨⟨i + 1, by go_num, by omega, HB7, HLK7⟩, ?_⟩
                show m7 - ((i : Int) + 1).toNat < m7 - (i : Int).toNat
                omega
          · have hnn : ¬ (i : Int) < (m7 : Int) := by omega
            have HB9 := Lib.hid (HTW.out.bel.trans (HBK.out.mono HTW.out.bel.size))
            have HA9 := Lib.hid (HAW.out wr)
            clear HBK HLK
            go_wp2_with fail
            go_at_call 57
            refine HA9.out.mono ?_
            rintro e w9 ⟨rfl, hb9⟩
            go_wp2_with fail
            go_ret
            exact ⟨rfl, HB9.out.trans (hb9.mono HB9.out.size)⟩
  | some bs =>
    have hcan : canS n L zs = true := HCA.out
    have hbs : Bools w2 A2 m2 bs := hbs
    rw [hcan] at HCR
    obtain ⟨hoff, k, hk, hbv, hmod, _⟩ := hf
    unfold mod at hmod
    rw [Bool.and_eq_true] at hmod
    have hln : bs.length = n := by rw [hbv, Sr.vec_len]
    have HHO := Lib.hid (Holds_any s ca n A L A2 m2 c2 bs w2 (HTW.out.s.below hb2) HSH.out hbs (by omega))
    rw [hmod.1] at HHO
    have HBS := Lib.hid hbs
    have HLI : Hid (∀ i, i < zs.length → ∃ j : Nat, j < n ∧ Cf.va (zs.getD i 0) = j + 1 ∧ -200 ≤ zs.getD i 0 ∧ zs.getD i 0 ≤ 200 ∧ max (zs.getD i 0) (-(zs.getD i 0)) = (j : Int) + 1 ∧ (bs.getD j false == decide (0 < zs.getD i 0)) = true) := Lib.hid (fun i hi => by
      have hmem : zs.getD i 0 ∈ zs := by
        rw [List.getD_eq_getElem?_getD, List.getElem?_eq_getElem hi]
        exact List.getElem_mem hi
      exact lit_in (HL.out.2.1 _ hmem) (by have := List.any_eq_false.1 hoff _ hmem; simpa using this) (by omega) hln (List.all_eq_true.1 hmod.2 _ hmem))
    have HLM : Hid (m2 = n) := Lib.hid (by rw [← hln]; exact hbs.1.symm)
    have HCN0 : Hid (coreR n L zs = none) := Lib.hid (by
      have := core_some n L zs
      rw [hcan] at this
      cases h : coreR n L zs with
      | none => rfl
      | some a => rw [h] at this; cases this)
    clear hoff hbv hmod hln hbs hb2 hcan HCA hk
    go_wp2_with fail
    go_at_call 27
    refine HHO.out.mono ?_
    rintro e w3 ⟨rfl, hb3⟩
    have HB3 := Lib.hid (HB2.out.trans (hb3.mono HB2.out.size))
    have HBS3 := Lib.hid (HBS.out.below hb3)
    clear hb3 HHO HBS HB2
    go_wp2_with fail
    go_loopw [57] (fun t wr => ∃ i : Nat, t = .int .i64 (i : Int) ∧ i ≤ m ∧ wr = w3) (fun t _ => m - (match t with | .int _ x => x.toNat | _ => 0))
    case atStart => exact ⟨0, rfl, Nat.zero_le _, rfl⟩
    case round =>
      obtain ⟨i, rfl, hi, rfl⟩ := hrel
      by_cases hlt : i < m
      · obtain ⟨b, o, hCa, hbl, hcell⟩ := HL.out.2.2 (by omega)
        obtain ⟨j, hj, _, y1, y2, hmx, hbe⟩ := HLI.out i (by have := HL.out.1; omega)
        obtain ⟨y, hy⟩ : ∃ y, y = zs.getD i 0 := ⟨_, rfl⟩
        have ky : wr.cell? ⟨b, o + i, none⟩ = some (.int .i64 y) := by rw [hy]; exact (HB3.out.cell hbl).trans (hcell i hlt)
        rw [← hy] at y1 y2 hmx hbe
        obtain ⟨b2, o2, hA2, _, hc2⟩ := HBS3.out.2 (by have := HLM.out; omega)
        have kb := hc2 j (by have := HLM.out; omega)
        obtain ⟨bv, hbv⟩ : ∃ bv, bv = bs.getD j false := ⟨_, rfl⟩
        rw [← hbv] at kb hbe
        have i1 : (i : Int) < (m : Int) := by omega
        have j1 : ¬ (j : Int) + 1 < 1 := by omega
        have j2 : ¬ (m2 : Int) < (j : Int) + 1 := by have := HLM.out; omega
        have j3 : (j : Int) < (m2 : Int) := by have := HLM.out; omega
        have j4 : IntKind.i64.wrap ((j : Int) + 1 - 1) = (j : Int) := by rw [IntKind.wrap_i64]; omega
        subst hCa hA2
        clear hcell hbl hy hc2 hbv hj
        go_wp2_with fail
        refine ⟨⟨i + 1, by go_num, by omega, by first | rfl | trivial⟩, ?_⟩
        show m - ((i : Int) + 1).toNat < m - (i : Int).toNat
        omega
      · have hnn : ¬ (i : Int) < (m : Int) := by omega
        clear hi hlt
        have HBA := HB3
        have HC1 := Lib.hid (HCP.out wr HBA.out)
        go_wp2_with fail
        go_at_call 30
        refine HC1.out.mono ?_
        rintro e wB ⟨p', A', cap', rfl, hsB, hbB, hfB⟩
        have HBB := Lib.hid (HBA.out.trans (hbB.mono HBA.out.size))
        have HSB := Lib.hid hsB
        have HFB : Hid (∀ k, sF p' A' k → w1.heap.size ≤ k) := Lib.hid (fun k hk => Nat.le_trans HBA.out.size (hfB k hk))
        have HFW := Lib.hid (HFD.out wB HBB.out)
        clear hsB hbB hfB HC1
        go_wp2_with fail
        go_at_call 54
        refine HFW.out.mono ?_
        rintro e wB' ⟨rfl, m5, d5, rfl, hm5, hl5⟩
        have hsh2 : ∀ c ∈ addL n L (ds.take m5), c.length ≤ 1048576 := fun c hc => by
          rcases addL_mem hc with h | h
          · exact HSH.out c h
          · have := hl5.1; omega
        have hcl2 : Pr.Cl n (addL n L (ds.take m5)) := add_cl HCL.out hl5.2.1
        have hle2 := cnt_more n L (ds.take m5)
        have had := Add_any p' cap' n A' L D m5 d5 _ wB HSB.out hl5 (by omega)
        obtain ⟨L2, hL2⟩ : ∃ L2, L2 = addL n L (ds.take m5) := ⟨_, rfl⟩
        rw [← hL2] at had hsh2 hcl2 hle2
        have HAD := Lib.hid had
        have HSH2 := Lib.hid hsh2
        have HCL2 := Lib.hid hcl2
        obtain ⟨N2, hN2⟩ : ∃ N2, N2 = Ct.cnt (fun k => holdsL (vec n k) L2) 0 (2 ^ n) := ⟨_, rfl⟩
        obtain ⟨k2, hk2⟩ : ∃ k2 : Int, k2 = min 3000 (N2 : Int) := ⟨_, rfl⟩
        have HK2 := Lib.hid hk2
        have HN2 := Lib.hid hN2
        have HLE := Lib.hid hle2
        clear had hsh2 hcl2 hle2 hL2 hl5 HFW hN2 hk2
        go_wp2_with fail
        go_at_call 28
        refine HAD.out.mono ?_
        rintro e wC ⟨rfl, huC, A6, cap6, hsC, _⟩
        have HBC := Lib.hid (HBB.out.trans (huC.below (fun k hk => HFB.out k hk) HBB.out.size))
        have hcnt := Count_any p' cap6 n A6 L2 3000 ⟨by decide, by decide⟩ wC hsC HSH2.out HCL2.out (by omega)
        rw [if_pos (by decide), ← HN2.out, ← HK2.out] at hcnt
        have HC2 := Lib.hid hcnt
        have hk21 : ¬ k1 < k2 := by
          have h1 := HLE.out
          have h2 := HK1.out
          have h3 := HK2.out
          rw [← HN2.out, ← HN1.out] at h1
          omega
        clear huC hsC hcnt HAD HSB HFB HSH2 HCL2
        go_wp2_with fail
        go_at_call 61
        refine HC2.out.mono ?_
        rintro e wE ⟨rfl, hbE⟩
        have HBE := Lib.hid (HBC.out.trans (hbE.mono HBC.out.size))
        have HC3 := Lib.hid (HCN.out wE HBE.out)
        clear hbE HC2
        go_wp2_with fail
        go_at_call 61
        refine HC3.out.mono ?_
        rintro e wG ⟨rfl, hbG⟩
        have HBG := Lib.hid (HBE.out.trans (hbG.mono HBE.out.size))
        have HC4 := Lib.hid (HCR.out wG HBG.out)
        clear hbG HC3
        go_wp2_with fail
        go_at_call 58
        refine HC4.out.mono ?_
        rintro e wH ⟨hbH, A7, m7, c7, rfl, hmc7, hl7⟩
        have HBH := Lib.hid (HBG.out.trans (hbH.mono HBG.out.size))
        have HL7 := Lib.hid hl7
        have hm7 : m7 = 0 := by
          have h1 := hl7.1
          rw [HCN0.out] at h1
          exact h1.symm
        subst hm7
        have HC5 := Lib.hid (HSV.out wH HBH.out A7 0 c7 _ hl7 (by omega))
        obtain ⟨q9, hq9⟩ : ∃ q9, q9 = canS n L ((coreR n L zs).getD []) := ⟨_, rfl⟩
        rw [← hq9] at HC5
        clear hbH hl7 hq9 HC4 HCR HCN HCP HFD HL7
        go_wp2_with fail
        go_at_call 55
        refine HC5.out.mono ?_
        rintro e wI ⟨F8, l8, c8, rfl, hbI⟩
        have HB9 := Lib.hid (HTW.out.bel.trans ((HBH.out.trans (hbI.mono HBH.out.size)).mono HTW.out.bel.size))
        have HA9 := Lib.hid (HAW.out wI)
        clear hbI HC5
        go_wp2_with fail
        go_loopw [121] (fun t wr => t = .int .i64 0 ∧ wr = wI) (fun _ _ => 0)
        case atStart => exact ⟨rfl, rfl⟩
        case round =>
          obtain ⟨rfl, rfl⟩ := hrel
          go_wp2_with fail
          go_at_call 57
          refine HA9.out.mono ?_
          rintro e w9 ⟨rfl, hb9⟩
          go_wp2_with fail
          go_ret
          exact ⟨rfl, HB9.out.trans (hb9.mono HB9.out.size)⟩
open Go.ChangeShapes Go.WideShapes Go.ChangeAt in
set_option maxRecDepth 100000 in
theorem satHolds_walk {H : Type} {enc : TypeId × Value → H} (W : World) {base : Nat} (v0 v1 v2 v3 : Value) {d0 d1 d2 d3 : DataW H} {p0 p1 p2 p3 : List MemPlace}
    (h0 : DataW.Trod enc Try.prog W 0 (fun _ => true) true 3 v0 d0 p0) (o0 : Value.okWide Try.prog W .any base 3 v0)
    (h1 : DataW.Trod enc Try.prog W 0 (fun _ => true) true 28 v1 d1 p1) (o1 : Value.okWide Try.prog W .any base 28 v1)
    (h2 : DataW.Trod enc Try.prog W 0 (fun _ => true) true 22 v2 d2 p2) (o2 : Value.okWide Try.prog W .any base 22 v2)
    (h3 : DataW.Trod enc Try.prog W 0 (fun _ => true) true 22 v3 d3 p3) (o3 : Value.okWide Try.prog W .any base 22 v3)
    (hk : Rows.uptoBulkAll [d0, d1, d2, d3] ≤ 1048576) :
    Calls Try.prog 21 #[v0, v1, v2, v3] W fun e w' => e = .returned (.bool true) ∧ Below W.heap.size W w' := by
  obtain ⟨x, rfl, rfl, rfl, wx⟩ := open_int Try.underlying3 o0 h0
  obtain ⟨Z, hz, hZ, _⟩ := open_cls h1 o1
  obtain ⟨C, lc, cc, cs, rfl, hc, hcc, _, hlc⟩ := open_lits h2 o2
  obtain ⟨D, ld, cd, ds, rfl, hd, hdd, _, hld⟩ := open_lits h3 o3
  simp only [Rows.uptoBulkAll] at hk
  exact satHolds_any x v1 Z C lc cc cs D ld cd ds W hz (by omega) hc hcc hd hdd
end Go.Proofs.Ytghfelfljblkbaa
