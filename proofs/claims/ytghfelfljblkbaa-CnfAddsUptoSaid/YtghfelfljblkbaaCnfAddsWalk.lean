/- CnfAdds: the walk. -/
import Derived.Test.YtghfelfljblkbaaHalf
import Derived.Test.YtghfelfljblkbaaAt
import Derived.Test.YtghfelfljblkbaaSameL
import Derived.Test.YtghfelfljblkbaaOpenB
namespace Go.Proofs.Ytghfelfljblkbaa
open Go.RowKit Go.Sort
set_option linter.unusedVariables false

set_option maxRecDepth 100000 in
set_option maxHeartbeats 8000000 in
theorem cnfAdds_any (x : Int) (v : Value) (Z : List (List Int)) (B : Option Addr) (lb cb : Nat) (bs : List Bool) (w : World) (hz : ClsAt w v Z) (hZ : Z.length ≤ 4294967296) (hb : Bools w B lb bs) (hlb : lb ≤ cb) (hcb : cb ≤ maxLen) :
    Calls Try.prog 8 #[.int .i64 x, v, .slice B lb cb] w fun e w' => e = .returned (.bool true) ∧ Below w.heap.size w w' := by
  have hlb2 : lb ≤ 9223372036854775807 := by unfold maxLen at hcb; omega
  have HZ := Lib.hid hz
  have HB := Lib.hid hb
  obtain ⟨AZ, cZ, rfl, _, _, _⟩ := hz
  have HN := Lib.hid (New_any x w)
  have HRN := Lib.hid (fun W => RNew_any x W)
  generalize vars x = n at *
  clear hb
  go_enter Try.func8, Try.ntmps8
  go_wp2_with fail
  go_at_call 29
  refine HN.out.mono ?_
  rintro e w1 ⟨p, rfl, hs1, hb1, hp⟩
  have HS1 := Lib.hid hs1
  have HB1 := Lib.hid hb1
  clear hs1 hb1 HN
  go_wp2_with fail
  go_at_call 34
  refine (HRN.out w1).mono ?_
  rintro e w2 ⟨q, rfl, hr2, hb2, hq⟩
  have hlo : ∀ k, sF p none k ∨ sF q none k → w.heap.size ≤ k := fun k hk => by
    rcases hk with (rfl | hk) | (rfl | hk)
    · exact hp
    · cases hk
    · exact Nat.le_trans HB1.out.size hq
    · cases hk
  have hne : ∀ k, sF p none k → ¬ sF q none k := fun k h1 h2 => by
    have hpl := HS1.out.blk.lt
    rcases h1 with rfl | h1
    · rcases h2 with rfl | h2
      · omega
      · cases h2
    · cases h1
  have HT0 : Hid (Two w w2 p q none none 0 0 n []) := Lib.hid ⟨HS1.out.below hb2, hr2, HB1.out.trans (hb2.mono HB1.out.size), hlo, hne, fun c hc => by cases hc⟩
  have HVR : Hid (∀ W, Below w2.heap.size w2 W → Calls Try.prog 35 #[.pointer (some ⟨p, 0, none⟩)] W fun e w' => e = .returned (.int .i64 (n : Int)) ∧ W = w') := Lib.hid (fun W hW => Vars_any p 0 n none [] W (HT0.out.s.below hW))
  have kq : w2.cell? ⟨q, 0, none⟩ = some (.int .i64 (n : Int)) := HT0.out.r.blk.cell 0
  have hnn : ((n : Int) != (n : Int)) = false := by simp
  have hb0 : Below w2.heap.size w2 w2 := Below.refl _ _
  have hb0' : Below w2.heap.size w2 w2.drew := ⟨rfl, rfl, rfl, Nat.le_refl _, fun _ _ => rfl⟩
  clear hr2 hb2 hq hp HS1 HB1 HRN hlo hne
  go_upto_region 2 with fail
  go_cut [29] (fun v wx => v = .bool false ∧ Hid (Two w wx p q none none 0 0 n []))
  case first =>
    go_region_with (go_at_call 35; refine (HVR.out _ (by assumption)).mono ?_; rintro e wb ⟨rfl, rfl⟩)
    all_goals
      go_wp2_with fail
      go_meet
      exact ⟨rfl, Lib.hid (HT0.out.below (by assumption))⟩
  case rest =>
    obtain ⟨rfl, HT1⟩ := hcut
    clear HT0 HVR kq hnn hb0 hb0'
    go_wp2_with fail
    go_loopw [32] (fun t wr => ∃ (i : Nat) (A A2 : Option Addr) (ca ca2 : Nat) (L : List (List Int)), t = .int .i64 (i : Int) ∧ i ≤ Z.length ∧ Hid (Two w wr p q A A2 ca ca2 n L)) (fun t _ => Z.length - (match t with | .int _ x => x.toNat | _ => 0))
    case atStart => exact ⟨0, none, none, 0, 0, [], rfl, Nat.zero_le _, HT1⟩
    case round =>
      obtain ⟨i, A, A2, ca, ca2, L, rfl, hi, HT⟩ := hrel
      clear HT1
      by_cases hlt : i < Z.length
      · obtain ⟨_, _, hv, _, _, hrow⟩ := HZ.out
        cases hv
        obtain ⟨g, o, Aj, cj, hA, k1w, _, _, hlj⟩ := hrow i hlt
        subst hA
        obtain ⟨c, hc⟩ : ∃ c, c = Z[i] := ⟨_, rfl⟩
        rw [← hc] at k1w hlj
        obtain ⟨m, hm⟩ : ∃ m, m = c.length := ⟨_, rfl⟩
        rw [← hm] at k1w hlj
        have k1 : wr.cell? ⟨g, o + i, none⟩ = some (.slice Aj m cj) := (HT.out.bel.cell (World.block_lt_of_cell? w _ k1w)).trans k1w
        have HM := Lib.hid hm
        have HLJ := Lib.hid hlj
        have i1 : (i : Int) < (Z.length : Int) := by omega
        clear hrow hc hlj hm k1w
        by_cases h40 : i < 40
        · have h1 : decide ((40 : Int) ≤ (i : Int)) = false := decide_eq_false (by omega)
          by_cases h20 : m ≤ 20
          · have h2 : decide ((20 : Int) < (m : Int)) = false := decide_eq_false (by omega)
            go_upto_region 9 with fail
            go_cut [53] (fun v53 wx => wx = wr ∧ ∃ bb, v53 = .bool bb)
            case first =>
              by_cases hil : i < lb
              · obtain ⟨b', o', hB, hbl, hcell⟩ := HB.out.2 (by omega)
                subst hB
                have kb : wr.cell? ⟨b', o' + i, none⟩ = some (.bool (bs.getD i false)) := (HT.out.bel.cell hbl).trans (hcell i hil)
                have p1 : (i : Int) < (lb : Int) := by omega
                generalize bs.getD i false = bi at kb
                clear hcell
                go_wp2_with fail
                go_meet
                exact ⟨rfl, bi, rfl⟩
              · have p1 : decide ((i : Int) < (lb : Int)) = false := decide_eq_false (by omega)
                go_wp2_with fail
                go_meet
                exact ⟨rfl, false, rfl⟩
            case rest =>
              obtain ⟨rfl, bb, rfl⟩ := hcut
              go_upto_if 53 with fail
              go_cut [11, 12] (fun v11 v12 wx => ∃ (ok : Bool) (A3 A4 : Option Addr) (c3 c4 : Nat) (L4 : List (List Int)), v11 = .bool ok ∧ v12 = .bool ok ∧ Hid (Two w wx p q A3 A4 c3 c4 n L4))
              case first =>
                cases bb with
                | true =>
                  have HA := Lib.hid (AtMost_any p ca n A L Aj m cj c _ HT.out.s (HLJ.out.below HT.out.bel) (by omega))
                  go_wp2_with fail
                  go_at_call 33
                  refine HA.out.mono ?_
                  rintro e w3 ⟨rfl, hu3, A3, c3, hs3, hf3⟩
                  have HH := Lib.hid (HT.out.fst hu3 hs3 hf3)
                  have HRA := Lib.hid (RAtMost_any q ca2 n A2 L Aj m cj c w3 HH.out.r (HLJ.out.below HH.out.bel) (by omega))
                  clear hu3 hs3 hf3 HA
                  go_wp2_with fail
                  go_at_call 36
                  refine HRA.out.mono ?_
                  rintro e w4 ⟨rfl, hu4, A4, c4, hr4, hf4⟩
                  have HTW := Lib.hid (HH.out.snd hu4 hr4 hf4 (fun d hd => by
                    rcases atL_mem hd with h | h
                    · exact HT.out.short d h
                    · omega))
                  clear hu4 hr4 hf4
                  generalize (atL n L c).1 = ok
                  go_wp2_with fail
                  go_meet
                  exact ⟨_, A3, A4, c3, c4, _, rfl, rfl, HTW⟩
                | false =>
                  have HA := Lib.hid (Add_any p ca n A L Aj m cj c _ HT.out.s (HLJ.out.below HT.out.bel) (by omega))
                  go_wp2_with fail
                  go_at_call 28
                  refine HA.out.mono ?_
                  rintro e w3 ⟨rfl, hu3, A3, c3, hs3, hf3⟩
                  have HH := Lib.hid (HT.out.fst hu3 hs3 hf3)
                  have HRA := Lib.hid (RAdd_any q ca2 n A2 L Aj m cj c w3 HH.out.r (HLJ.out.below HH.out.bel) (by omega))
                  clear hu3 hs3 hf3 HA
                  go_wp2_with fail
                  go_at_call 37
                  refine HRA.out.mono ?_
                  rintro e w4 ⟨rfl, hu4, A4, c4, hr4, hf4⟩
                  have HTW := Lib.hid (HH.out.snd hu4 hr4 hf4 (fun d hd => by
                    rcases addL_mem hd with h | h
                    · exact HT.out.short d h
                    · have := HM.out; omega))
                  clear hu4 hr4 hf4
                  go_wp2_with fail
                  go_meet
                  exact ⟨_, A3, A4, c3, c4, _, rfl, rfl, HTW⟩
              case rest =>
                obtain ⟨ok, A3, A4, c3, c4, L4, rfl, rfl, HT4⟩ := hcut
                clear HT HLJ HM k1
                have HLN : Hid (∀ (W : World), Below wc.heap.size wc W → Calls Try.prog 32 #[.pointer (some ⟨p, 0, none⟩)] W fun e w' => e = .returned (.int .i64 (L4.length : Int)) ∧ W = w') := Lib.hid (fun W hW => Len_any p c3 n A3 L4 W (HT4.out.s.below hW))
                have kq : wc.cell? ⟨q, 1, none⟩ = some (.slice A4 L4.length c4) := HT4.out.r.blk.cell 1
                have hnn : ((L4.length : Int) != (L4.length : Int)) = false := by simp
                have hoo : (ok != ok) = false := by simp
                have hb0 : Below wc.heap.size wc wc := Below.refl _ _
                have hb0' : Below wc.heap.size wc wc.drew := ⟨rfl, rfl, rfl, Nat.le_refl _, fun _ _ => rfl⟩
                have hlen := HT4.out.s.len
                go_upto_region 12 with fail
                go_cut [78] (fun v78 wx => v78 = .bool false ∧ Hid (Two w wx p q A3 A4 c3 c4 n L4))
                case first =>
                  have HQ : Hid (∀ k, Calls Try.prog 32 #[.pointer (some ⟨p, 0, none⟩)] (wc.drewN k) fun e w' => e = .returned (.int .i64 (L4.length : Int)) ∧ wc.drewN k = w') := Lib.hid (fun k => HLN.out _ ⟨rfl, rfl, rfl, Nat.le_refl _, fun _ _ => rfl⟩)
                  go_quiet ((go_at_call 32; exact ((HQ.out _).mono fun e w' h => ⟨h.1, _, h.2.symm⟩)))
                  all_goals
                    go_wp2_with fail
                    go_meet
                    exact ⟨rfl, Lib.hid (HT4.out.below ⟨rfl, rfl, rfl, Nat.le_refl _, fun _ _ => rfl⟩)⟩
                case rest =>
                  obtain ⟨rfl, HT5⟩ := hcut
                  clear HLN kq hnn hoo hb0 hb0' hlen HT4
                  go_wp2_with fail
                  refine ⟨⟨i + 1, A3, A4, c3, c4, L4, by go_num, by omega, HT5⟩, ?_⟩
                  show Z.length - ((i : Int) + 1).toNat < Z.length - (i : Int).toNat
                  omega
          · have h2 : decide ((20 : Int) < (m : Int)) = true := decide_eq_true (by omega)
            go_wp2_with fail
            refine ⟨⟨i + 1, A, A2, ca, ca2, L, by go_num, by omega, HT⟩, ?_⟩
            show Z.length - ((i : Int) + 1).toNat < Z.length - (i : Int).toNat
            omega
        · have h1 : decide ((40 : Int) ≤ (i : Int)) = true := decide_eq_true (by omega)
          go_wp2_with fail
          refine ⟨⟨i + 1, A, A2, ca, ca2, L, by go_num, by omega, HT⟩, ?_⟩
          show Z.length - ((i : Int) + 1).toNat < Z.length - (i : Int).toNat
          omega
      · have hil : i = Z.length := by omega
        have hlen := HT.out.s.len
        have kq : wr.cell? ⟨q, 1, none⟩ = some (.slice A2 L.length ca2) := HT.out.r.blk.cell 1
        clear hil HZ HB
        go_wp2_with fail
        go_loopw [85] (fun t wx => ∃ (i : Nat), t = .int .i64 (i : Int) ∧ i ≤ L.length ∧ Hid (Two w wx p q A A2 ca ca2 n L)) (fun t _ => L.length - (match t with | .int _ x => x.toNat | _ => 0))
        case atStart => exact ⟨0, rfl, Nat.zero_le _, HT⟩
        case round =>
          obtain ⟨i, rfl, hi, HT'⟩ := hrel
          clear HT kq
          have hsh : ∀ r ∈ L, r.length ≤ 1048576 := fun r hr => by have := HT'.out.short r hr; omega
          by_cases hlt' : i < L.length
          · obtain ⟨xs, hox, hix⟩ := HT'.out.r.row
            obtain ⟨g, Aj, cj, hA, kg, hlj⟩ := row_cell hox hix hlt'
            subst hA
            have hg : L.getD i [] = L[i] := by rw [List.getD_eq_getElem?_getD, List.getElem?_eq_getElem hlt']; rfl
            have HAT := At_any p ca n A L (i : Int) _ HT'.out.s hsh
            rw [if_pos (by omega), Int.toNat_natCast, hg] at HAT
            obtain ⟨r, hr⟩ : ∃ r, r = L[i] := ⟨_, rfl⟩
            have hrl : r.length ≤ 1048576 := by rw [hr]; exact hsh _ (List.getElem_mem hlt')
            rw [← hr] at kg hlj HAT
            obtain ⟨d, hd⟩ : ∃ d, d = r.length := ⟨_, rfl⟩
            rw [← hd] at kg hlj
            have HD := Lib.hid hd
            have HAT' := Lib.hid HAT
            have HLJ := Lib.hid hlj
            have i1 : (i : Int) < (L.length : Int) := by omega
            clear hox hix hlj hr hg HAT hd hsh
            go_wp2_with fail
            go_at_call 38
            refine HAT'.out.mono ?_
            rintro e w3 ⟨v3, rfl, ho3, hb3⟩
            obtain ⟨A3, c3, rfl, hl3, _⟩ := ho3.lits HLJ.out.2.1
            rw [← HD.out] at hl3 ⊢
            have HSM := SameLits_any A3 Aj d d c3 cj r r w3 hl3 (HLJ.out.below hb3) (by have := HD.out; omega)
            rw [decide_eq_true rfl] at HSM
            have HSM' := Lib.hid HSM
            have HT3 := Lib.hid (HT'.out.below hb3)
            clear ho3 hb3 hl3 HSM HAT' kg
            go_wp2_with fail
            go_at_call 25
            refine HSM'.out.mono ?_
            rintro e w4 ⟨rfl, hb4⟩
            have HT4 := Lib.hid (HT3.out.below hb4)
            clear hb4
            go_wp2_with fail
            refine ⟨⟨i + 1, by go_num, by omega, HT4⟩, ?_⟩
            show L.length - ((i : Int) + 1).toNat < L.length - (i : Int).toNat
            omega
          · have hil' : (i : Int) = (L.length : Int) := by omega
            have HA1 : Hid (∀ (i : Int) W, (i < 0 ∨ (L.length : Int) ≤ i) → Below wr.heap.size wr W → Calls Try.prog 38 #[.pointer (some ⟨p, 0, none⟩), .int .i64 i] W fun e w' => ∃ A c, e = .returned (.slice A 0 c) ∧ Below W.heap.size W w') := Lib.hid (fun i W hi9 hW => (At_any p ca n A L i W (HT'.out.s.below hW) hsh).mono (fun e w' h => by
              obtain ⟨v, rfl, ho, hb⟩ := h
              have he : (if 0 ≤ i then L.getD i.toNat [] else []) = [] := by
                split
                · rw [List.getD_eq_getElem?_getD, List.getElem?_eq_none (by omega)]; rfl
                · rfl
              rw [he] at ho
              obtain ⟨A, c, rfl, _⟩ := ho.lits (by simp)
              exact ⟨A, c, rfl, hb⟩))
            have HKQ : Hid (∀ W, Below wr.heap.size wr W → W.cell? ⟨q, 1, none⟩ = some (.slice A2 L.length ca2)) := Lib.hid (fun W hW => (HT'.out.r.below hW).blk.cell 1)
            have HBW : Hid (Below w.heap.size w wr) := Lib.hid HT'.out.bel
            have hb0 : Below wr.heap.size wr wr := Below.refl _ _
            have kq := HKQ.out wr hb0
            clear hsh HT'
            go_wp2_with (first
              | (go_at_call 38
                 refine (HA1.out _ _ (by first | exact .inl (by decide) | exact .inr (Int.le_refl _)) (by assumption)).mono ?_
                 rintro e wa ⟨Aa, cca, rfl, hba⟩
                 have hbA : Below wr.heap.size wr wa := (show Below wr.heap.size wr _ from by assumption).trans (hba.mono (show Below wr.heap.size wr _ from by assumption).size)
                 have hkq := HKQ.out wa hbA
                 clear hba)
              | (go_at_call 22
                 refine (awake_any _).mono ?_
                 rintro e wa3 ⟨rfl, hba⟩
                 have hbA3 : Below wr.heap.size wr wa3 := (show Below wr.heap.size wr _ from by assumption).trans (hba.mono (show Below wr.heap.size wr _ from by assumption).size)
                 clear hba))
            go_ret
            exact ⟨rfl, HBW.out.trans ((show Below wr.heap.size wr _ from by assumption).mono HBW.out.size)⟩
open Go.ChangeShapes Go.WideShapes Go.ChangeAt in
set_option maxRecDepth 100000 in
theorem cnfAdds_walk {H : Type} {enc : TypeId × Value → H} (W : World) {base : Nat} (v0 v1 v2 : Value) {d0 d1 d2 : DataW H} {p0 p1 p2 : List MemPlace}
    (h0 : DataW.Trod enc Try.prog W 0 (fun _ => true) true 3 v0 d0 p0) (o0 : Value.okWide Try.prog W .any base 3 v0)
    (h1 : DataW.Trod enc Try.prog W 0 (fun _ => true) true 28 v1 d1 p1) (o1 : Value.okWide Try.prog W .any base 28 v1)
    (h2 : DataW.Trod enc Try.prog W 0 (fun _ => true) true 29 v2 d2 p2) (o2 : Value.okWide Try.prog W .any base 29 v2)
    (hk : Rows.uptoBulkAll [d0, d1, d2] ≤ 1048576) :
    Calls Try.prog 8 #[v0, v1, v2] W fun e w' => e = .returned (.bool true) ∧ Below W.heap.size W w' := by
  obtain ⟨x, rfl, rfl, rfl, wx⟩ := open_int Try.underlying3 o0 h0
  obtain ⟨Z, hz, hZ, _⟩ := open_cls h1 o1
  obtain ⟨B, lb, cb, bs, rfl, hb, hlb, hcb⟩ := open_bs h2 o2
  simp only [Rows.uptoBulkAll] at hk
  exact cnfAdds_any x v1 Z B lb cb bs W hz (by omega) hb hlb hcb
end Go.Proofs.Ytghfelfljblkbaa
