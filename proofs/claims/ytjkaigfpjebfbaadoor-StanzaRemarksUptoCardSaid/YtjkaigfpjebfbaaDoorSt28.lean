/- chandlerref4.Print. -/
import Derived.Test.YtjkaigfpjebfbaaDoorSt27
import Derived.Test.YtjkaigfpjebfbaaDoorSt12
import Derived.StillTailTactics
import Derived.Deep.CutRange
namespace Go.Proofs.YtjkaigfpjebfbaaDoor
open Go.RowKit
set_option linter.unusedVariables false

theorem jn_lns_len {nm : ByteArray} : ∀ {ls : List ByteArray} {k : Nat}, longAny nm ls k = false → (jn (lns nm ls k)).length ≤ 1001 * ls.length
  | [], k, _ => Nat.zero_le _
  | s :: r, k, h => by
    have h0 := h
    simp only [longAny, Bool.or_eq_false_iff, decide_eq_false_iff_not] at h
    have ih := jn_lns_len h.2
    show (bl (lineB nm k s) ++ [10] ++ jn (lns nm r (k + 1))).length ≤ _
    rw [List.length_append, List.length_append, List.length_cons, bl_len]
    simp only [List.length_cons, List.length_nil]
    omega
set_option maxRecDepth 100000 in
set_option maxHeartbeats 4000000 in
theorem RPrint_any (v : Value) (L : List St) (w : World) (h : StzAt w v L) (hL : L.length ≤ 1048576) (hF : ∀ s ∈ L, s.fs.length ≤ 1048576 ∧ ∀ f ∈ s.fs, f.n.size ≤ 1048576 ∧ lsum f.ls ≤ 4194304) :
    Calls Tryd.prog 23 #[v] w fun e w' => ∃ u, e = .returned (.tuple #[u, .int .i64 ((printE L : Nat) : Int)]) ∧ BytesAt w' u (printT L) ∧ Below w.heap.size w w' := by
  obtain ⟨R, hR⟩ : ∃ R, R = printE L := ⟨_, rfl⟩
  obtain ⟨T, hT0⟩ : ∃ T, T = printT L := ⟨_, rfl⟩
  have HC : Hid (PrR R T L) := Lib.hid (by rw [hR, hT0]; exact PrR.of L)
  rw [← hR, ← hT0]
  obtain ⟨G, A, c, xs, rfl, hc, hr, hsv⟩ := h
  obtain ⟨n, hn⟩ : ∃ n, n = L.length := ⟨_, rfl⟩
  rw [← hn] at hc hr hL ⊢
  have HN := Lib.hid hn
  have HRW := Lib.hid hr
  have HSV := Lib.hid hsv
  have HF := Lib.hid hF
  obtain ⟨i0, hi0, hz0, hz1, hz2⟩ := info_parts u8_row
  clear hR hT0 hr hsv hF hn
  by_cases h200 : 200 < n
  · have HE : Hid (R = 12 ∧ T = ⟨#[]⟩) := Lib.hid (HC.out.many (by rw [← HN.out]; exact h200))
    have h200' : (200 : Int) < (n : Int) := by omega
    clear h200 hi0 hz0 hz1 hz2
    go_enter Tryd.func23, Tryd.ntmps23
    go_wp2_with fail
    exact bodyPost_ret (v := .tuple #[.slice none 0 0, .int .i64 12]) (by simp [results, Tryd.results23, go_sem]) rfl ⟨.slice none 0 0, by rw [HE.out.1]; rfl, by rw [HE.out.2]; exact BytesAt.nil _, Below.refl _ _⟩
  have h200' : ¬ (200 : Int) < (n : Int) := by omega
  have HSM : Hid (L.length ≤ 200) := Lib.hid (by rw [← HN.out]; omega)
  go_enter Tryd.func23, Tryd.ntmps23
  go_wp2_with fail
  go_loopw [16, 4] (fun t u wr => ∃ (i : Nat) (O : List UInt8), t = .int .i64 (i : Int) ∧ i ≤ n ∧ Hid (stsR L = stsR (L.drop i)) ∧ Hid (O = jn (linesP (L.take i))) ∧ O.length ≤ 170000000000 * i ∧ Hid (Out w wr u O)) (fun t _ _ => n - (match t with | .int _ x => x.toNat | _ => 0))
  case atStart => exact ⟨0, [], rfl, Nat.zero_le _, Lib.hid rfl, Lib.hid rfl, Nat.zero_le _, Lib.hid (Out.start w)⟩
  case round =>
    obtain ⟨i, O, rfl, hi, HI, HO, hOl, HU⟩ := hrel
    obtain ⟨uA, uc, rfl⟩ := HU.out.shape
    by_cases hlt : i < n
    case neg =>
      have hln : ¬ (i : Int) < (n : Int) := by omega
      have HS0 : Hid (stsR L = 0) := Lib.hid (by rw [HI.out]; exact stsR_end (by rw [← HN.out]; omega))
      have HJ : Hid (jn (linesP L) = O) := Lib.hid (by rw [HO.out, List.take_of_length_le (by rw [← HN.out]; omega)])
      have HBY := Lib.hid HU.out.bytes
      obtain ⟨m, hm⟩ : ∃ m, m = O.length := ⟨_, rfl⟩
      rw [← hm] at hOl HBY ⊢
      by_cases hb : 65536 < m
      · have HE := Lib.hid (HC.out.long HSM.out HS0.out O HJ.out (by rw [← hm]; exact hb))
        have hb' : (65536 : Int) < (m : Int) := by omega
        clear hb hm
        go_wp2_with fail
        exact bodyPost_ret (v := .tuple #[.slice none 0 0, .int .i64 2]) (by simp [results, Tryd.results23, go_sem]) rfl ⟨.slice none 0 0, by rw [HE.out.1]; rfl, by rw [HE.out.2]; exact BytesAt.nil _, HU.out.2⟩
      · have HE := Lib.hid (HC.out.ok HSM.out HS0.out O HJ.out (by rw [← hm]; exact hb))
        have hb' : ¬ (65536 : Int) < (m : Int) := by omega
        clear hb hm
        go_wp2_with fail
        exact bodyPost_ret (v := .tuple #[.slice uA m uc, .int .i64 0]) (by simp [results, Tryd.results23, go_sem]) rfl ⟨.slice uA m uc, by rw [HE.out.1]; rfl, by rw [HE.out.2]; exact HBY.out, HU.out.2⟩
    have hln : (i : Int) < (n : Int) := by omega
    have hil : i < L.length := by have := HN.out; omega
    obtain ⟨g, o, rfl, hcg⟩ := HRW.out.cells (by omega)
    obtain ⟨e1, FA, fc, fx, e2, hfc, hfr, hfv⟩ := HSV.out.at_ i hil
    obtain ⟨s, hs⟩ : ∃ s, s = L[i] := ⟨_, rfl⟩
    have hst := stsR_step hil
    have hlp := linesP_step hil
    have hsz := HF.out _ (List.getElem_mem hil)
    rw [← hs] at e1 e2 hfc hfr hfv hst hlp hsz
    obtain ⟨ln, F⟩ := s
    simp only at e1 e2 hfc hfr hfv hst hsz
    obtain ⟨p, hp⟩ : ∃ p, p = F.length := ⟨_, rfl⟩
    rw [← hp] at e2 hfc hfr hst hsz
    have k1 : wr.cell? ⟨g, o + i * 2, none⟩ = some (.int .i64 ln) := hcg wr HU.out.2 _ _ e1
    have k2 : wr.cell? ⟨g, o + i * 2 + 1, none⟩ = some (.slice FA p fc) := hcg wr HU.out.2 _ _ e2
    have HP := Lib.hid hp
    have HST := Lib.hid hst
    have HLP := Lib.hid hlp
    have HFR := Lib.hid hfr
    have HFV := Lib.hid hfv
    have HSZ := Lib.hid hsz
    obtain ⟨m, hm⟩ : ∃ m, m = O.length := ⟨_, rfl⟩
    rw [← hm] at hOl ⊢
    have HM := Lib.hid hm
    clear hcg e1 e2 hs hst hlp hfr hfv hsz hp hm
    go_upto_region 7 with fail
    obtain ⟨b, hb⟩ : ∃ b, b = wr.heap.size := ⟨_, rfl⟩
    obtain ⟨w1, hw1⟩ : ∃ w1, w1 = wr.alloc (.cells #[.int .i64 ln, .slice FA p fc] 34) := ⟨_, rfl⟩
    have HK1 : Hid (Blk w1 b 34 #[.int .i64 ln, .slice FA p fc]) := Lib.hid (by rw [hw1, hb]; exact Blk.new wr _ _)
    have HU1 : Hid (Out w w1 (.slice uA m uc) O) := Lib.hid (by rw [hw1, HM.out]; exact HU.out.later ((Below.refl _ _).alloc (Nat.le_refl _) _))
    have HQ : Hid (w.heap.size ≤ b) := Lib.hid (by rw [hb]; exact HU.out.2.size)
    have c1 : w1.cell? ⟨b, 1, none⟩ = some (.slice FA p fc) := HK1.out.cell 1
    rw [← hw1, ← hb]
    clear hw1 hb k1 k2 HU
    by_cases p0 : p = 0
    · have HE := Lib.hid (HC.out.err HSM.out 12 (by rw [HI.out, HST.out, if_pos (.inl p0)]) (by decide))
      have p0' : ((p : Int) == 0) = true := by rw [beq_iff_eq]; omega
      clear p0
      go_wp2_with fail
      exact bodyPost_ret (v := .tuple #[.slice none 0 0, .int .i64 12]) (by simp [results, Tryd.results23, go_sem]) rfl ⟨.slice none 0 0, by rw [HE.out.1]; rfl, by rw [HE.out.2]; exact BytesAt.nil _, HU1.out.2⟩
    have p0' : ((p : Int) == 0) = false := by rw [beq_eq_false_iff_ne]; omega
    by_cases p40 : 40 < p
    · have HE := Lib.hid (HC.out.err HSM.out 12 (by rw [HI.out, HST.out, if_pos (.inr p40)]) (by decide))
      have p40' : (40 : Int) < (p : Int) := by omega
      clear p0 p40
      go_wp2_with fail
      exact bodyPost_ret (v := .tuple #[.slice none 0 0, .int .i64 12]) (by simp [results, Tryd.results23, go_sem]) rfl ⟨.slice none 0 0, by rw [HE.out.1]; rfl, by rw [HE.out.2]; exact BytesAt.nil _, HU1.out.2⟩
    have p40' : ¬ (40 : Int) < (p : Int) := by omega
    have HST2 : Hid (stsR L = if fieldsR [] F ≠ 0 then fieldsR [] F else stsR (L.drop (i + 1))) := Lib.hid (by rw [HI.out, HST.out, if_neg (by omega)])
    clear HST HI p0
    go_upto_if 32 with fail
    go_cut [4] (fun u wx => ∃ O' : List UInt8, Hid (Out w wx u O') ∧ Hid (O' = O ++ jn (if 0 < i then [[]] else [])) ∧ Hid (Blk wx b 34 #[.int .i64 ln, .slice FA p fc]) ∧ O'.length ≤ m + 1)
    case first =>
      by_cases hpos : 0 < i
      · have hpos' : (0 : Int) < (i : Int) := by omega
        have HQ9 : Hid (O ++ [10] = O ++ jn (if 0 < i then [[]] else [])) := Lib.hid (by rw [if_pos hpos]; rfl)
        have HOW : Hid (w1.ownsRow w.heap.size 5 1 (.slice uA m uc) m (encU O)) := Lib.hid (by have := HU1.out.1; rw [← HM.out] at this; exact this)
        clear hpos
        go_wp2_with (at_builtin; refine wpList_append_any _ rfl (.tmp 33) (.tmp 34) 22 rfl w.heap.size 5 i0 (.int .u8 0) 1 1 Tryd.underlying22 hi0 hz0 hz1 hz2 rfl (by decide) (.slice uA m uc) m (encU O) rfl (HOW.out.alloc _) (w1.heap.size + 1) (some ⟨w1.heap.size, 0, none⟩) 1 1 [.int .u8 10] rfl (reads_one (Blk.new w1 _ _) (by simp)) (fun u hu => by simp at hu; subst hu; rfl) (by unfold maxLen; omega) (by omega) (Nat.le_trans HU1.out.2.size (by simp)) ?_; intro v5 w5 hown5 hg5 hat5; have HG5 := Lib.hid hg5; have HW5 := Lib.hid hown5; clear hown5 hg5 hat5)
        go_meet
        have h9 : Out w w5 v5 (O ++ [10]) := (HU1.out.later (W := w1.alloc (.cells #[.int .u8 10] 5)) ((Below.refl _ _).alloc (Nat.le_refl _) _)).add (x := [10]) (m := 1) rfl (by rw [← HM.out]; exact HW5.out) HG5.out
        refine ⟨O ++ [10], Lib.hid h9, HQ9, Lib.hid ?_, by rw [List.length_append, ← HM.out]; simp⟩
        exact (HK1.out.alloc _).grown HG5.out (fun e => own_blk_ne HOW.out HK1.out (by decide) e.symm)
      · have hpos' : ¬ (0 : Int) < (i : Int) := by omega
        have HQ9 : Hid (O = O ++ jn (if 0 < i then [[]] else [])) := Lib.hid (by rw [if_neg hpos]; exact (List.append_nil O).symm)
        clear hpos
        go_wp2_with fail
        go_meet
        exact ⟨O, HU1, HQ9, HK1, by rw [← HM.out]; omega⟩
    case rest =>
      obtain ⟨O1, HU2, HO1, HK2, hO1⟩ := hcut
      rename World => w2
      have c1 : w2.cell? ⟨b, 1, none⟩ = some (.slice FA p fc) := HK2.out.cell 1
      clear HU1 HK1
      have HGO : Hid (O1 = jn (linesP (L.take i)) ++ jn (if 0 < i then [[]] else [])) := Lib.hid (by rw [HO1.out, HO.out])
      have HM2 : Hid (m ≤ 170000000000 * i) := Lib.hid hOl
      obtain ⟨u1A, u1c, rfl⟩ := HU2.out.shape
      go_upto_region 12 with fail
      clear c1
      have hO1b : O1.length ≤ 170000000000 * i + 1 := by have := HM2.out; omega
      obtain ⟨z, hz⟩ : ∃ z, z = O1.length := ⟨_, rfl⟩
      rw [← hz] at hO1b HU2 ⊢
      have HZ := Lib.hid hz
      clear hz HO1 HO hO1
      go_loopw [39, 4] (fun t u wx => ∃ (k : Nat) (O : List UInt8), t = .int .i64 (k : Int) ∧ k ≤ p ∧ Hid (fieldsR [] F = fieldsR (F.take k) (F.drop k)) ∧ Hid (O = O1 ++ jn ((F.take k).flatMap linesF)) ∧ O.length ≤ z + 4200000000 * k ∧ Hid (Out w wx u O ∧ Blk wx b 34 #[.int .i64 ln, .slice FA p fc])) (fun t _ _ => p - (match t with | .int _ x => x.toNat | _ => 0))
      case atStart => exact ⟨0, O1, rfl, Nat.zero_le _, Lib.hid rfl, Lib.hid (List.append_nil O1).symm, by rw [← HZ.out]; omega, Lib.hid ⟨HU2.out, HK2.out⟩⟩
      case round =>
        obtain ⟨k, OK, rfl, hk, HI3, HO3, hO3, HU3⟩ := hrel
        rename World => wx
        obtain ⟨vA, vc, rfl⟩ := HU3.out.1.shape
        clear HU2 HK2
        by_cases hkt : k < p
        case neg =>
          have hkn : ¬ (k : Int) < (p : Int) := by omega
          have HF0 : Hid (fieldsR [] F = 0) := Lib.hid (by rw [HI3.out]; exact fieldsR_end (by rw [← HP.out]; omega))
          have HI4 : Hid (stsR L = stsR (L.drop (i + 1))) := Lib.hid (by rw [HST2.out, if_neg (by rw [HF0.out]; simp)])
          have HO4 : Hid (OK = jn (linesP (L.take (i + 1)))) := Lib.hid (by
            have hlp := HLP.out
            have ht : F.take k = F := List.take_of_length_le (by rw [← HP.out]; omega)
            rw [HO3.out, HGO.out, hlp, jn_app, jn_app, ht, List.append_assoc]
            rfl)
          have hkp : k ≤ 40 := by omega
          clear HST2
          go_wp2_with fail
          refine ⟨⟨i + 1, OK, by go_num, by omega, HI4, HO4, by omega, Lib.hid HU3.out.1⟩, ?_⟩
          show n - ((i : Int) + 1).toNat < n - (i : Int).toNat
          omega
        have hkn : (k : Int) < (p : Int) := by omega
        have hkl : k < F.length := by have := HP.out; omega
        obtain ⟨fg, fo, rfl, hcf⟩ := HFR.out.cells (by omega)
        obtain ⟨e1, lv, e2, HLV⟩ := HFV.out.at_ k hkl
        obtain ⟨f, hf⟩ : ∃ f, f = F[k] := ⟨_, rfl⟩
        have hst := fieldsR_step hkl
        have hlp := linesF_step hkl
        have hsz := (HSZ.out).2 _ (List.getElem_mem hkl)
        rw [← hf] at e1 HLV hst hlp hsz
        obtain ⟨nm, ls⟩ := f
        simp only at e1 HLV hsz
        obtain ⟨LA, lc, rfl, hlc, hlr⟩ := HLV
        have k1 : wx.cell? ⟨fg, fo + k * 2, none⟩ = some (.string nm) := hcf wx HU3.out.1.2 _ _ e1
        have k2 : wx.cell? ⟨fg, fo + k * 2 + 1, none⟩ = some (.slice LA ls.length lc) := hcf wx HU3.out.1.2 _ _ e2
        have HMF : Hid (∀ W, Below w.heap.size w W → Calls Tryd.prog 36 #[.agg #[.string nm, .slice LA ls.length lc], .slice (some ⟨fg, fo, none⟩) k fc] W fun e w' => e = .returned (.tuple #[.string (fldT ⟨nm, ls⟩ (F.take k)), .int .i64 ((mayF ⟨nm, ls⟩ (F.take k) : Nat) : Int)]) ∧ Below W.heap.size W w') := Lib.hid (fun W hb => by
          have hu : Upd (fun _ => False) w W := Upd.of_below hb (T := fun _ => False) (fun k h1 h2 => by omega)
          exact RFld_any G G nm ls _ _ k fc (fx.take (k * 2)) (F.take k) W ⟨LA, lc, rfl, hlc, hlr.upd hu (fun _ _ h => h)⟩ ((HFR.out.take (by omega)).upd hu (fun _ _ h => h)) ((HFV.out.take k).upd hu (fun _ _ h => h)) (by rw [List.length_take]; omega) (by omega) (fun f hf => (HSZ.out.2 f (List.mem_of_mem_take hf)).1) hsz.1 hsz.2)
        obtain ⟨q, hq⟩ : ∃ q, q = ls.length := ⟨_, rfl⟩
        rw [← hq] at hlc hlr k2 HMF
        obtain ⟨r, hr⟩ : ∃ r, r = mayF ⟨nm, ls⟩ (F.take k) := ⟨_, rfl⟩
        obtain ⟨tx, htx⟩ : ∃ tx, tx = fldT ⟨nm, ls⟩ (F.take k) := ⟨_, rfl⟩
        rw [← htx, ← hr] at HMF
        rw [← hr] at hst
        have HTX := Lib.hid htx
        have HST3 := Lib.hid hst
        have HLP3 := Lib.hid hlp
        have HLR := Lib.hid hlr
        have HQL := Lib.hid hq
        have HR9 := Lib.hid hr
        have HLS := Lib.hid hsz.2
        have hnm := hsz.1
        have hkc : (k : Int) ≤ (fc : Int) := by omega
        clear e1 e2 hcf hf hst hlp hsz hq hr hlr htx
        go_upto_region 14 with fail
        obtain ⟨b2, hb2⟩ : ∃ b2, b2 = wx.heap.size := ⟨_, rfl⟩
        obtain ⟨y1, hy1⟩ : ∃ y1, y1 = wx.alloc (.cells #[.string nm, .slice LA q lc] 40) := ⟨_, rfl⟩
        have HK1 : Hid (Blk y1 b2 40 #[.string nm, .slice LA q lc]) := Lib.hid (by rw [hy1, hb2]; exact Blk.new wx _ _)
        have HU4 : Hid (Out w y1 (.slice vA OK.length vc) OK ∧ Blk y1 b 34 #[.int .i64 ln, .slice (some ⟨fg, fo, none⟩) p fc]) := Lib.hid (by rw [hy1]; exact ⟨HU3.out.1.later ((Below.refl _ _).alloc (Nat.le_refl _) _), HU3.out.2.alloc _⟩)
        have d1 : y1.cell? ⟨b, 1, none⟩ = some (.slice (some ⟨fg, fo, none⟩) p fc) := HU4.out.2.cell 1
        have d2 : y1.cell? ⟨b2, 0, none⟩ = some (.string nm) := HK1.out.cell 0
        have d3 : y1.cell? ⟨b2, 1, none⟩ = some (.slice LA q lc) := HK1.out.cell 1
        rw [← hy1, ← hb2]
        clear hy1 hb2 k1 k2 HU3
        obtain ⟨z3, hz3⟩ : ∃ z3, z3 = OK.length := ⟨_, rfl⟩
        rw [← hz3] at hO3 HU4 ⊢
        have HZ3 := Lib.hid hz3
        clear hz3
        have HYD : Hid (Below w.heap.size w y1.drew) := Lib.hid HU4.out.1.2.drew
        go_cut [9, 10] from 44 to 52 (fun s9 s10 wz => s9 = .string tx ∧ s10 = .int .i64 (r : Int) ∧ Hid (Out w wz (.slice vA z3 vc) OK ∧ Blk wz b 34 #[.int .i64 ln, .slice (some ⟨fg, fo, none⟩) p fc]))
        case first =>
          go_region_with (go_at_call 36; refine (HMF.out _ HYD.out).mono ?_; rintro e w7 ⟨rfl, hb7⟩; have HB7 := Lib.hid hb7; clear hb7)
          all_goals
            go_wp2_with fail
            go_meet
            refine ⟨rfl, rfl, Lib.hid ⟨?_, ?_⟩⟩
            · rw [HZ3.out]
              exact Out.later (wr := y1) (by have := HU4.out.1; rw [HZ3.out] at this; exact this) ((Below.refl _ _).drew.trans HB7.out)
            · exact HU4.out.2.drew.below HB7.out HU4.out.2.lt
        case rest =>
        obtain ⟨rfl, rfl, HU6⟩ := hcut
        rename World => w7
        clear HMF HU4 d1 d2 d3 HK1 HYD
        by_cases hr0 : r = 0
        case neg =>
          have hr0' : ((r : Int) != 0) = true := by rw [bne_iff_ne]; omega
          have HE := Lib.hid (HC.out.err HSM.out r (by
            have hx : fieldsR [] F = r := by rw [HI3.out, HST3.out, if_pos hr0]
            rw [HST2.out, hx, if_pos hr0]) hr0)
          clear hr0
          go_wp2_with fail
          exact bodyPost_ret (v := .tuple #[.slice none 0 0, .int .i64 (r : Int)]) (by simp [results, Tryd.results23, go_sem]) rfl ⟨.slice none 0 0, by rw [HE.out.1], by rw [HE.out.2]; exact BytesAt.nil _, HU6.out.1.2⟩
        have hr0' : ((r : Int) != 0) = false := by rw [hr0]; rfl
        have HI4 : Hid (fieldsR [] F = fieldsR (F.take (k + 1)) (F.drop (k + 1))) := Lib.hid (by rw [HI3.out, HST3.out, if_neg (by omega)])
        have HTX2 : Hid (tx = ofL (jn (linesF ⟨nm, ls⟩))) := Lib.hid (by rw [HTX.out]; exact fldT_ok HR9.out hr0)
        have hqb : q ≤ 4194304 := by have := lsum_len ls; have := HLS.out; rw [HQL.out]; omega
        have htz : tx.size ≤ 1001 * q := by
          have hlg := (mayF_is (f := ⟨nm, ls⟩) (HR9.out.symm.trans hr0)).2.2.2.2
          have := jn_lns_len hlg
          rw [HTX2.out, HQL.out]
          exact this
        clear hr0 HST3 HR9 HTX
        have HOW : Hid (w7.ownsRow w.heap.size 5 1 (.slice vA z3 vc) z3 (encU OK)) := Lib.hid (by have := HU6.out.1.1; rw [← HZ3.out] at this; exact this)
        go_wp2_with (at_builtin; refine Lib.wpList_append_own_string _ rfl (.tmp 56) (.tmp 57) 22 9 rfl w.heap.size 5 i0 Tryd.underlying22 Tryd.underlying9 hi0 hz0 hz1 hz2 (.slice vA z3 vc) z3 (encU OK) rfl HOW.out tx rfl (by unfold maxLen; omega) (by omega) HU6.out.1.2.size ?_; intro v5 w5 hown5 hg5 _; have HU9 : Hid (Out w w5 v5 (OK ++ bl tx) ∧ Blk w5 b 34 #[.int .i64 ln, .slice (some ⟨fg, fo, none⟩) p fc]) := Lib.hid ⟨HU6.out.1.add (x := bl tx) (m := tx.size) rfl (by rw [← HZ3.out]; exact hown5) hg5, HU6.out.2.grown hg5 (fun e => own_blk_ne HOW.out HU6.out.2 (by decide) e.symm)⟩; clear hown5 hg5)
        have HO6 : Hid (OK ++ bl tx = O1 ++ jn ((F.take (k + 1)).flatMap linesF)) := Lib.hid (by
          have hlp := HLP3.out
          rw [HTX2.out, HO3.out, hlp, jn_app, bl_ofL, List.append_assoc])
        refine ⟨⟨k + 1, _, by go_num, by omega, HI4, HO6, by rw [List.length_append, bl_len, ← HZ3.out]; omega, HU9⟩, ?_⟩
        show p - ((k : Int) + 1).toNat < p - (k : Int).toNat
        omega
end Go.Proofs.YtjkaigfpjebfbaaDoor
