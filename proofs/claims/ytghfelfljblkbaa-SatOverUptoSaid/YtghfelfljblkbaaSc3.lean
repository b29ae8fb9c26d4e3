/- sat: begin. -/
import Derived.Test.YtghfelfljblkbaaSc2
import Derived.Test.YtghfelfljblkbaaNewT
namespace Go.Proofs.Ytghfelfljblkbaa
open Go.RowKit Go.Sort
set_option linter.unusedVariables false
namespace Sr
theorem fol_ex {n : Nat} {L : List (List Int)} (hL : Pr.Cl n L) : ∀ (d : Nat) {T : List Int}, Un n T → n - T.length ≤ d → ∃ R, Pr.Fol L T R := by
  intro d
  induction d with
  | zero =>
    intro T hu hd
    have hp := Pr.pass_un (m := false) hu hL
    obtain ⟨T', m, he⟩ : ∃ T' m, Pr.pass L T false = (T', m) := ⟨_, _, rfl⟩
    rw [he] at hp
    cases m with
    | false => exact ⟨T', .stop he⟩
    | true =>
      exfalso
      have h1 := Pr.un_len hp.1
      rcases hp.2.2.1 rfl with h | h
      · cases h
      · simp only at h h1; omega
  | succ d ih =>
    intro T hu hd
    have hp := Pr.pass_un (m := false) hu hL
    obtain ⟨T', m, he⟩ : ∃ T' m, Pr.pass L T false = (T', m) := ⟨_, _, rfl⟩
    rw [he] at hp
    cases m with
    | false => exact ⟨T', .stop he⟩
    | true =>
      have h1 := Pr.un_len hp.1
      rcases hp.2.2.1 rfl with h | h
      · cases h
      · simp only at h h1
        obtain ⟨R, hR⟩ := ih (T := T') hp.1 (by omega)
        exact ⟨R, .more he hR⟩
theorem run_ex {L : List (List Int)} {n : Nat} (b : Int) (hL : Pr.Cl n L) : ∀ (d : Nat) {T : List Int} {S : Stk} (s : Nat), wgt n S ≤ d → Un n T → Pre T S → Ent L n S → ∃ r f, Run L n b T S s r f := by
  intro d
  induction d with
  | zero =>
    intro T S s hd
    have := Wt_pos (n - S.length)
    unfold wgt at hd
    omega
  | succ d ih =>
    intro T S s hd hu hp he
    by_cases hc : 0 ≤ Pr.clash L T
    · cases hb : back S with
      | none => exact ⟨_, _, .fail hc hb⟩
      | some o =>
        obtain ⟨v, Tp, S2⟩ := o
        obtain ⟨a1, a2, a3, a4, a5, a6, a7⟩ := back_pre hb hp he
        have hun := (un_open a7 (by omega)).1
        rw [a4] at hun
        obtain ⟨T', hf⟩ := fol_ex hL _ hun (Nat.le_refl _)
        have := wgt_back (n := n) hb
        obtain ⟨r, f, h⟩ := ih (T := T') (S := (-v, Tp) :: S2) s (by omega) (Pr.fol_un hf hL hun).1 (pre_push hf hL hun a2) ⟨by omega, by omega, a6, a7, a3⟩
        exact ⟨r, f, .again hc hb hf h⟩
    · by_cases hv : openV n T = 0
      · exact ⟨_, _, .done (by omega) hv⟩
      · by_cases ho : 0 < b ∧ b < (s : Int) + 1
        · exact ⟨_, _, .over (by omega) hv ho.1 ho.2⟩
        · have hun := (un_open hu hv).2
          obtain ⟨T', hf⟩ := fol_ex hL _ hun (Nat.le_refl _)
          have hl := open_len hu hv
          have hpl := hp.len
          have := wgt_next (n := n) (T := T) (S := S) hv (by omega)
          obtain ⟨r, f, h⟩ := ih (T := T') (S := ((openV n T : Int), T) :: S) (s + 1) (by omega) (Pr.fol_un hf hL hun).1 (pre_push hf hL hun hp) ⟨by omega, by omega, by omega, hu, he⟩
          exact ⟨r, f, .next (by omega) hv ho hf h⟩
theorem run_inb {L : List (List Int)} {n : Nat} {b : Int} {T : List Int} {S : Stk} {s f : Nat} {r : Res} (h : Run L n b T S s r f) (hr : r ≠ .over) : (b ≤ 0 ∨ (s : Int) ≤ b) → (b ≤ 0 ∨ (f : Int) ≤ b) := by
  induction h with
  | fail _ _ => exact id
  | again _ _ _ _ ih => exact ih hr
  | done _ _ => exact id
  | over _ _ _ _ => exact absurd rfl hr
  | next _ _ h3 _ _ ih => intro h; exact ih hr (by omega)
end Sr
theorem mks_nil (M : List Nat) : mks M [] = M := by simp [mks]
/-- What begin leaves. -/
def BegRes (w w' : World) (n : Nat) (L : List (List Int)) (e : Ending) : Option (List Int × List Nat) → Prop
  | none => e = .returned (.tuple #[.pointer none, .bool false]) ∧ Below w.heap.size w w'
  | some (R, M) => ∃ x p gv Al At Am Ch cl ct cm cc K, e = .returned (.tuple #[.pointer (some ⟨x, 0, none⟩), .bool true]) ∧ SrS w w' x p gv Al At Am Ch cl ct cm cc n K L R M [] 0
set_option maxRecDepth 100000 in
set_option maxHeartbeats 4000000 in
theorem begin_any (sp cap n : Nat) (A : Option Addr) (L : List (List Int)) (C : Option Addr) (lc cc : Nat) (cs : List Int) (w : World) (h : SetAt w sp A cap n L) (hsh : ∀ r ∈ L, r.length ≤ 1048576) (hL : Pr.Cl n L) (hc : Lits w C lc cs) (hlc : lc ≤ 100000) :
    Calls Try.prog 87 #[.pointer (some ⟨sp, 0, none⟩), .slice C lc cc] w fun e w' => ∃ T0 r, Pr.Fol L [] T0 ∧ Sr.Beg L n cs T0 [] r ∧ BegRes w w' n L e r := by
  have hn := h.n
  have HS := Lib.hid h
  have HC := Lib.hid hc
  have HCL := Lib.hid hL
  have HLL := Lib.hid hc.1
  have HNT := Lib.hid (NewT_any sp cap n A L w h hsh hL)
  clear h hsh hL hc
  go_enter Try.func87, Try.ntmps87
  go_wp2_with fail
  go_at_call 40
  refine HNT.out.mono ?_
  rintro e w1 ⟨p, gv, Al, cl, At, ct, K, T0, rfl, htr, hf, hb1, hlo⟩
  have HVA := Lib.hid (Vars_any sp cap n A L w1 (HS.out.below hb1))
  obtain ⟨W2, hW2⟩ : ∃ W2, W2 = w1.alloc (.cells #[.pointer (some ⟨p, 0, none⟩), .int .i64 (n : Int), .slice none 0 0, .int .i64 0] 99) := ⟨_, rfl⟩
  have hb2 : Below w1.heap.size w1 W2 := by rw [hW2]; exact (Below.refl _ _).alloc (Nat.le_refl _) _
  have hsr : SrS w W2 w1.heap.size p gv Al At none none cl ct 0 0 n K L T0 [] [] 0 := by
    refine ⟨⟨by rw [hW2]; exact Blk.new _ _ _, by rw [mks_nil]; exact htr.below hb2, World.ownsRow_nil _ _ _ _, (fun i hi => by cases hi), fun hx => ?_, fun i hi => ⟨?_, (by intro e; cases e)⟩, hb1.trans (hb2.mono hb1.size), fun i hi => ?_⟩, trivial, trivial, by rw [mks_nil]; exact MkOk.nil _⟩
    · have := htr.lt _ hx; omega
    · have := htr.klt i hi; omega
    · rcases hi with rfl | hi | hi
      · exact hb1.size
      · cases hi
      · exact hlo i (.inl hi)
  have HSR := Lib.hid hsr
  have HF := Lib.hid hf
  clear htr hf hb1 hlo HNT hb2 hsr
  go_wp2_with fail
  go_at_call 35
  refine HVA.out.mono ?_
  rintro e w9 ⟨rfl, rfl⟩
  go_upto_region 4 with fail
  rw [← hW2]
  obtain ⟨x, hx⟩ : ∃ x, x = w1.heap.size := ⟨_, rfl⟩
  rw [← hx] at HSR ⊢
  clear hW2 hx HVA
  go_wp2_with fail
  go_loopw [21] (fun t wr => ∃ (j : Nat) (T : List Int) (M : List Nat) (At1 Am1 : Option Addr) (ct1 cm1 : Nat), t = .int .i64 (j : Int) ∧ j ≤ lc ∧ Hid (SrS w wr x p gv Al At1 Am1 none cl ct1 cm1 0 n K L T M [] 0) ∧ Hid (∀ r, Sr.Beg L n (cs.drop j) T M r → Sr.Beg L n cs T0 [] r)) (fun t _ => lc - (match t with | .int _ x => x.toNat | _ => 0))
  case atStart => exact ⟨0, T0, [], At, none, ct, 0, rfl, Nat.zero_le _, HSR, Lib.hid (fun r h => h)⟩
  case round =>
    obtain ⟨j, T, M, At1, Am1, ct1, cm1, rfl, hj, HR, HB⟩ := hrel
    clear HSR
    by_cases hlt : j < lc
    · obtain ⟨b, o, hCa, hbl, hcell⟩ := HC.out.2.2 (by omega)
      obtain ⟨y, hy⟩ : ∃ y, y = cs.getD j 0 := ⟨_, rfl⟩
      have ky : wr.cell? ⟨b, o + j, none⟩ = some (.int .i64 y) := by rw [hy]; exact (HR.out.sr.bel.cell hbl).trans (hcell j hlt)
      have hjl : j < cs.length := by have := HLL.out; omega
      have hyo : Ok y := by rw [hy]; exact HC.out.ok j
      have hdrop : cs.drop j = y :: cs.drop (j + 1) := by rw [List.drop_eq_getElem_cons hjl, hy, List.getD_eq_getElem?_getD, List.getElem?_eq_getElem hjl]; rfl
      have HDR := Lib.hid hdrop
      have HMY := smay_any sp cap n A L y hyo wr (HS.out.below HR.out.sr.bel)
      obtain ⟨ob, hob⟩ : ∃ ob, ob = offL n y := ⟨_, rfl⟩
      rw [← hob] at HMY
      have HM := Lib.hid HMY
      have HOB := Lib.hid hob
      have HYO := Lib.hid hyo
      have i1 : (j : Int) < (lc : Int) := by omega
      subst hCa
      clear hcell hy hjl hyo hdrop HMY hob hbl
      cases ob with
      | true =>
        have HBG := Lib.hid (HB.out none (by rw [HDR.out]; exact .off HOB.out.symm))
        have HBL := Lib.hid HR.out.sr.bel
        clear HB HR
        go_wp2_with (go_at_call 91; refine HM.out.mono ?_; rintro e w2 ⟨rfl, rfl⟩)
        go_ret2
        exact ⟨T0, none, HF.out, HBG.out, rfl, HBL.out⟩
      | false =>
        have hyv := Sr.off_va HYO.out HOB.out.symm
        obtain ⟨u, hu⟩ : ∃ u, u = Cf.va y := ⟨_, rfl⟩
        have hmx : max y (-y) = (u : Int) := by rw [hu]; unfold Cf.va; omega
        have y1 : -200 ≤ y := by unfold Cf.va at hyv; omega
        have y2 : y ≤ 200 := by unfold Cf.va at hyv; omega
        have k0 : wr.cell? ⟨x, 0, none⟩ = some (.pointer (some ⟨p, 0, none⟩)) := HR.out.sr.blk.cell 0
        have htr := HR.out.sr.tr
        rw [mks_nil] at htr
        have HTR := Lib.hid htr
        have hvl := Value_any p gv cl ct1 cm1 n Al At1 Am1 K L T M (u : Int) wr htr
        have e1 : vl n T (u : Int) = Pr.ofT T (u : Int) := by unfold vl; rw [if_pos ⟨by omega, by omega⟩]
        rw [e1] at hvl
        obtain ⟨z, hz⟩ : ∃ z, z = Pr.ofT T (u : Int) := ⟨_, rfl⟩
        rw [← hz] at hvl
        have HVL := Lib.hid hvl
        have hzy : (if y < 0 then -z else z) = Pr.ofT T y := by
          by_cases h : y < 0
          · rw [if_pos h, hz, show (u : Int) = -y by rw [hu]; unfold Cf.va; omega, Pr.ofT_neg htr.un, Int.neg_neg]
          · rw [if_neg h, hz, show (u : Int) = y by rw [hu]; unfold Cf.va; omega]
        have HZY := Lib.hid hzy
        have hbz := ofT_bd T (u : Int)
        rw [← hz] at hbz
        obtain ⟨zb1, zb2⟩ := hbz
        have HYV := Lib.hid hyv
        clear hyv hu htr hvl e1 hz hzy
        go_upto_if 39 with (first
          | (go_at_call 91; refine HM.out.mono ?_; rintro e w2 ⟨rfl, rfl⟩)
          | (go_at_call 51; refine HVL.out.mono ?_; rintro e w2 ⟨rfl, rfl⟩))
        obtain ⟨v, hv⟩ : ∃ v, v = Pr.ofT T y := ⟨_, rfl⟩
        have HV := Lib.hid hv
        clear hv
        go_cut [9] (fun v9 wx => wx = wr ∧ v9 = .int .i64 v)
        case first =>
          by_cases hneg : y < 0
          · have HE : Hid (v = -z) := Lib.hid (by rw [HV.out, ← HZY.out, if_pos hneg])
            go_wp2_with fail
            go_meet
            exact ⟨rfl, by rw [HE.out]⟩
          · have HE : Hid (v = z) := Lib.hid (by rw [HV.out, ← HZY.out, if_neg hneg])
            go_wp2_with fail
            go_meet
            exact ⟨rfl, by rw [HE.out]⟩
        case rest =>
          obtain ⟨hwc, rfl⟩ := hcut
          subst hwc
          have hvb := ofT_bd T y
          rw [← HV.out] at hvb
          clear HVL HZY zb1 zb2 hmx
          rcases (show v = -1 ∨ v = 0 ∨ v = 1 by omega) with rfl | rfl | rfl
          · have HBG := Lib.hid (HB.out none (by rw [HDR.out]; exact .neg HOB.out.symm HV.out.symm))
            have HBL := Lib.hid HR.out.sr.bel
            clear HB HR hvb
            go_wp2_with fail
            go_ret2
            exact ⟨T0, none, HF.out, HBG.out, rfl, HBL.out⟩
          · by_cases hcl : 0 ≤ Pr.clash L T
            · have hmp : mayP n L T y = false := by
                unfold mayP
                rw [decide_eq_false (show ¬ Pr.clash L T < 0 by omega), Bool.and_false, Bool.and_false, Bool.and_false]
              have HPU := Lib.hid (Push_no p gv cl ct1 cm1 n Al At1 Am1 K L T M y HYO.out wc HTR.out hmp)
              have HBG := Lib.hid (HB.out none (by rw [HDR.out]; exact .clash HOB.out.symm HV.out.symm hcl))
              have HBL := Lib.hid HR.out.sr.bel
              clear HB HR hvb hmp hcl
              go_wp2_with (go_at_call 41; refine HPU.out.mono ?_; rintro e w3 ⟨rfl, hb3⟩)
              go_ret2
              exact ⟨T0, none, HF.out, HBG.out, rfl, HBL.out.trans (hb3.mono HBL.out.size)⟩
            · have hmp : mayP n L T y = true := by
                unfold mayP
                rw [decide_eq_true HYV.out.1, decide_eq_true HYV.out.2, ← HV.out, decide_eq_true (show Pr.clash L T < 0 by omega)]; rfl
              have hmk := HR.out.mko
              rw [mks_nil] at hmk
              have HMK := Lib.hid hmk
              have HPU := Lib.hid (Push_yes p gv cl ct1 cm1 n Al At1 Am1 K L T M y wc HTR.out hmp (by have := mk_len hmk; have := HTR.out.tlen; omega))
              have HUN := Lib.hid (Pr.un_snoc HTR.out.un HYV.out HV.out.symm)
              have HCC := Lib.hid (show Pr.clash L T < 0 by omega)
              clear hvb hmp hcl hmk
              go_wp2_with (go_at_call 41; refine HPU.out.mono ?_; rintro e w3 ⟨rfl, R, At3, ct3, Am3, cm3, hf3, hr3⟩; have HF3 := Lib.hid hf3; have HR3 := Lib.hid hr3; clear hf3 hr3)
              have hss : SrS w w3 x p gv Al At3 Am3 none cl ct3 cm3 0 n K L R (M ++ [T.length]) [] 0 := by
                have h9 := HR.out.sr
                rw [mks_nil] at h9
                exact ⟨by rw [mks_nil]; exact h9.step HR3.out, trivial, trivial, by rw [mks_nil]; exact HMK.out.push (fol_pre HF3.out HCL.out HUN.out)⟩
              have HSS := Lib.hid hss
              have HB3 : Hid (∀ r, Sr.Beg L n (cs.drop (j + 1)) R (M ++ [T.length]) r → Sr.Beg L n cs T0 [] r) := Lib.hid (fun r h => HB.out r (by rw [HDR.out]; exact .push HOB.out.symm HV.out.symm HCC.out HF3.out h))
              clear hss
              refine ⟨⟨j + 1, R, M ++ [T.length], At3, Am3, ct3, cm3, by go_num, by omega, HSS, HB3⟩, ?_⟩
              show lc - ((j : Int) + 1).toNat < lc - (j : Int).toNat
              omega
          · have HB3 : Hid (∀ r, Sr.Beg L n (cs.drop (j + 1)) T M r → Sr.Beg L n cs T0 [] r) := Lib.hid (fun r h => HB.out r (by rw [HDR.out]; exact .is HOB.out.symm HV.out.symm h))
            clear hvb
            go_wp2_with fail
            refine ⟨⟨j + 1, T, M, At1, Am1, ct1, cm1, by go_num, by omega, HR, HB3⟩, ?_⟩
            show lc - ((j : Int) + 1).toNat < lc - (j : Int).toNat
            omega
    · have hjl : (j : Int) = (lc : Int) := by omega
      have HBG := Lib.hid (HB.out (some (T, M)) (by rw [List.drop_of_length_le (by have := HLL.out; omega)]; exact .nil))
      clear HB
      go_wp2_with fail
      go_ret2
      exact ⟨T0, some (T, M), HF.out, HBG.out, x, p, gv, Al, At1, Am1, none, cl, ct1, cm1, 0, K, rfl, HR.out⟩
end Go.Proofs.Ytghfelfljblkbaa
