/- SatUnits: the walk. -/
import Derived.Test.YtghfelfljblkbaaSatU
namespace Go.Proofs.Ytghfelfljblkbaa
open Go.RowKit Go.Sort
set_option linter.unusedVariables false

set_option maxRecDepth 100000 in
set_option maxHeartbeats 4000000 in
theorem satUnits_any (x : Int) (v : Value) (Z : List (List Int)) (C : Option Addr) (lc cc : Nat) (cs : List Int) (w : World) (hz : ClsAt w v Z) (hZ : Z.length ≤ 4294967296) (hc : Lits w C lc cs) (hcc : lc ≤ cc) :
    Calls Try.prog 17 #[.int .i64 x, v, .slice C lc cc] w fun e w' => e = .returned (.bool true) ∧ Below w.heap.size w w' := by
  have HBO := Lib.hid (bothS_any x v Z w hz hZ)
  obtain ⟨AZ, cZ, rfl, _⟩ := hz
  have HC := Lib.hid hc
  clear hc
  go_enter Try.func17, Try.ntmps17
  go_wp2_with fail
  go_at_call 53
  refine HBO.out.mono ?_
  rintro e w1 ⟨n, s, q0, A, B, ca, cb, rfl, hn, htw, hcl⟩
  obtain ⟨L, hL⟩ : ∃ L, L = bothQ 40 10 n Z 0 [] := ⟨_, rfl⟩
  have hLl : L.length ≤ 40 := by
    have := bothQ_len 40 10 n Z 0 []
    rw [hL]
    simpa using this
  rw [← hL] at htw hcl
  have HTW := Lib.hid htw
  have HCL := Lib.hid hcl
  have HSH : Hid (∀ c ∈ L, c.length ≤ 1048576) := Lib.hid (fun c hc => by have := htw.short c hc; omega)
  have HFW := Lib.hid (few_any C lc cc cs w1 (HC.out.below htw.bel) hcc)
  clear htw hcl hL HBO
  go_wp2_with fail
  go_at_call 54
  refine HFW.out.mono ?_
  rintro e w1 ⟨rfl, m, d, rfl, hm, hl⟩
  obtain ⟨zs, hzs⟩ : ∃ zs, zs = cs.take m := ⟨_, rfl⟩
  rw [← hzs] at hl
  have HL := Lib.hid hl
  have HZL := Lib.hid hl.1
  have HSV := Lib.hid (Solve0_any s ca n A L C m d zs w1 HTW.out.s HSH.out HCL.out hl (by omega) (by omega))
  clear hl hzs HFW
  go_wp2_with fail
  go_at_call 55
  refine HSV.out.mono ?_
  rintro e w2 ⟨r, A2, m2, c2, rfl, hf2, hm2, hbs2, hb2⟩
  have HF2 := Lib.hid hf2
  have HS2 := Lib.hid hbs2
  have HB2 := Lib.hid (HTW.out.bel.trans (hb2.mono HTW.out.bel.size))
  have HB12 := Lib.hid hb2
  have HCP := Lib.hid (Copy_any s ca n A L w2 (HTW.out.s.below hb2) HSH.out (cl_ok HCL.out (by omega)))
  clear hf2 hbs2 hb2 HSV
  go_wp2_with fail
  go_at_call 30
  refine HCP.out.mono ?_
  rintro e w3 ⟨u, Au0, cu0, rfl, hs3, hb3, hlo3⟩
  have HS3 : Hid (SetAt w3 u Au0 cu0 n (L ++ units (zs.take 0))) := Lib.hid (by simpa [units] using hs3)
  have HB3 := Lib.hid hb3
  have HLO3 := Lib.hid hlo3
  have hsz2 := HB2.out.size
  clear hs3 hb3 hlo3 HCP
  go_wp2_with fail
  go_loopw [37] (fun t wr => ∃ (i : Nat) (Au : Option Addr) (cu : Nat), t = .int .i64 (i : Int) ∧ i ≤ m ∧ Hid (SetAt wr u Au cu n (L ++ units (zs.take i))) ∧ Hid (∀ k, sF u Au k → w2.heap.size ≤ k) ∧ Hid (Below w2.heap.size w2 wr) ∧ Hid ((zs.take i).any (offL n) = false)) (fun t _ => m - (match t with | .int _ x => x.toNat | _ => 0))
  case atStart => exact ⟨0, Au0, cu0, rfl, Nat.zero_le _, HS3, HLO3, HB3, Lib.hid (by simp)⟩
  case round =>
    obtain ⟨i, Au, cu, rfl, hi, HSU, HLO, HBU, HOF⟩ := hrel
    clear HS3 HLO3 HB3
    by_cases hlt : i < m
    · obtain ⟨b, o, hC, hbl, hcell⟩ := HL.out.2.2 (by omega)
      obtain ⟨y, hy⟩ : ∃ y, y = zs.getD i 0 := ⟨_, rfl⟩
      have ky : wr.cell? ⟨b, o + i, none⟩ = some (.int .i64 y) := by rw [hy]; exact (HBU.out.cell (Nat.lt_of_lt_of_le hbl HB12.out.size)).trans ((HB12.out.cell hbl).trans (hcell i hlt))
      have hil : i < zs.length := by have := HZL.out; omega
      have hyo : Ok y := by rw [hy]; exact HL.out.ok i
      have hll : (L ++ units (zs.take i)).length < 5000 := by rw [List.length_append]; unfold units; rw [List.length_map, List.length_take]; omega
      have hba : Below wr.heap.size wr (wr.alloc (.cells #[.int .i64 y] 37)) := (Below.refl _ _).alloc (Nat.le_refl _) _
      have HBA := Lib.hid hba
      have HA := Add_any u cu n Au (L ++ units (zs.take i)) (some ⟨wr.heap.size, 0, none⟩) 1 1 [y] _ (HSU.out.below hba) (one_lit wr y hyo) (by omega)
      rw [may_unit hll] at HA
      have HLL := Lib.hid hll
      have HY := Lib.hid hy
      have hst : (zs.take (i + 1)).any (offL n) = ((zs.take i).any (offL n) || offL n y) := by rw [any_take _ _ _ hil, hy]
      rw [HOF.out, Bool.false_or] at hst
      have HUT := Lib.hid (units_take hil)
      have HMY : Hid (offL n y = true → zs.any (offL n) = true) := Lib.hid (fun h9 => by
        rw [List.any_eq_true]
        refine ⟨y, ?_, h9⟩
        rw [hy, List.getD_eq_getElem?_getD, List.getElem?_eq_getElem hil]
        exact List.getElem_mem _)
      obtain ⟨ob, hob⟩ : ∃ ob, ob = offL n y := ⟨_, rfl⟩
      rw [← hob] at HA hst HMY
      have HOB := Lib.hid hob
      have HST := Lib.hid hst
      have HAD := Lib.hid HA
      have i1 : (i : Int) < (m : Int) := by omega
      subst hC
      clear hcell hbl hy hil hyo hll hba HA hst hob
      cases ob with
      | true =>
        obtain rfl : r = none := first_off (HMY.out rfl) HF2.out
        go_wp2_with fail
        go_at_call 28
        refine HAD.out.mono ?_
        rintro e w4 ⟨rfl, hu4, _⟩
        have HB4 := Lib.hid (HB2.out.trans ((HBU.out.trans ((HBA.out.mono HBU.out.size).trans (hu4.below (fun k hk => HLO.out k hk) (by simp; have := HBU.out.size; omega)))).mono hsz2))
        have HAW := Lib.hid (awakeS_any w4)
        clear hu4
        go_wp2_with (go_at_call 57; refine HAW.out.mono ?_; rintro e w7 ⟨rfl, hb7⟩)
        go_ret
        exact ⟨rfl, HB4.out.trans (hb7.mono HB4.out.size)⟩
      | false =>
        rw [add_unit HLL.out HOB.out.symm] at HAD
        go_wp2_with fail
        go_at_call 28
        refine HAD.out.mono ?_
        rintro e w4 ⟨rfl, hu4, A4, c4, hs4, hf4⟩
        have HB4 : Hid (Below w2.heap.size w2 w4) := Lib.hid (HBU.out.trans ((HBA.out.mono HBU.out.size).trans (hu4.below (fun k hk => HLO.out k hk) (by simp; have := HBU.out.size; omega))))
        have HS4 : Hid (SetAt w4 u A4 c4 n (L ++ units (zs.take (i + 1)))) := Lib.hid (by rw [HUT.out, ← List.append_assoc, ← HY.out]; exact hs4)
        have HLO4 : Hid (∀ k, sF u A4 k → w2.heap.size ≤ k) := Lib.hid (fun k hk => by
          rcases hf4 k hk with h | h
          · exact HLO.out k h
          · exact Nat.le_trans HBU.out.size (Nat.le_trans HBA.out.size h))
        clear hu4 hs4 hf4
        go_wp2_with fail
        refine ⟨⟨i + 1, A4, c4, by go_num, by omega, HS4, HLO4, HB4, HST⟩, ?_⟩
        show m - ((i : Int) + 1).toNat < m - (i : Int).toNat
        omega
    · have him : i = m := by omega
      have htk : zs.take i = zs := List.take_of_length_le (by have := HZL.out; omega)
      rw [htk] at HSU HOF
      have hnn : ¬ (i : Int) < (m : Int) := by omega
      have HSV2 := Lib.hid (Solve0_any u cu n Au (L ++ units zs) none 0 0 [] wr HSU.out (fun c hc => by
        rcases List.mem_append.1 hc with h | h
        · exact HSH.out c h
        · unfold units at h
          obtain ⟨z, _, rfl⟩ := List.mem_map.1 h
          simp) (cl_units HCL.out HL.out.2.1 HOF.out) (Lits.nil _ _) (by omega) (by omega))
      clear him htk
      go_wp2_with fail
      go_at_call 55
      refine HSV2.out.mono ?_
      rintro e w5 ⟨r5, A5, m5, c5, rfl, hf5, hm5, hbs5, hb5⟩
      obtain rfl : r5 = r := Sr.first_det (first_units HOF.out hf5) HF2.out
      have HB25 := Lib.hid (HBU.out.trans (hb5.mono HBU.out.size))
      have HSM := Lib.hid (same_later (c := c2) (d := c5) (HS2.out.below HB25.out) hbs5 (by omega))
      have HB5 := Lib.hid (HB2.out.trans (HB25.out.mono HB2.out.size))
      have HAW : Hid (∀ W, Below w5.heap.size w5 W → Calls Try.prog 57 #[] W fun e w' => e = .returned (.bool true) ∧ Below w5.heap.size w5 w') := Lib.hid awake_later
      have hb0 : Below w5.heap.size w5 w5 := Below.refl _ _
      clear hf5 hbs5 hb5 HSV2
      cases r5 with
      | none =>
        go_wp2_with (first
          | (go_at_call 56; refine (HSM.out _ (by assumption)).mono ?_; rintro e w6 ⟨rfl, hb6⟩)
          | (go_at_call 57; refine (HAW.out _ (by assumption)).mono ?_; rintro e w7 ⟨rfl, hb7⟩))
        go_ret
        exact ⟨rfl, HB5.out.trans (hb7.mono HB5.out.size)⟩
      | some bs =>
        go_wp2_with (first
          | (go_at_call 56; refine (HSM.out _ (by assumption)).mono ?_; rintro e w6 ⟨rfl, hb6⟩)
          | (go_at_call 57; refine (HAW.out _ (by assumption)).mono ?_; rintro e w7 ⟨rfl, hb7⟩))
        go_ret
        exact ⟨rfl, HB5.out.trans (hb7.mono HB5.out.size)⟩
open Go.ChangeShapes Go.WideShapes Go.ChangeAt in
set_option maxRecDepth 100000 in
theorem satUnits_walk {H : Type} {enc : TypeId × Value → H} (W : World) {base : Nat} (v0 v1 v2 : Value) {d0 d1 d2 : DataW H} {p0 p1 p2 : List MemPlace}
    (h0 : DataW.Trod enc Try.prog W 0 (fun _ => true) true 3 v0 d0 p0) (o0 : Value.okWide Try.prog W .any base 3 v0)
    (h1 : DataW.Trod enc Try.prog W 0 (fun _ => true) true 28 v1 d1 p1) (o1 : Value.okWide Try.prog W .any base 28 v1)
    (h2 : DataW.Trod enc Try.prog W 0 (fun _ => true) true 22 v2 d2 p2) (o2 : Value.okWide Try.prog W .any base 22 v2)
    (hk : Rows.uptoBulkAll [d0, d1, d2] ≤ 1048576) :
    Calls Try.prog 17 #[v0, v1, v2] W fun e w' => e = .returned (.bool true) ∧ Below W.heap.size W w' := by
  obtain ⟨x, rfl, rfl, rfl, wx⟩ := open_int Try.underlying3 o0 h0
  obtain ⟨Z, hz, hZ, _⟩ := open_cls h1 o1
  obtain ⟨C, lc, cc, cs, rfl, hc, hcc, _, hlc⟩ := open_lits h2 o2
  simp only [Rows.uptoBulkAll] at hk
  exact satUnits_any x v1 Z C lc cc cs W hz (by omega) hc hcc
end Go.Proofs.Ytghfelfljblkbaa
