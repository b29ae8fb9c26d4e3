/- CnfHolds: the walk. -/
import Derived.Test.YtghfelfljblkbaaCopyC
import Derived.Test.YtghfelfljblkbaaAwakeC
import Derived.Test.YtghfelfljblkbaaOpenB
import Derived.Deep.DeepCutAuto
import Derived.Deep.CutBlock
namespace Go.Proofs.Ytghfelfljblkbaa
open Go.RowKit
set_option linter.unusedVariables false

theorem SetAt.ok {w : World} {p cap n : Nat} {A : Option Addr} {L : List (List Int)} (h : SetAt w p A cap n L) : ∀ r ∈ L, ∀ z ∈ r, Ok z := fun r hr => by
  obtain ⟨xs, _, hi⟩ := h.row
  obtain ⟨j, hj, rfl⟩ := List.mem_iff_getElem.1 hr
  obtain ⟨_, _, _, hl, _⟩ := hi.2 j hj
  exact hl.2.1
set_option maxRecDepth 100000 in
set_option maxHeartbeats 4000000 in
theorem cnfHolds_any (x : Int) (v : Value) (Z : List (List Int)) (C : Option Addr) (lc cc : Nat) (cs : List Int) (B : Option Addr) (lb cb : Nat) (bs : List Bool) (w : World) (hz : ClsAt w v Z) (hZ : Z.length ≤ 4294967296) (hc : Lits w C lc cs) (hlc : lc ≤ 1048576) (hb : Bools w B lb bs) (hlb : lb ≤ cb) (hcb : cb ≤ maxLen) :
    Calls Try.prog 5 #[.int .i64 x, v, .slice B lb cb, .slice C lc cc] w fun e w' => e = .returned (.bool true) ∧ Below w.heap.size w w' := by
  have hlb2 : lb ≤ 9223372036854775807 := by unfold maxLen at hcb; omega
  have HBO := Lib.hid (both_any x v Z w hz hZ)
  obtain ⟨AZ, cZ, rfl, _⟩ := hz
  have HC := Lib.hid hc
  have HB := Lib.hid hb
  generalize vars x = n at *
  clear hc hb
  go_enter Try.func5, Try.ntmps5
  go_wp2_with fail
  go_at_call 26
  refine HBO.out.mono ?_
  rintro e w1 ⟨p, q, A, A2, ca, ca2, rfl, htw⟩
  obtain ⟨L, hL⟩ : ∃ L, L = bothL n Z 0 [] := ⟨_, rfl⟩
  rw [← hL] at htw
  have HTW := Lib.hid htw
  have HCP := Lib.hid (Copy_any p ca n A L w1 htw.s (fun r hr => by have := htw.short r hr; omega) htw.s.ok)
  clear htw hL HBO
  go_wp2_with fail
  go_at_call 30
  refine HCP.out.mono ?_
  rintro e w2 ⟨p', A', ca', rfl, hs2, hb2, hf2⟩
  have HTW2 := Lib.hid (HTW.out.below hb2)
  have HS2 := Lib.hid hs2
  have HF2 : Hid (∀ k, sF p' A' k → w.heap.size ≤ k ∧ ¬ sF p A k ∧ ¬ sF q A2 k) := Lib.hid (fun k hk => ⟨Nat.le_trans HTW.out.bel.size (hf2 k hk), fun h => by have := HTW.out.s.lt k h; have := hf2 k hk; omega, fun h => by have := HTW.out.r.lt k h; have := hf2 k hk; omega⟩)
  obtain ⟨hh, hhd⟩ : ∃ hh, hh = holdsL bs L := ⟨_, rfl⟩
  have HH : Hid (∀ (pp : Nat) (W : World), (pp = p ∨ pp = p') → Below w2.heap.size w2 W → Calls Try.prog 27 #[.pointer (some ⟨pp, 0, none⟩), .slice B lb cb] W fun e w' => e = .returned (.bool hh) ∧ Below W.heap.size W w') := Lib.hid (fun pp W hpp hW => by
    rw [hhd]
    rcases hpp with rfl | rfl
    · exact Holds_any pp ca n A L B lb cb bs W (HTW2.out.s.below hW) (fun r hr => by have := HTW2.out.short r hr; omega) (HB.out.below (HTW2.out.bel.trans (hW.mono HTW2.out.bel.size))) hlb2
    · exact Holds_any pp ca' n A' L B lb cb bs W (HS2.out.below hW) (fun r hr => by have := HTW2.out.short r hr; omega) (HB.out.below (HTW2.out.bel.trans (hW.mono HTW2.out.bel.size))) hlb2)
  have HR : Hid (∀ (W : World), Below w2.heap.size w2 W → Calls Try.prog 31 #[.pointer (some ⟨q, 0, none⟩), .slice B lb cb] W fun e w' => e = .returned (.bool hh) ∧ W = w') := Lib.hid (fun W hW => by
    rw [hhd]
    exact RHolds_any q ca2 n A2 L B lb cb bs W (HTW2.out.r.below hW) (fun r hr => by have := HTW2.out.short r hr; omega) (HB.out.below (HTW2.out.bel.trans (hW.mono HTW2.out.bel.size))) hlb2)
  have HLN : Hid (∀ (W : World), Below w2.heap.size w2 W → Calls Try.prog 32 #[.pointer (some ⟨p', 0, none⟩)] W fun e w' => e = .returned (.int .i64 (L.length : Int)) ∧ W = w') := Lib.hid (fun W hW => Len_any p' ca' n A' L W (HS2.out.below hW))
  have HKQ : Hid (∀ W, Below w2.heap.size w2 W → W.cell? ⟨q, 1, none⟩ = some (.slice A2 L.length ca2)) := Lib.hid (fun W hW => (HTW2.out.r.below hW).blk.cell 1)
  have hxx : (hh != hh) = false := by simp
  have hll : ((L.length : Int) != (L.length : Int)) = false := by simp
  have hb0 : Below w2.heap.size w2 w2 := Below.refl _ _
  have hb0' : Below w2.heap.size w2 w2.drew := ⟨rfl, rfl, rfl, Nat.le_refl _, fun _ _ => rfl⟩
  have hkq0 := HKQ.out w2 hb0
  have hlen := HS2.out.len
  clear hs2 hb2 hf2 HTW HCP hhd
  go_upto_region 3 with fail
  go_cut [45] (fun v45 wx => v45 = .bool false ∧ Hid (Below w2.heap.size w2 wx))
  case first =>
    go_region_with (first
      | (go_at_call 27
         refine (HH.out _ _ (by first | exact .inl rfl | exact .inr rfl) (by assumption)).mono ?_
         rintro e wa ⟨rfl, hba⟩
         have hbA : Below w2.heap.size w2 wa := (show Below w2.heap.size w2 _ from by assumption).trans (hba.mono (show Below w2.heap.size w2 _ from by assumption).size)
         have hkq := HKQ.out wa hbA
         clear hba)
      | (go_at_call 31; refine (HR.out _ (by assumption)).mono ?_; rintro e wb ⟨rfl, rfl⟩)
      | (go_at_call 32; refine (HLN.out _ (by assumption)).mono ?_; rintro e wb ⟨rfl, rfl⟩))
    all_goals
      go_wp2_with fail
      go_meet
      exact ⟨rfl, Lib.hid (by assumption)⟩
  case rest =>
    obtain ⟨rfl, HB3⟩ := hcut
    have HTW3 := Lib.hid (HTW2.out.below HB3.out)
    have HS3 := Lib.hid (HS2.out.below HB3.out)
    have HC3 := Lib.hid (HC.out.below HTW3.out.bel)
    have HF3 : Hid (∀ k, sF p' A' k → w.heap.size ≤ k ∧ ¬ sF p A k ∧ ¬ sF q A2 k) := HF2
    clear HH HR HLN HKQ HTW2 HS2 HB3 hxx hll hb0 hb0' hkq0
    go_upto_if 48 with fail
    go_cut [] (fun wx => Hid (SetAt wx p A ca n L ∧ RSetAt wx q A2 ca2 n L ∧ Below w.heap.size w wx))
    case first =>
      by_cases h20 : lc ≤ 20
      · have hd : (lc : Int) ≤ 20 := by omega
        have HAD := Lib.hid (Add_any p' ca' n A' L C lc cc cs wc HS3.out HC3.out (by omega))
        go_wp2_with fail
        go_at_call 28
        refine HAD.out.mono ?_
        rintro e w4 ⟨rfl, hu4, A4, c4, _, _⟩
        have hk := Lib.hid (show SetAt w4 p A ca n L ∧ RSetAt w4 q A2 ca2 n L ∧ Below w.heap.size w w4 from
          ⟨HTW3.out.s.upd hu4 (fun k h1 h2 => (HF3.out k h2).2.1 h1) HS3.out.notL, HTW3.out.r.upd hu4 (fun k h1 h2 => (HF3.out k h2).2.2 h1) HS3.out.notL, HTW3.out.bel.trans (hu4.below (fun k h => (HF3.out k h).1) HTW3.out.bel.size)⟩)
        clear hu4
        go_wp2_with fail
        go_meet
        exact hk
      · have hd : ¬ ((lc : Int) ≤ 20) := by omega
        have hk := Lib.hid (show SetAt wc p A ca n L ∧ RSetAt wc q A2 ca2 n L ∧ Below w.heap.size w wc from ⟨HTW3.out.s, HTW3.out.r, HTW3.out.bel⟩)
        go_wp2_with fail
        go_meet
        exact hk
    case rest =>
      obtain ⟨hh, hhd⟩ : ∃ hh, hh = holdsL bs L := ⟨_, rfl⟩
      have HSR := Lib.hid (show ∀ r ∈ L, r.length ≤ 30 from HTW3.out.short)
      have HBC : Hid (Bools wc B lb bs) := Lib.hid (HB.out.below hcut.out.2.2)
      have HH : Hid (∀ (W : World), Below wc.heap.size wc W → Calls Try.prog 27 #[.pointer (some ⟨p, 0, none⟩), .slice B lb cb] W fun e w' => e = .returned (.bool hh) ∧ Below W.heap.size W w') := Lib.hid (fun W hW => by
        rw [hhd]
        exact Holds_any p ca n A L B lb cb bs W (hcut.out.1.below hW) (fun r hr => by have := HSR.out r hr; omega) (HBC.out.below hW) hlb2)
      have HR : Hid (∀ (W : World), Below wc.heap.size wc W → Calls Try.prog 31 #[.pointer (some ⟨q, 0, none⟩), .slice B lb cb] W fun e w' => e = .returned (.bool hh) ∧ W = w') := Lib.hid (fun W hW => by
        rw [hhd]
        exact RHolds_any q ca2 n A2 L B lb cb bs W (hcut.out.2.1.below hW) (fun r hr => by have := HSR.out r hr; omega) (HBC.out.below hW) hlb2)
      have HLN : Hid (∀ (W : World), Below wc.heap.size wc W → Calls Try.prog 32 #[.pointer (some ⟨p, 0, none⟩)] W fun e w' => e = .returned (.int .i64 (L.length : Int)) ∧ W = w') := Lib.hid (fun W hW => Len_any p ca n A L W (hcut.out.1.below hW))
      have HKQ : Hid (∀ W, Below wc.heap.size wc W → W.cell? ⟨q, 1, none⟩ = some (.slice A2 L.length ca2)) := Lib.hid (fun W hW => (hcut.out.2.1.below hW).blk.cell 1)
      have HBW : Hid (Below w.heap.size w wc) := Lib.hid hcut.out.2.2
      have hxx : (hh == hh) = true := by simp
      have hll : ((L.length : Int) == (L.length : Int)) = true := by simp
      have hb0 : Below wc.heap.size wc wc := Below.refl _ _
      have hb0' : Below wc.heap.size wc wc.drew := ⟨rfl, rfl, rfl, Nat.le_refl _, fun _ _ => rfl⟩
      have hkq0 := HKQ.out wc hb0
      clear hhd HSR HBC hcut HTW3 HS3 HC3 HF3 HF2 HB HC
      go_wp2_with fail
      go_region_with (first
        | (go_at_call 27
           refine (HH.out _ (by assumption)).mono ?_
           rintro e wa ⟨rfl, hba⟩
           have hbA : Below wc.heap.size wc wa := (show Below wc.heap.size wc _ from by assumption).trans (hba.mono (show Below wc.heap.size wc _ from by assumption).size)
           have hkq := HKQ.out wa hbA
           clear hba)
        | (go_at_call 22
           refine (awake_any _).mono ?_
           rintro e wa ⟨rfl, hba⟩
           have hbA : Below wc.heap.size wc wa := (show Below wc.heap.size wc _ from by assumption).trans (hba.mono (show Below wc.heap.size wc _ from by assumption).size)
           have hkq := HKQ.out wa hbA
           clear hba)
        | (go_at_call 31; refine (HR.out _ (by assumption)).mono ?_; rintro e wb ⟨rfl, rfl⟩)
        | (go_at_call 32; refine (HLN.out _ (by assumption)).mono ?_; rintro e wb ⟨rfl, rfl⟩))
      all_goals
        go_wp2_with fail
        go_ret
        exact ⟨rfl, HBW.out.trans ((show Below wc.heap.size wc _ from by assumption).mono HBW.out.size)⟩
open Go.ChangeShapes Go.WideShapes Go.ChangeAt in
set_option maxRecDepth 100000 in
theorem cnfHolds_walk {H : Type} {enc : TypeId × Value → H} (W : World) {base : Nat} (v0 v1 v2 v3 : Value) {d0 d1 d2 d3 : DataW H} {p0 p1 p2 p3 : List MemPlace}
    (h0 : DataW.Trod enc Try.prog W 0 (fun _ => true) true 3 v0 d0 p0) (o0 : Value.okWide Try.prog W .any base 3 v0)
    (h1 : DataW.Trod enc Try.prog W 0 (fun _ => true) true 28 v1 d1 p1) (o1 : Value.okWide Try.prog W .any base 28 v1)
    (h2 : DataW.Trod enc Try.prog W 0 (fun _ => true) true 29 v2 d2 p2) (o2 : Value.okWide Try.prog W .any base 29 v2)
    (h3 : DataW.Trod enc Try.prog W 0 (fun _ => true) true 22 v3 d3 p3) (o3 : Value.okWide Try.prog W .any base 22 v3)
    (hk : Rows.uptoBulkAll [d0, d1, d2, d3] ≤ 1048576) :
    Calls Try.prog 5 #[v0, v1, v2, v3] W fun e w' => e = .returned (.bool true) ∧ Below W.heap.size W w' := by
  obtain ⟨x, rfl, rfl, rfl, wx⟩ := open_int Try.underlying3 o0 h0
  obtain ⟨Z, hz, hZ, _⟩ := open_cls h1 o1
  obtain ⟨B, lb, cb, bs, rfl, hb, hlb, hcb⟩ := open_bs h2 o2
  obtain ⟨C, lc, cc, cs, rfl, hc, hcc, _, hlc⟩ := open_lits h3 o3
  simp only [Rows.uptoBulkAll] at hk
  exact cnfHolds_any x v1 Z C lc cc cs B lb cb bs W hz (by omega) hc (by omega) hb hlb hcb
end Go.Proofs.Ytghfelfljblkbaa
