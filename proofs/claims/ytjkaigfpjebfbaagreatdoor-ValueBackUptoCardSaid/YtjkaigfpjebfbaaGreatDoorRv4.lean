/- version.Parse: is a text a version? -/
import Derived.Test.YtjkaigfpjebfbaaGreatDoorRv3
import Derived.Deep.DeepCutAuto
namespace Go.Proofs.YtjkaigfpjebfbaaGreatDoor
open Go.RowKit
set_option linter.unusedVariables false

def be3 : ByteArray := ⟨#[43, 46, 126]⟩
def be5 : ByteArray := ⟨#[43, 46, 126, 45, 58]⟩
theorem idx_none {s : ByteArray} {c : Nat} : ∀ (f i : Nat), (∀ j, j < s.size → byteAt s j ≠ c) → idxF s c f i = -1
  | 0, _, _ => rfl
  | f + 1, i, h => by
    by_cases hi : i < s.size
    · rw [idxF_no s c f i hi (h i hi)]; exact idx_none f (i + 1) h
    · exact idxF_end s c _ i hi
theorem be3_no : ∀ b, 126 < b → idx be3 b = -1 := fun b hb => idx_none _ _ (fun j hj => by
  have : j = 0 ∨ j = 1 ∨ j = 2 := by have : be3.size = 3 := rfl; omega
  rcases this with rfl | rfl | rfl
  · show (43 : Nat) ≠ b; omega
  · show (46 : Nat) ≠ b; omega
  · show (126 : Nat) ≠ b; omega)
theorem be5_no : ∀ b, 126 < b → idx be5 b = -1 := fun b hb => idx_none _ _ (fun j hj => by
  have : j = 0 ∨ j = 1 ∨ j = 2 ∨ j = 3 ∨ j = 4 := by have : be5.size = 5 := rfl; omega
  rcases this with rfl | rfl | rfl | rfl | rfl
  · show (43 : Nat) ≠ b; omega
  · show (46 : Nat) ≠ b; omega
  · show (126 : Nat) ≠ b; omega
  · show (45 : Nat) ≠ b; omega
  · show (58 : Nat) ≠ b; omega)
/-- A version's epoch, what stands behind it; of that the part ahead of the last dash, the revision. -/
def epOf (s : ByteArray) : ByteArray := if 0 ≤ idx s 58 then s.extract 0 (idx s 58).toNat else ⟨#[48]⟩
def restOf (s : ByteArray) : ByteArray := if 0 ≤ idx s 58 then s.extract ((idx s 58).toNat + 1) s.size else s
def upOf (r : ByteArray) : ByteArray := if 0 ≤ las r 45 then r.extract 0 (las r 45).toNat else r
def revOf (r : ByteArray) : ByteArray := if 0 ≤ las r 45 then r.extract ((las r 45).toNat + 1) r.size else ⟨#[]⟩
def verP (ep up rev : ByteArray) : Bool := epB ep && allB (ofB be3) rev && decide (1 ≤ up.size) && digB (byteAt up 0) && allB (ofB be5) up
/-- Is a text a version? -/
def verB (s : ByteArray) : Bool := decide (1 ≤ s.size) && decide (s.size ≤ 48) && (decide (las (restOf s) 45 < 0) || decide (1 ≤ (revOf (restOf s)).size)) && verP (epOf s) (upOf (restOf s)) (revOf (restOf s))
theorem ext_le (s : ByteArray) (a b : Nat) : (s.extract a b).size ≤ s.size := by rw [ByteArray.size_extract]; omega
theorem epOf_le (s : ByteArray) : (epOf s).size ≤ s.size + 1 := by
  unfold epOf
  split
  · have := ext_le s 0 (idx s 58).toNat; omega
  · show 1 ≤ s.size + 1; omega
theorem restOf_le (s : ByteArray) : (restOf s).size ≤ s.size := by
  unfold restOf
  split
  · exact ext_le _ _ _
  · exact Nat.le_refl _
theorem upOf_le (s : ByteArray) : (upOf s).size ≤ s.size := by
  unfold upOf
  split
  · exact ext_le _ _ _
  · exact Nat.le_refl _
theorem revOf_le (s : ByteArray) : (revOf s).size ≤ s.size := by
  unfold revOf
  split
  · exact ext_le _ _ _
  · exact Nat.zero_le _
/-- What of answers, under a name. -/
structure OfIs (s be : ByteArray) (b : Bool) : Prop where
  le : s.size ≤ 1048576
  no : ∀ b, 126 < b → idx be b = -1
  is : b = allB (ofB be) s
theorem ofis_any {s be : ByteArray} {b : Bool} (h : OfIs s be b) (w : World) : Calls Tryz.prog 63 #[.string s, .string be] w fun e w' => e = .returned (.bool b) ∧ Below w.heap.size w w' := by
  rw [h.is]
  exact of_any s be w h.le h.no
/-- What Parse hands back. -/
def VerRes (b : Bool) (e : Ending) : Prop := ∃ x y z, e = .returned (.tuple #[.string x, .string y, .string z, .int .i64 (if b then 0 else 3)])
set_option maxRecDepth 100000 in
set_option maxHeartbeats 16000000 in
theorem vparse_any (s : ByteArray) (w : World) (hs : s.size ≤ 1048576) :
    Calls Tryz.prog 39 #[.string s] w fun e w' => VerRes (verB s) e ∧ Below w.heap.size w w' := by
  by_cases h1 : 1 ≤ s.size
  case neg =>
    have he := str_nil h1
    subst he
    go_enter Tryz.func39, Tryz.ntmps39
    go_wp2_with fail
    refine bodyPost_ret (v := .tuple #[.string ⟨#[]⟩, .string ⟨#[]⟩, .string ⟨#[]⟩, .int .i64 3]) (by simp [results, Tryz.results39, go_sem]) rfl ?_
    exact ⟨⟨_, _, _, rfl⟩, Below.refl _ _⟩
  have n0 := str_ne h1
  by_cases h48 : s.size ≤ 48
  case neg =>
    have HV : Hid (verB s = false) := Lib.hid (by unfold verB; rw [decide_eq_false h48]; simp)
    have n48 : (48 : Int) < (s.size : Int) := by omega
    clear h48
    go_enter Tryz.func39, Tryz.ntmps39
    go_wp2_with fail
    refine bodyPost_ret (v := .tuple #[.string ⟨#[]⟩, .string ⟨#[]⟩, .string ⟨#[]⟩, .int .i64 3]) (by simp [results, Tryz.results39, go_sem]) rfl ?_
    exact ⟨⟨_, _, _, by rw [HV.out]; rfl⟩, Below.refl _ _⟩
  have n48 : ¬ (48 : Int) < (s.size : Int) := by omega
  have HV : Hid (verB s = ((decide (las (restOf s) 45 < 0) || decide (1 ≤ (revOf (restOf s)).size)) && verP (epOf s) (upOf (restOf s)) (revOf (restOf s)))) := Lib.hid (by unfold verB; rw [decide_eq_true h1, decide_eq_true h48]; rfl)
  have hcut := cut_any s 58 w hs
  have e58 : (58 : UInt8).toNat = 58 := rfl
  rw [e58] at hcut
  obtain ⟨ep, hep⟩ : ∃ ep, ep = epOf s := ⟨_, rfl⟩
  obtain ⟨rest, hrest⟩ : ∃ rest, rest = restOf s := ⟨_, rfl⟩
  have hepl := epOf_le s
  have hrl := restOf_le s
  rw [← hep] at HV hepl
  rw [← hrest] at HV hrl
  have HEPE := Lib.hid hep
  have HRST := Lib.hid hrest
  have HEP : Hid (∀ W, Below w.heap.size w W → Calls Tryz.prog 62 #[.string ep] W fun e w' => e = .returned (.bool (epB ep)) ∧ Below w.heap.size w w') := Lib.hid (fun W hW => (epoch_any ep W (by omega)).mono fun e w' ⟨he, hb⟩ => ⟨he, hW.trans (hb.mono hW.size)⟩)
  have HLA := Lib.hid (fun W => lastIndexByte_any rest 45 W (by omega))
  have HCUT : Hid (∃ a b d, cut1 s 58 = (a, b, d) ∧ (d = true → a = ep ∧ b = rest) ∧ (d = false → ep = ⟨#[48]⟩ ∧ rest = s)) := Lib.hid (by
    rw [hep, hrest]
    unfold cut1 epOf restOf
    split
    · exact ⟨_, _, _, rfl, fun _ => ⟨rfl, rfl⟩, fun h => by cases h⟩
    · exact ⟨_, _, _, rfl, (fun h => by cases h), fun _ => ⟨rfl, rfl⟩⟩)
  obtain ⟨a, b, d, hcc, hdt, hdf⟩ := HCUT.out
  rw [hcc] at hcut
  have HCU := Lib.hid hcut
  clear hcut hep hrest hcc h48 e58 HCUT
  go_enter Tryz.func39, Tryz.ntmps39
  go_upto_if 25 with (go_at_call 60; refine HCU.out.mono ?_; rintro e w1 ⟨rfl, m, rfl⟩)
  go_cut [2, 6] (fun v2 v6 wx => v2 = .string ep ∧ v6 = .string rest ∧ Hid (Below w.heap.size w wx))
  case first =>
    cases d with
    | true =>
      obtain ⟨rfl, rfl⟩ := hdt rfl
      clear hdt hdf
      go_wp2_with fail
      go_meet
      exact ⟨rfl, rfl, Lib.hid ⟨rfl, rfl, rfl, Nat.le_refl _, fun _ _ => rfl⟩⟩
    | false =>
      obtain ⟨rfl, rfl⟩ := hdf rfl
      clear hdt hdf
      go_wp2_with fail
      go_meet
      exact ⟨rfl, rfl, Lib.hid ⟨rfl, rfl, rfl, Nat.le_refl _, fun _ _ => rfl⟩⟩
  case rest =>
    obtain ⟨rfl, rfl, HBC⟩ := hcut
    clear hdt hdf HCU
    have hlr := las_range rest 45
    have hul := upOf_le rest
    have hvl := revOf_le rest
    obtain ⟨up, hup⟩ : ∃ up, up = upOf rest := ⟨_, rfl⟩
    obtain ⟨rev, hrev⟩ : ∃ rev, rev = revOf rest := ⟨_, rfl⟩
    rw [← hup, ← hrev] at HV
    rw [← hup] at hul
    rw [← hrev] at hvl
    unfold upOf at hup
    unfold revOf at hrev
    have HUP := Lib.hid (fun W => of_any up be5 W (by omega) be5_no)
    have HRV := Lib.hid (fun W => of_any rev be3 W (by omega) be3_no)
    obtain ⟨q, hq⟩ : ∃ q, q = las rest 45 := ⟨_, rfl⟩
    rw [← hq] at hup hrev HV HLA hlr
    have HUPE := Lib.hid hup
    have HREVE := Lib.hid hrev
    clear hq hup hrev
    go_upto_if 32 with (go_at_call 61; refine (HLA.out _).mono ?_; rintro e w1 ⟨rfl, rfl⟩)
    go_cut [2, 3, 4] (fun v2 v3 v4 wx => v2 = .string ep ∧ v3 = .string up ∧ v4 = .string rev ∧ Hid (Below w.heap.size w wx) ∧ Hid (verB s = verP ep up rev))
    case first =>
      rcases hlr with rfl | ⟨k, rfl, hk⟩
      · have hup := HUPE.out
        have hrev := HREVE.out
        rw [if_neg (by omega)] at hup hrev
        have HV2 : Hid (verB s = verP ep up rev) := Lib.hid (by rw [HV.out]; rfl)
        have HU2 := Lib.hid hup
        have HR2 := Lib.hid hrev
        clear HV hup hrev
        go_wp2_with fail
        go_meet
        exact ⟨rfl, by rw [HU2.out], by rw [HR2.out], HBC, HV2⟩
      · have hup := HUPE.out
        have hrev := HREVE.out
        rw [if_pos (by omega), Int.toNat_natCast] at hup hrev
        have k1 : (k : Int) ≤ (rest.size : Int) := by omega
        have k2 : (k : Int) + 1 ≤ (rest.size : Int) := by omega
        have k3 : (0 : Int) ≤ (k : Int) + 1 := by omega
        have hw1 : IntKind.i64.wrap ((k : Int) + 1) = (k : Int) + 1 := by rw [IntKind.wrap_i64]; omega
        have HB9 : Hid (Below w.heap.size w wc.drew) := Lib.hid (HBC.out.trans ⟨rfl, rfl, rfl, Nat.le_refl _, fun _ _ => rfl⟩)
        go_wp2_with fail
        go_region
        all_goals
          rw [← hup, ← hrev]
          by_cases hr1 : 1 ≤ rev.size
          case neg =>
            have HVF : Hid (verB s = false) := Lib.hid (by rw [HV.out, decide_eq_false hr1, decide_eq_false (show ¬ (k : Int) < 0 by omega)]; rfl)
            have hre := str_nil hr1
            rw [hre]
            clear HV hup hrev
            go_wp2_with fail
            refine bodyPost_ret (v := .tuple #[.string ⟨#[]⟩, .string ⟨#[]⟩, .string ⟨#[]⟩, .int .i64 3]) (by simp [results, Tryz.results39, go_sem]) rfl ?_
            exact ⟨⟨_, _, _, by rw [HVF.out]; rfl⟩, HB9.out⟩
          have HV2 : Hid (verB s = verP ep up rev) := Lib.hid (by rw [HV.out, decide_eq_true hr1, Bool.or_true, Bool.true_and])
          have nr := str_ne hr1
          clear HV hup hrev
          go_wp2_with fail
          go_meet
          exact ⟨rfl, rfl, rfl, HB9, HV2⟩
    case rest =>
      obtain ⟨rfl, rfl, rfl, HBW, HV2⟩ := hcut
      clear hlr HLA HUPE HREVE HV
      unfold verP at HV2
      have HOF : Hid (∀ {s be b}, OfIs s be b → ∀ W, Below w.heap.size w W → Calls Tryz.prog 63 #[.string s, .string be] W fun e w' => e = .returned (.bool b) ∧ Below w.heap.size w w') := Lib.hid (fun h W hW => (ofis_any h W).mono fun e w' ⟨he, hb⟩ => ⟨he, hW.trans (hb.mono hW.size)⟩)
      have hbw := HBW.out
      obtain ⟨e1, he1⟩ : ∃ e1, e1 = epB ep := ⟨_, rfl⟩
      obtain ⟨r1, hr9⟩ : ∃ r1, r1 = allB (ofB be3) rev := ⟨_, rfl⟩
      rw [← he1] at HV2 HEP
      have HRVF : OfIs rev ⟨#[43, 46, 126]⟩ r1 := ⟨by omega, be3_no, hr9⟩
      rw [← hr9] at HV2
      clear he1 hr9 HRV
      cases e1 with
      | false =>
        have HF : Hid (verB s = false) := Lib.hid (by rw [HV2.out]; rfl)
        go_wp2_with (first
          | (go_at_call 62; refine (HEP.out _ (by assumption)).mono ?_; rintro e w2 ⟨rfl, hb2⟩))
        refine bodyPost_ret (v := .tuple #[.string ⟨#[]⟩, .string ⟨#[]⟩, .string ⟨#[]⟩, .int .i64 3]) (by simp [results, Tryz.results39, go_sem]) rfl ?_
        exact ⟨⟨_, _, _, by rw [HF.out]; rfl⟩, by assumption⟩
      | true =>
        cases r1 with
        | false =>
          have HF : Hid (verB s = false) := Lib.hid (by rw [HV2.out]; rfl)
          go_wp2_with (first
            | (go_at_call 62; refine (HEP.out _ (by assumption)).mono ?_; rintro e w2 ⟨rfl, hb2⟩)
            | (go_at_call 63; refine (HOF.out (by assumption) _ (by assumption)).mono ?_; rintro e w3 ⟨rfl, hb3⟩))
          refine bodyPost_ret (v := .tuple #[.string ⟨#[]⟩, .string ⟨#[]⟩, .string ⟨#[]⟩, .int .i64 3]) (by simp [results, Tryz.results39, go_sem]) rfl ?_
          exact ⟨⟨_, _, _, by rw [HF.out]; rfl⟩, by assumption⟩
        | true =>
          by_cases hu1 : 1 ≤ up.size
          case neg =>
            have HF : Hid (verB s = false) := Lib.hid (by rw [HV2.out, decide_eq_false hu1]; rfl)
            have hue := str_nil hu1
            rw [hue] at *
            go_wp2_with (first
              | (go_at_call 62; refine (HEP.out _ (by assumption)).mono ?_; rintro e w2 ⟨rfl, hb2⟩)
              | (go_at_call 63; refine (HOF.out (by assumption) _ (by assumption)).mono ?_; rintro e w3 ⟨rfl, hb3⟩))
            refine bodyPost_ret (v := .tuple #[.string ⟨#[]⟩, .string ⟨#[]⟩, .string ⟨#[]⟩, .int .i64 3]) (by simp [results, Tryz.results39, go_sem]) rfl ?_
            exact ⟨⟨_, _, _, by rw [HF.out]; rfl⟩, by assumption⟩
          have nu := str_ne hu1
          have hu0 : 0 < up.size := hu1
          have hx2 : ((up[0]'hu0).toNat : Nat) = byteAt up 0 := (byteAt_get up 0 hu0).symm
          have hu0i : (0 : Int) < (up.size : Int) := by omega
          have HDG := Lib.hid (fun W => vdigit_any (byteAt up 0) W (byteAt_lt _ _))
          rw [decide_eq_true hu1] at HV2
          obtain ⟨g1, hg1⟩ : ∃ g1, g1 = digB (byteAt up 0) := ⟨_, rfl⟩
          obtain ⟨u1, hu9⟩ : ∃ u1, u1 = allB (ofB be5) up := ⟨_, rfl⟩
          rw [← hg1] at HV2 HDG
          have HUPF : OfIs up ⟨#[43, 46, 126, 45, 58]⟩ u1 := ⟨by omega, be5_no, hu9⟩
          rw [← hu9] at HV2
          clear hg1 hu9 hu1
          cases g1 with
          | false =>
            have HF : Hid (verB s = false) := Lib.hid (by rw [HV2.out]; rfl)
            go_wp2_with (first
              | (go_at_call 62; refine (HEP.out _ (by assumption)).mono ?_; rintro e w2 ⟨rfl, hb2⟩)
              | (go_at_call 63; refine (HOF.out (by assumption) _ (by assumption)).mono ?_; rintro e w3 ⟨rfl, hb3⟩)
              | (go_at_call 64; refine (HDG.out _).mono ?_; rintro e w4 ⟨rfl, rfl⟩))
            refine bodyPost_ret (v := .tuple #[.string ⟨#[]⟩, .string ⟨#[]⟩, .string ⟨#[]⟩, .int .i64 3]) (by simp [results, Tryz.results39, go_sem]) rfl ?_
            exact ⟨⟨_, _, _, by rw [HF.out]; rfl⟩, by assumption⟩
          | true =>
            cases u1 with
            | false =>
              have HF : Hid (verB s = false) := Lib.hid (by rw [HV2.out]; rfl)
              go_wp2_with (first
                | (go_at_call 62; refine (HEP.out _ (by assumption)).mono ?_; rintro e w2 ⟨rfl, hb2⟩)
                | (go_at_call 63; refine (HOF.out (by assumption) _ (by assumption)).mono ?_; rintro e w3 ⟨rfl, hb3⟩)
                | (go_at_call 64; refine (HDG.out _).mono ?_; rintro e w4 ⟨rfl, rfl⟩))
              refine bodyPost_ret (v := .tuple #[.string ⟨#[]⟩, .string ⟨#[]⟩, .string ⟨#[]⟩, .int .i64 3]) (by simp [results, Tryz.results39, go_sem]) rfl ?_
              exact ⟨⟨_, _, _, by rw [HF.out]; rfl⟩, by assumption⟩
            | true =>
              have HF : Hid (verB s = true) := Lib.hid (by rw [HV2.out]; rfl)
              go_wp2_with (first
                | (go_at_call 62; refine (HEP.out _ (by assumption)).mono ?_; rintro e w2 ⟨rfl, hb2⟩)
                | (go_at_call 63; refine (HOF.out (by assumption) _ (by assumption)).mono ?_; rintro e w3 ⟨rfl, hb3⟩)
                | (go_at_call 64; refine (HDG.out _).mono ?_; rintro e w4 ⟨rfl, rfl⟩))
              refine bodyPost_ret (v := .tuple #[.string ep, .string up, .string rev, .int .i64 0]) (by simp [results, Tryz.results39, go_sem]) rfl ?_
              exact ⟨⟨_, _, _, by rw [HF.out]; rfl⟩, by assumption⟩
end Go.Proofs.YtjkaigfpjebfbaaGreatDoor
