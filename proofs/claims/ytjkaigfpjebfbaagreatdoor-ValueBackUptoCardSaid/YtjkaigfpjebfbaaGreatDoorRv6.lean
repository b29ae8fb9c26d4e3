/- chandlerref4.Version, Is. -/
import Derived.Test.YtjkaigfpjebfbaaGreatDoorRv5
namespace Go.Proofs.YtjkaigfpjebfbaaGreatDoor
open Go.RowKit
set_option linter.unusedVariables false

theorem idxF_some {s : ByteArray} {c : Nat} : ∀ (f i j : Nat), i ≤ j → j < s.size → s.size ≤ i + f → byteAt s j = c → 0 ≤ idxF s c f i
  | 0, i, j, h1, h2, h3, h4 => by omega
  | f + 1, i, j, h1, h2, h3, h4 => by
    unfold idxF
    rw [if_pos (by omega)]
    split
    · omega
    · next h => exact idxF_some f (i + 1) j (by rcases Nat.lt_or_ge i j with h9 | h9; exact h9; (have : i = j := by omega); subst this; exact absurd h4 h) h2 (by omega) h4
theorem idx_dec (s : ByteArray) (c : Nat) : decide (0 ≤ idx s c) = (List.range s.size).any fun j => byteAt s j == c := by
  rw [Bool.eq_iff_iff, decide_eq_true_eq, List.any_eq_true]
  constructor
  · intro h
    rcases Classical.em (∃ j, j ∈ List.range s.size ∧ (byteAt s j == c) = true) with h2 | h2
    · exact h2
    · have := idx_none (s := s) (c := c) s.size 0 (fun j hj e => h2 ⟨j, List.mem_range.2 hj, by rw [e]; simp⟩)
      unfold idx at h
      omega
  · rintro ⟨j, hj, he⟩
    exact idxF_some _ 0 j (Nat.zero_le _) (List.mem_range.1 hj) (by omega) (by simpa using he)
theorem be3_of (c : Nat) : ofB be3 c = (digB c || letB c || (decide (c = 43) || decide (c = 46) || decide (c = 126))) := by
  unfold ofB
  rw [idx_dec, Bool.or_assoc, Bool.or_assoc]
  congr 2
  rw [Bool.eq_iff_iff, List.any_eq_true]
  simp only [Bool.or_eq_true, decide_eq_true_eq, List.mem_range, beq_iff_eq]
  constructor
  · rintro ⟨j, hj, rfl⟩
    have : j = 0 ∨ j = 1 ∨ j = 2 := by have : be3.size = 3 := rfl; omega
    rcases this with rfl | rfl | rfl <;> decide
  · rintro ((rfl | rfl) | rfl)
    · exact ⟨0, by decide, rfl⟩
    · exact ⟨1, by decide, rfl⟩
    · exact ⟨2, by decide, rfl⟩
theorem be5_of (c : Nat) : ofB be5 c = (digB c || letB c || (decide (c = 43) || decide (c = 46) || decide (c = 126) || decide (c = 45) || decide (c = 58))) := by
  unfold ofB
  rw [idx_dec, Bool.or_assoc, Bool.or_assoc]
  congr 2
  rw [Bool.eq_iff_iff, List.any_eq_true]
  simp only [Bool.or_eq_true, decide_eq_true_eq, List.mem_range, beq_iff_eq]
  constructor
  · rintro ⟨j, hj, rfl⟩
    have : j = 0 ∨ j = 1 ∨ j = 2 ∨ j = 3 ∨ j = 4 := by have : be5.size = 5 := rfl; omega
    rcases this with rfl | rfl | rfl | rfl | rfl <;> decide
  · rintro ((((rfl | rfl) | rfl) | rfl) | rfl)
    · exact ⟨0, by decide, rfl⟩
    · exact ⟨1, by decide, rfl⟩
    · exact ⟨2, by decide, rfl⟩
    · exact ⟨3, by decide, rfl⟩
    · exact ⟨4, by decide, rfl⟩
/-- What the reference's Version hands back. -/
def RVerRes (b : Bool) (e : Ending) : Prop := ∃ x y z, e = .returned (.tuple #[.string x, .string y, .string z, .bool b])
set_option maxRecDepth 100000 in
set_option maxHeartbeats 16000000 in
theorem rversion_any (s : ByteArray) (w : World) (hs : s.size ≤ 1048576) :
    Calls Tryz.prog 94 #[.string s] w fun e w' => RVerRes (verB s) e ∧ ∃ m, w' = w.drewN m := by
  by_cases h1 : 1 ≤ s.size
  case neg =>
    have he := str_nil h1
    subst he
    go_enter Tryz.func94, Tryz.ntmps94
    go_wp2_with fail
    refine bodyPost_ret (v := .tuple #[.string ⟨#[]⟩, .string ⟨#[]⟩, .string ⟨#[]⟩, .bool false]) (by simp [results, Tryz.results94, go_sem]) rfl ?_
    exact ⟨⟨_, _, _, rfl⟩, 0, rfl⟩
  have n1 : ((s.size : Int) == 0) = false := by rw [beq_eq_false_iff_ne]; omega
  by_cases h48 : s.size ≤ 48
  case neg =>
    have HV : Hid (verB s = false) := Lib.hid (by unfold verB; rw [decide_eq_false h48]; simp)
    have n48 : (48 : Int) < (s.size : Int) := by omega
    clear h48
    go_enter Tryz.func94, Tryz.ntmps94
    go_wp2_with fail
    refine bodyPost_ret (v := .tuple #[.string ⟨#[]⟩, .string ⟨#[]⟩, .string ⟨#[]⟩, .bool false]) (by simp [results, Tryz.results94, go_sem]) rfl ?_
    exact ⟨⟨_, _, _, by rw [HV.out]⟩, 0, rfl⟩
  have n48 : ¬ (48 : Int) < (s.size : Int) := by omega
  have HV : Hid (verB s = ((decide (las (restOf s) 45 < 0) || decide (1 ≤ (revOf (restOf s)).size)) && verP (epOf s) (upOf (restOf s)) (revOf (restOf s)))) := Lib.hid (by unfold verB; rw [decide_eq_true h1, decide_eq_true h48]; rfl)
  obtain ⟨ep, hep⟩ : ∃ ep, ep = epOf s := ⟨_, rfl⟩
  obtain ⟨rest, hrest⟩ : ∃ rest, rest = restOf s := ⟨_, rfl⟩
  have hepl := epOf_le s
  have hrl := restOf_le s
  rw [← hep] at HV hepl
  rw [← hrest] at HV hrl
  have hir := idx_range s 58
  have HFI := Lib.hid (fun W => first_any s 58 W (by omega))
  unfold epOf at hep
  unfold restOf at hrest
  obtain ⟨q, hq⟩ : ∃ q, q = idx s 58 := ⟨_, rfl⟩
  rw [← hq] at hep hrest hir HFI
  have HEPE := Lib.hid hep
  have HRSE := Lib.hid hrest
  have HLA := Lib.hid (fun W => last_any rest 45 W (by omega))
  clear hq hep hrest h48
  go_enter Tryz.func94, Tryz.ntmps94
  go_upto_if 26 with (go_at_call 107; refine (HFI.out _).mono ?_; rintro e w1 ⟨rfl, rfl⟩)
  go_cut [0, 6] (fun v0 v6 wx => v0 = .string rest ∧ v6 = .string ep ∧ Hid (∃ m, wx = w.drewN m) ∧ Hid (epB ep = true))
  case first =>
    rcases hir with rfl | ⟨k, rfl, hk⟩
    · have hep := HEPE.out
      have hrest := HRSE.out
      rw [if_neg (by omega)] at hep hrest
      have HE2 := Lib.hid hep
      have HR2 := Lib.hid hrest
      have HEB : Hid (epB ep = true) := Lib.hid (by rw [hep]; rfl)
      clear hep hrest
      go_wp2_with fail
      go_meet
      exact ⟨by rw [HR2.out], by rw [HE2.out], Lib.hid ⟨0, rfl⟩, HEB⟩
    · have hep := HEPE.out
      have hrest := HRSE.out
      rw [if_pos (by omega), Int.toNat_natCast] at hep hrest
      have k1 : (k : Int) ≤ (s.size : Int) := by omega
      have k2 : (k : Int) + 1 ≤ (s.size : Int) := by omega
      have k3 : (0 : Int) ≤ (k : Int) + 1 := by omega
      have hw1 : IntKind.i64.wrap ((k : Int) + 1) = (k : Int) + 1 := by rw [IntKind.wrap_i64]; omega
      go_wp2_with fail
      go_region
      all_goals
        rw [← hep, ← hrest]
        clear hep hrest
        obtain ⟨W1, hW1⟩ : ∃ W1, W1 = w.drew := ⟨_, rfl⟩
        have HW1 : Hid (W1 = w.drewN 1) := Lib.hid hW1
        rw [← hW1]
        clear hW1
        by_cases he1 : 1 ≤ ep.size
        case neg =>
          have HVF : Hid (verB s = false) := Lib.hid (by rw [HV.out]; unfold verP epB; rw [decide_eq_false he1]; simp)
          have i1 : (ep.size : Int) < 1 := by omega
          go_wp2_with fail
          refine bodyPost_ret (v := .tuple #[.string ⟨#[]⟩, .string ⟨#[]⟩, .string ⟨#[]⟩, .bool false]) (by simp [results, Tryz.results94, go_sem]) rfl ?_
          exact ⟨⟨_, _, _, by rw [HVF.out]⟩, _, HW1.out⟩
        have i1 : ¬ (ep.size : Int) < 1 := by omega
        by_cases he9 : ep.size ≤ 9
        case neg =>
          have HVF : Hid (verB s = false) := Lib.hid (by rw [HV.out]; unfold verP epB; rw [decide_eq_false he9]; simp)
          have i9 : (9 : Int) < (ep.size : Int) := by omega
          go_wp2_with fail
          refine bodyPost_ret (v := .tuple #[.string ⟨#[]⟩, .string ⟨#[]⟩, .string ⟨#[]⟩, .bool false]) (by simp [results, Tryz.results94, go_sem]) rfl ?_
          exact ⟨⟨_, _, _, by rw [HVF.out]⟩, _, HW1.out⟩
        have i9 : ¬ (9 : Int) < (ep.size : Int) := by omega
        have HEB : Hid (epB ep = allB digB ep) := Lib.hid (by unfold epB; rw [decide_eq_true he1, decide_eq_true he9]; rfl)
        go_wp2_with fail
        go_loop [44] (fun v => ∃ i f : Nat, v = .int .i64 (i : Int) ∧ i ≤ ep.size ∧ ep.size ≤ i + f ∧ Hid (allF digB ep f i = allB digB ep)) (fun v => ep.size - (intOf v).toNat)
        case atStart => exact ⟨0, ep.size, rfl, Nat.zero_le _, by omega, Lib.hid rfl⟩
        case round =>
          obtain ⟨i, f, rfl, hi, hf, HA⟩ := hrel
          by_cases hp : i < ep.size
          · obtain ⟨f, rfl⟩ : ∃ f', f = f' + 1 := ⟨f - 1, by omega⟩
            have hx2 : ((ep[i]'hp).toNat : Nat) = byteAt ep i := (byteAt_get ep i hp).symm
            have HNo := Lib.hid (allF_no digB ep f i hp)
            have HYes := Lib.hid (allF_yes digB ep f i hp)
            have hc8 := byteAt_lt ep i
            obtain ⟨c, hc⟩ : ∃ c, c = byteAt ep i := ⟨_, rfl⟩
            rw [← hc] at hx2 HNo HYes hc8
            have hd := fun W => digit_any c W hc8
            generalize digB c = d at *
            have HD := Lib.hid hd
            clear hc hd hc8
            cases d with
            | true =>
              have HF : Hid (allF digB ep f (i + 1) = allB digB ep) := Lib.hid (by rw [← HA.out, HYes.out rfl])
              clear HNo HYes
              go_wp2_with (go_at_call 93; refine (HD.out _).mono ?_; rintro e w2 ⟨rfl, rfl⟩)
              go_round
              case rel => exact ⟨i + 1, f, by go_num, by omega, by omega, HF⟩
              case measure => simp [intOf]; omega
            | false =>
              have HF : Hid (allB digB ep = false) := Lib.hid (by rw [← HA.out, HNo.out rfl])
              have HVF : Hid (verB s = false) := Lib.hid (by rw [HV.out]; unfold verP; rw [HEB.out, HF.out]; simp)
              clear HNo HYes
              go_wp2_with (go_at_call 93; refine (HD.out _).mono ?_; rintro e w2 ⟨rfl, rfl⟩)
              refine bodyPost_ret (v := .tuple #[.string ⟨#[]⟩, .string ⟨#[]⟩, .string ⟨#[]⟩, .bool false]) (by simp [results, Tryz.results94, go_sem]) rfl ?_
              exact ⟨⟨_, _, _, by rw [HVF.out]⟩, _, HW1.out⟩
          · have HT : Hid (epB ep = true) := Lib.hid (by rw [HEB.out, ← HA.out]; exact allF_end _ _ _ _ hp)
            go_wp2_with fail
            go_meet
            exact ⟨rfl, rfl, Lib.hid ⟨_, HW1.out⟩, HT⟩
  case rest =>
    obtain ⟨rfl, rfl, HWC, HEB⟩ := hcut
    clear hir HEPE HRSE HFI
    have hlr := las_range rest 45
    have hul := upOf_le rest
    have hvl := revOf_le rest
    obtain ⟨up, hup⟩ : ∃ up, up = upOf rest := ⟨_, rfl⟩
    obtain ⟨rev, hrev⟩ : ∃ rev, rev = revOf rest := ⟨_, rfl⟩
    rw [← hup, ← hrev] at HV
    rw [← hup] at hul
    rw [← hrev] at hvl
    unfold upOf at hup
    unfold revOf at hrev
    obtain ⟨q2, hq⟩ : ∃ q2, q2 = las rest 45 := ⟨_, rfl⟩
    rw [← hq] at hup hrev HV HLA hlr
    have HUPE := Lib.hid hup
    have HREVE := Lib.hid hrev
    clear hq hup hrev
    go_upto_if 56 with (go_at_call 108; refine (HLA.out _).mono ?_; rintro e w1 ⟨rfl, rfl⟩)
    go_cut [0, 7] (fun v0 v7 wx => v0 = .string up ∧ v7 = .string rev ∧ Hid (∃ m, wx = w.drewN m) ∧ Hid (verB s = verP ep up rev))
    case first =>
      rcases hlr with rfl | ⟨k, rfl, hk⟩
      · have hup := HUPE.out
        have hrev := HREVE.out
        rw [if_neg (by omega)] at hup hrev
        have HV2 : Hid (verB s = verP ep up rev) := Lib.hid (by rw [HV.out]; rfl)
        have HU2 := Lib.hid hup
        have HR2 := Lib.hid hrev
        clear HV hup hrev
        go_wp2_with fail
        go_meet
        exact ⟨by rw [HU2.out], by rw [HR2.out], HWC, HV2⟩
      · have hup := HUPE.out
        have hrev := HREVE.out
        rw [if_pos (by omega), Int.toNat_natCast] at hup hrev
        have k1 : (k : Int) ≤ (rest.size : Int) := by omega
        have k2 : (k : Int) + 1 ≤ (rest.size : Int) := by omega
        have k3 : (0 : Int) ≤ (k : Int) + 1 := by omega
        have hw1 : IntKind.i64.wrap ((k : Int) + 1) = (k : Int) + 1 := by rw [IntKind.wrap_i64]; omega
        have HB9 : Hid (∃ m, wc.drew = w.drewN m) := Lib.hid (by obtain ⟨m, hm⟩ := HWC.out; exact ⟨m + 1, by rw [hm]; simp [World.drewN, World.drew, Nat.add_assoc]⟩)
        go_wp2_with fail
        go_region
        all_goals
          rw [← hup, ← hrev]
          by_cases hr1 : 1 ≤ rev.size
          case neg =>
            have HVF : Hid (verB s = false) := Lib.hid (by rw [HV.out, decide_eq_false hr1, decide_eq_false (show ¬ (k : Int) < 0 by omega)]; rfl)
            have hre := str_nil hr1
            rw [hre]
            clear HV hup hrev
            go_wp2_with fail
            refine bodyPost_ret (v := .tuple #[.string ⟨#[]⟩, .string ⟨#[]⟩, .string ⟨#[]⟩, .bool false]) (by simp [results, Tryz.results94, go_sem]) rfl ?_
            exact ⟨⟨_, _, _, by rw [HVF.out]⟩, HB9.out⟩
          have HV2 : Hid (verB s = verP ep up rev) := Lib.hid (by rw [HV.out, decide_eq_true hr1, Bool.or_true, Bool.true_and])
          have nr := str_ne hr1
          clear HV hup hrev
          go_wp2_with fail
          go_meet
          exact ⟨rfl, rfl, HB9, HV2⟩
    case rest =>
      obtain ⟨rfl, rfl, HWD, HV⟩ := hcut
      clear hlr HLA HUPE HREVE HWC
      go_wp2_with fail
      go_loop [68] (fun v => ∃ i f : Nat, v = .int .i64 (i : Int) ∧ i ≤ rev.size ∧ rev.size ≤ i + f ∧ Hid (allF (ofB be3) rev f i = allB (ofB be3) rev)) (fun v => rev.size - (intOf v).toNat)
      case atStart => exact ⟨0, rev.size, rfl, Nat.zero_le _, by omega, Lib.hid rfl⟩
      case round =>
        obtain ⟨i, f, rfl, hi, hf, HA⟩ := hrel
        by_cases hp : i < rev.size
        · obtain ⟨f, rfl⟩ : ∃ f', f = f' + 1 := ⟨f - 1, by omega⟩
          have hx2 : ((rev[i]'hp).toNat : Nat) = byteAt rev i := (byteAt_get rev i hp).symm
          have HNo := Lib.hid (allF_no (ofB be3) rev f i hp)
          have HYes := Lib.hid (allF_yes (ofB be3) rev f i hp)
          have hc8 := byteAt_lt rev i
          obtain ⟨c, hc⟩ : ∃ c, c = byteAt rev i := ⟨_, rfl⟩
          rw [← hc] at hx2 HNo HYes hc8
          rw [be3_of] at HNo HYes
          have hd := fun W => digit_any c W hc8
          have hl := fun W => rletter_any c W hc8
          generalize digB c = d at *
          generalize letB c = l at *
          have HD := Lib.hid hd
          have HL := Lib.hid hl
          clear hc hd hl hc8
          cases l with
          | true =>
            have HF : Hid (allF (ofB be3) rev f (i + 1) = allB (ofB be3) rev) := Lib.hid (by rw [← HA.out, HYes.out (by simp)])
            clear HNo HYes
            go_wp2_with (first
              | (go_at_call 109; refine (HL.out _).mono ?_; rintro e w1 ⟨rfl, rfl⟩)
              | (go_at_call 93; refine (HD.out _).mono ?_; rintro e w2 ⟨rfl, rfl⟩))
            go_round
            case rel => exact ⟨i + 1, f, by go_num, by omega, by omega, HF⟩
            case measure => simp [intOf]; omega
          | false =>
            cases d with
            | true =>
              have HF : Hid (allF (ofB be3) rev f (i + 1) = allB (ofB be3) rev) := Lib.hid (by rw [← HA.out, HYes.out (by simp)])
              clear HNo HYes
              go_wp2_with (first
                | (go_at_call 109; refine (HL.out _).mono ?_; rintro e w1 ⟨rfl, rfl⟩)
                | (go_at_call 93; refine (HD.out _).mono ?_; rintro e w2 ⟨rfl, rfl⟩))
              go_round
              case rel => exact ⟨i + 1, f, by go_num, by omega, by omega, HF⟩
              case measure => simp [intOf]; omega
            | false =>
              by_cases h43 : c = 43
              · skip
                have q43 : ((c : Int) != 43) = false := by (simp <;> omega)
                have p43 : ((c : Int) == 43) = true := by (simp <;> omega)
                have HF : Hid (allF (ofB be3) rev f (i + 1) = allB (ofB be3) rev) := Lib.hid (by rw [← HA.out, HYes.out (by subst h43; rfl)])
                clear HNo HYes h43
                go_wp2_with (first
                  | (go_at_call 109; refine (HL.out _).mono ?_; rintro e w1 ⟨rfl, rfl⟩)
                  | (go_at_call 93; refine (HD.out _).mono ?_; rintro e w2 ⟨rfl, rfl⟩))
                go_round
                case rel => exact ⟨i + 1, f, by go_num, by omega, by omega, HF⟩
                case measure => simp [intOf]; omega
              by_cases h46 : c = 46
              · skip
                have q43 : ((c : Int) != 43) = true := by (simp <;> omega)
                have p43 : ((c : Int) == 43) = false := by (simp <;> omega)
                have q46 : ((c : Int) != 46) = false := by (simp <;> omega)
                have p46 : ((c : Int) == 46) = true := by (simp <;> omega)
                have HF : Hid (allF (ofB be3) rev f (i + 1) = allB (ofB be3) rev) := Lib.hid (by rw [← HA.out, HYes.out (by subst h46; rfl)])
                clear HNo HYes h46
                go_wp2_with (first
                  | (go_at_call 109; refine (HL.out _).mono ?_; rintro e w1 ⟨rfl, rfl⟩)
                  | (go_at_call 93; refine (HD.out _).mono ?_; rintro e w2 ⟨rfl, rfl⟩))
                go_round
                case rel => exact ⟨i + 1, f, by go_num, by omega, by omega, HF⟩
                case measure => simp [intOf]; omega
              by_cases h126 : c = 126
              · skip
                have q43 : ((c : Int) != 43) = true := by (simp <;> omega)
                have p43 : ((c : Int) == 43) = false := by (simp <;> omega)
                have q46 : ((c : Int) != 46) = true := by (simp <;> omega)
                have p46 : ((c : Int) == 46) = false := by (simp <;> omega)
                have q126 : ((c : Int) != 126) = false := by (simp <;> omega)
                have p126 : ((c : Int) == 126) = true := by (simp <;> omega)
                have HF : Hid (allF (ofB be3) rev f (i + 1) = allB (ofB be3) rev) := Lib.hid (by rw [← HA.out, HYes.out (by subst h126; rfl)])
                clear HNo HYes h126
                go_wp2_with (first
                  | (go_at_call 109; refine (HL.out _).mono ?_; rintro e w1 ⟨rfl, rfl⟩)
                  | (go_at_call 93; refine (HD.out _).mono ?_; rintro e w2 ⟨rfl, rfl⟩))
                go_round
                case rel => exact ⟨i + 1, f, by go_num, by omega, by omega, HF⟩
                case measure => simp [intOf]; omega
              have q43 : ((c : Int) != 43) = true := by (simp <;> omega)
              have p43 : ((c : Int) == 43) = false := by (simp <;> omega)
              have q46 : ((c : Int) != 46) = true := by (simp <;> omega)
              have p46 : ((c : Int) == 46) = false := by (simp <;> omega)
              have q126 : ((c : Int) != 126) = true := by (simp <;> omega)
              have p126 : ((c : Int) == 126) = false := by (simp <;> omega)
              have HF : Hid (allB (ofB be3) rev = false) := Lib.hid (by rw [← HA.out, HNo.out (by rw [decide_eq_false h43]; rw [decide_eq_false h46]; rw [decide_eq_false h126]; rfl)])
              have HVF : Hid (verB s = false) := Lib.hid (by rw [HV.out]; unfold verP; rw [HF.out]; simp)
              clear HNo HYes h43 h46 h126
              go_wp2_with (first
                | (go_at_call 109; refine (HL.out _).mono ?_; rintro e w1 ⟨rfl, rfl⟩)
                | (go_at_call 93; refine (HD.out _).mono ?_; rintro e w2 ⟨rfl, rfl⟩))
              refine bodyPost_ret (v := .tuple #[.string ⟨#[]⟩, .string ⟨#[]⟩, .string ⟨#[]⟩, .bool false]) (by simp [results, Tryz.results94, go_sem]) rfl ?_
              exact ⟨⟨_, _, _, by rw [HVF.out]⟩, HWD.out⟩
        · have HTr : Hid (allB (ofB be3) rev = true) := Lib.hid (by rw [← HA.out]; exact allF_end _ _ _ _ hp)
          go_wp2_with fail
          go_loop [97] (fun v => ∃ i f : Nat, v = .int .i64 (i : Int) ∧ i ≤ up.size ∧ up.size ≤ i + f ∧ Hid (allF (ofB be5) up f i = allB (ofB be5) up)) (fun v => up.size - (intOf v).toNat)
          case atStart => exact ⟨0, up.size, rfl, Nat.zero_le _, by omega, Lib.hid rfl⟩
          case round =>
            obtain ⟨i, f, rfl, hi, hf, HA⟩ := hrel
            by_cases hp : i < up.size
            · obtain ⟨f, rfl⟩ : ∃ f', f = f' + 1 := ⟨f - 1, by omega⟩
              have hx2 : ((up[i]'hp).toNat : Nat) = byteAt up i := (byteAt_get up i hp).symm
              have HNo := Lib.hid (allF_no (ofB be5) up f i hp)
              have HYes := Lib.hid (allF_yes (ofB be5) up f i hp)
              have hc8 := byteAt_lt up i
              obtain ⟨c, hc⟩ : ∃ c, c = byteAt up i := ⟨_, rfl⟩
              rw [← hc] at hx2 HNo HYes hc8
              rw [be5_of] at HNo HYes
              have hd := fun W => digit_any c W hc8
              have hl := fun W => rletter_any c W hc8
              generalize digB c = d at *
              generalize letB c = l at *
              have HD := Lib.hid hd
              have HL := Lib.hid hl
              clear hc hd hl hc8
              cases l with
              | true =>
                have HF : Hid (allF (ofB be5) up f (i + 1) = allB (ofB be5) up) := Lib.hid (by rw [← HA.out, HYes.out (by simp)])
                clear HNo HYes
                go_wp2_with (first
                  | (go_at_call 109; refine (HL.out _).mono ?_; rintro e w1 ⟨rfl, rfl⟩)
                  | (go_at_call 93; refine (HD.out _).mono ?_; rintro e w2 ⟨rfl, rfl⟩))
                go_round
                case rel => exact ⟨i + 1, f, by go_num, by omega, by omega, HF⟩
                case measure => simp [intOf]; omega
              | false =>
                cases d with
                | true =>
                  have HF : Hid (allF (ofB be5) up f (i + 1) = allB (ofB be5) up) := Lib.hid (by rw [← HA.out, HYes.out (by simp)])
                  clear HNo HYes
                  go_wp2_with (first
                    | (go_at_call 109; refine (HL.out _).mono ?_; rintro e w1 ⟨rfl, rfl⟩)
                    | (go_at_call 93; refine (HD.out _).mono ?_; rintro e w2 ⟨rfl, rfl⟩))
                  go_round
                  case rel => exact ⟨i + 1, f, by go_num, by omega, by omega, HF⟩
                  case measure => simp [intOf]; omega
                | false =>
                  by_cases h43 : c = 43
                  · skip
                    have q43 : ((c : Int) != 43) = false := by (simp <;> omega)
                    have p43 : ((c : Int) == 43) = true := by (simp <;> omega)
                    have HF : Hid (allF (ofB be5) up f (i + 1) = allB (ofB be5) up) := Lib.hid (by rw [← HA.out, HYes.out (by subst h43; rfl)])
                    clear HNo HYes h43
                    go_wp2_with (first
                      | (go_at_call 109; refine (HL.out _).mono ?_; rintro e w1 ⟨rfl, rfl⟩)
                      | (go_at_call 93; refine (HD.out _).mono ?_; rintro e w2 ⟨rfl, rfl⟩))
                    go_round
                    case rel => exact ⟨i + 1, f, by go_num, by omega, by omega, HF⟩
                    case measure => simp [intOf]; omega
                  by_cases h46 : c = 46
                  · skip
                    have q43 : ((c : Int) != 43) = true := by (simp <;> omega)
                    have p43 : ((c : Int) == 43) = false := by (simp <;> omega)
                    have q46 : ((c : Int) != 46) = false := by (simp <;> omega)
                    have p46 : ((c : Int) == 46) = true := by (simp <;> omega)
                    have HF : Hid (allF (ofB be5) up f (i + 1) = allB (ofB be5) up) := Lib.hid (by rw [← HA.out, HYes.out (by subst h46; rfl)])
                    clear HNo HYes h46
                    go_wp2_with (first
                      | (go_at_call 109; refine (HL.out _).mono ?_; rintro e w1 ⟨rfl, rfl⟩)
                      | (go_at_call 93; refine (HD.out _).mono ?_; rintro e w2 ⟨rfl, rfl⟩))
                    go_round
                    case rel => exact ⟨i + 1, f, by go_num, by omega, by omega, HF⟩
                    case measure => simp [intOf]; omega
                  by_cases h126 : c = 126
                  · skip
                    have q43 : ((c : Int) != 43) = true := by (simp <;> omega)
                    have p43 : ((c : Int) == 43) = false := by (simp <;> omega)
                    have q46 : ((c : Int) != 46) = true := by (simp <;> omega)
                    have p46 : ((c : Int) == 46) = false := by (simp <;> omega)
                    have q126 : ((c : Int) != 126) = false := by (simp <;> omega)
                    have p126 : ((c : Int) == 126) = true := by (simp <;> omega)
                    have HF : Hid (allF (ofB be5) up f (i + 1) = allB (ofB be5) up) := Lib.hid (by rw [← HA.out, HYes.out (by subst h126; rfl)])
                    clear HNo HYes h126
                    go_wp2_with (first
                      | (go_at_call 109; refine (HL.out _).mono ?_; rintro e w1 ⟨rfl, rfl⟩)
                      | (go_at_call 93; refine (HD.out _).mono ?_; rintro e w2 ⟨rfl, rfl⟩))
                    go_round
                    case rel => exact ⟨i + 1, f, by go_num, by omega, by omega, HF⟩
                    case measure => simp [intOf]; omega
                  by_cases h45 : c = 45
                  · skip
                    have q43 : ((c : Int) != 43) = true := by (simp <;> omega)
                    have p43 : ((c : Int) == 43) = false := by (simp <;> omega)
                    have q46 : ((c : Int) != 46) = true := by (simp <;> omega)
                    have p46 : ((c : Int) == 46) = false := by (simp <;> omega)
                    have q126 : ((c : Int) != 126) = true := by (simp <;> omega)
                    have p126 : ((c : Int) == 126) = false := by (simp <;> omega)
                    have q45 : ((c : Int) != 45) = false := by (simp <;> omega)
                    have p45 : ((c : Int) == 45) = true := by (simp <;> omega)
                    have HF : Hid (allF (ofB be5) up f (i + 1) = allB (ofB be5) up) := Lib.hid (by rw [← HA.out, HYes.out (by subst h45; rfl)])
                    clear HNo HYes h45
                    go_wp2_with (first
                      | (go_at_call 109; refine (HL.out _).mono ?_; rintro e w1 ⟨rfl, rfl⟩)
                      | (go_at_call 93; refine (HD.out _).mono ?_; rintro e w2 ⟨rfl, rfl⟩))
                    go_round
                    case rel => exact ⟨i + 1, f, by go_num, by omega, by omega, HF⟩
                    case measure => simp [intOf]; omega
                  by_cases h58 : c = 58
                  · skip
                    have q43 : ((c : Int) != 43) = true := by (simp <;> omega)
                    have p43 : ((c : Int) == 43) = false := by (simp <;> omega)
                    have q46 : ((c : Int) != 46) = true := by (simp <;> omega)
                    have p46 : ((c : Int) == 46) = false := by (simp <;> omega)
                    have q126 : ((c : Int) != 126) = true := by (simp <;> omega)
                    have p126 : ((c : Int) == 126) = false := by (simp <;> omega)
                    have q45 : ((c : Int) != 45) = true := by (simp <;> omega)
                    have p45 : ((c : Int) == 45) = false := by (simp <;> omega)
                    have q58 : ((c : Int) != 58) = false := by (simp <;> omega)
                    have p58 : ((c : Int) == 58) = true := by (simp <;> omega)
                    have HF : Hid (allF (ofB be5) up f (i + 1) = allB (ofB be5) up) := Lib.hid (by rw [← HA.out, HYes.out (by subst h58; rfl)])
                    clear HNo HYes h58
                    go_wp2_with (first
                      | (go_at_call 109; refine (HL.out _).mono ?_; rintro e w1 ⟨rfl, rfl⟩)
                      | (go_at_call 93; refine (HD.out _).mono ?_; rintro e w2 ⟨rfl, rfl⟩))
                    go_round
                    case rel => exact ⟨i + 1, f, by go_num, by omega, by omega, HF⟩
                    case measure => simp [intOf]; omega
                  have q43 : ((c : Int) != 43) = true := by (simp <;> omega)
                  have p43 : ((c : Int) == 43) = false := by (simp <;> omega)
                  have q46 : ((c : Int) != 46) = true := by (simp <;> omega)
                  have p46 : ((c : Int) == 46) = false := by (simp <;> omega)
                  have q126 : ((c : Int) != 126) = true := by (simp <;> omega)
                  have p126 : ((c : Int) == 126) = false := by (simp <;> omega)
                  have q45 : ((c : Int) != 45) = true := by (simp <;> omega)
                  have p45 : ((c : Int) == 45) = false := by (simp <;> omega)
                  have q58 : ((c : Int) != 58) = true := by (simp <;> omega)
                  have p58 : ((c : Int) == 58) = false := by (simp <;> omega)
                  have HF : Hid (allB (ofB be5) up = false) := Lib.hid (by rw [← HA.out, HNo.out (by rw [decide_eq_false h43]; rw [decide_eq_false h46]; rw [decide_eq_false h126]; rw [decide_eq_false h45]; rw [decide_eq_false h58]; rfl)])
                  have HVF : Hid (verB s = false) := Lib.hid (by rw [HV.out]; unfold verP; rw [HF.out]; simp)
                  clear HNo HYes h43 h46 h126 h45 h58
                  go_wp2_with (first
                    | (go_at_call 109; refine (HL.out _).mono ?_; rintro e w1 ⟨rfl, rfl⟩)
                    | (go_at_call 93; refine (HD.out _).mono ?_; rintro e w2 ⟨rfl, rfl⟩))
                  refine bodyPost_ret (v := .tuple #[.string ⟨#[]⟩, .string ⟨#[]⟩, .string ⟨#[]⟩, .bool false]) (by simp [results, Tryz.results94, go_sem]) rfl ?_
                  exact ⟨⟨_, _, _, by rw [HVF.out]⟩, HWD.out⟩
            · have HTu : Hid (allB (ofB be5) up = true) := Lib.hid (by rw [← HA.out]; exact allF_end _ _ _ _ hp)
              by_cases hu1 : 1 ≤ up.size
              case neg =>
                have HVF : Hid (verB s = false) := Lib.hid (by rw [HV.out]; unfold verP; rw [decide_eq_false hu1]; simp)
                have hue := str_nil hu1
                have i0 : ((up.size : Int) == 0) = true := by rw [beq_iff_eq]; omega
                go_wp2_with fail
                refine bodyPost_ret (v := .tuple #[.string ⟨#[]⟩, .string ⟨#[]⟩, .string ⟨#[]⟩, .bool false]) (by simp [results, Tryz.results94, go_sem]) rfl ?_
                exact ⟨⟨_, _, _, by rw [HVF.out]⟩, HWD.out⟩
              have i0 : ((up.size : Int) == 0) = false := by rw [beq_eq_false_iff_ne]; omega
              have hu0 : 0 < up.size := hu1
              have hx2 : ((up[0]'hu0).toNat : Nat) = byteAt up 0 := (byteAt_get up 0 hu0).symm
              have hu0i : (0 : Int) < (up.size : Int) := by omega
              have hdg := fun W => digit_any (byteAt up 0) W (byteAt_lt _ _)
              have HVP : Hid (verB s = digB (byteAt up 0)) := Lib.hid (by rw [HV.out]; unfold verP; rw [HEB.out, HTr.out, HTu.out, decide_eq_true hu1]; simp)
              generalize digB (byteAt up 0) = g at *
              have HDG := Lib.hid hdg
              clear hdg
              cases g with
              | true =>
                go_wp2_with (go_at_call 93; refine (HDG.out _).mono ?_; rintro e w2 ⟨rfl, rfl⟩)
                refine bodyPost_ret (v := .tuple #[.string ep, .string up, .string rev, .bool true]) (by simp [results, Tryz.results94, go_sem]) rfl ?_
                exact ⟨⟨_, _, _, by rw [HVP.out]⟩, HWD.out⟩
              | false =>
                go_wp2_with (go_at_call 93; refine (HDG.out _).mono ?_; rintro e w2 ⟨rfl, rfl⟩)
                refine bodyPost_ret (v := .tuple #[.string ⟨#[]⟩, .string ⟨#[]⟩, .string ⟨#[]⟩, .bool false]) (by simp [results, Tryz.results94, go_sem]) rfl ?_
                exact ⟨⟨_, _, _, by rw [HVP.out]⟩, HWD.out⟩
set_option maxRecDepth 100000 in
theorem is_ver_any (s : ByteArray) (w : World) (hs : s.size ≤ 1048576) :
    Calls Tryz.prog 76 #[.string s] w fun e w' => e = .returned (.bool (verB s)) ∧ ∃ m, w' = w.drewN m := by
  have HR := Lib.hid (rversion_any s w hs)
  generalize verB s = b at *
  go_enter Tryz.func76, Tryz.ntmps76
  go_wp2_with (go_at_call 94; refine HR.out.mono ?_; rintro e w2 ⟨⟨x, y, z, rfl⟩, m, rfl⟩)
  go_ret
  exact ⟨rfl, m, rfl⟩
end Go.Proofs.YtjkaigfpjebfbaaGreatDoor
