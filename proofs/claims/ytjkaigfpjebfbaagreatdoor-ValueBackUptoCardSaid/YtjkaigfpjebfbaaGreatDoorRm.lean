/- MayAtom, both. -/
import Derived.Test.YtjkaigfpjebfbaaGreatDoorRv6
namespace Go.Proofs.YtjkaigfpjebfbaaGreatDoor
open Go.RowKit
set_option linter.unusedVariables false

/-- An atom's value. -/
def atV (n : ByteArray) (r : Int) (v : ByteArray) : Value := .agg #[.string n, .int .i64 r, .string v]
/-- May an atom be? -/
def mayB (n : ByteArray) (r : Int) (v : ByteArray) : Bool := nameB n && decide (0 ≤ r) && decide (r ≤ 5) && (if r = 0 then decide (v.size = 0) else verB v)
set_option maxRecDepth 100000 in
set_option maxHeartbeats 4000000 in
theorem may_any (n : ByteArray) (r : Int) (v : ByteArray) (w : World) (hn : n.size ≤ 1048576) (hv : v.size ≤ 1048576) :
    Calls Tryz.prog 51 #[atV n r v] w fun e w' => e = .returned (.bool (mayB n r v)) ∧ Below w.heap.size w w' := by
  have HNM := Lib.hid (fun W => Name_any n W (by omega))
  have HVP := Lib.hid (fun W => vparse_any v W hv)
  have HM : Hid (mayB n r v = (nameB n && decide (0 ≤ r) && decide (r ≤ 5) && (if r = 0 then decide (v.size = 0) else verB v))) := Lib.hid rfl
  generalize nameB n = b at *
  generalize verB v = d at *
  have hb0 : Below w.heap.size w (w.alloc (.cells #[.string n, .int .i64 r, .string v] 87)) := (Below.refl _ _).alloc (Nat.le_refl _) _
  have hlt : w.heap.size < (w.alloc (.cells #[.string n, .int .i64 r, .string v] 87)).heap.size := by simp
  have hbk := Blk.new w 87 #[.string n, .int .i64 r, .string v]
  have HB0 := Lib.hid hb0
  have HLT := Lib.hid hlt
  have HBK := Lib.hid hbk
  clear hb0 hlt hbk
  unfold atV
  go_enter Tryz.func51, Tryz.ntmps51
  go_wp2_with fail
  go_at_call 38
  refine (HNM.out _).mono ?_
  rintro e w2 ⟨rfl, hb2⟩
  have hbk2 := HBK.out.below hb2 HLT.out
  have k1 : w2.cell? ⟨w.heap.size, 1, none⟩ = some (.int .i64 r) := hbk2.cell 1
  have k2 : w2.cell? ⟨w.heap.size, 2, none⟩ = some (.string v) := hbk2.cell 2
  have HB2 := Lib.hid (HB0.out.trans (hb2.mono HB0.out.size))
  clear hb2 hbk2
  cases b with
  | false =>
    have HF : Hid (mayB n r v = false) := Lib.hid (by rw [HM.out]; rfl)
    go_wp2_with fail
    go_ret
    exact ⟨ret_bool HF.out.symm, HB2.out⟩
  | true =>
    by_cases h0 : 0 ≤ r
    case neg =>
      have HF : Hid (mayB n r v = false) := Lib.hid (by rw [HM.out, decide_eq_false h0]; rfl)
      have r0 : r < 0 := by omega
      clear h0
      go_wp2_with fail
      go_ret
      exact ⟨ret_bool HF.out.symm, HB2.out⟩
    by_cases h5 : r ≤ 5
    case neg =>
      have HF : Hid (mayB n r v = false) := Lib.hid (by rw [HM.out, decide_eq_false h5]; simp)
      have r0 : ¬ r < 0 := by omega
      have r5 : 5 < r := by omega
      clear h0 h5
      go_wp2_with fail
      go_ret
      exact ⟨ret_bool HF.out.symm, HB2.out⟩
    have r0 : ¬ r < 0 := by omega
    have r5 : ¬ 5 < r := by omega
    by_cases hz : r = 0
    · have HM2 : Hid (mayB n r v = decide (v.size = 0)) := Lib.hid (by rw [HM.out, decide_eq_true h0, decide_eq_true h5, if_pos hz]; rfl)
      have q : (r == 0) = true := by rw [beq_iff_eq]; exact hz
      have q2 : decide (r = 0) = true := decide_eq_true hz
      clear hz h0 h5
      by_cases h1 : 1 ≤ v.size
      · have n0 := str_ne h1
        have HF : Hid (mayB n r v = false) := Lib.hid (by rw [HM2.out, decide_eq_false (by omega)])
        go_wp2_with fail
        go_ret
        exact ⟨ret_bool HF.out.symm, HB2.out⟩
      · have hv0 := str_nil h1
        have HF : Hid (mayB n r v = true) := Lib.hid (by rw [HM2.out, decide_eq_true (by omega)])
        have n0 : v.toList.isEmpty = true := by rw [hv0, ByteArray.toList_eq]; rfl
        clear hv0 h1
        go_wp2_with fail
        go_ret
        exact ⟨ret_bool HF.out.symm, HB2.out⟩
    · have HM2 : Hid (mayB n r v = d) := Lib.hid (by rw [HM.out, decide_eq_true h0, decide_eq_true h5, if_neg hz]; rfl)
      have q : (r == 0) = false := by rw [beq_eq_false_iff_ne]; exact hz
      clear hz h0 h5
      cases d with
      | true =>
        go_wp2_with (go_at_call 39; refine (HVP.out _).mono ?_; rintro e w3 ⟨⟨x, y, z, rfl⟩, hb3⟩)
        go_ret
        exact ⟨ret_bool HM2.out.symm, HB2.out.trans (hb3.mono HB2.out.size)⟩
      | false =>
        go_wp2_with (go_at_call 39; refine (HVP.out _).mono ?_; rintro e w3 ⟨⟨x, y, z, rfl⟩, hb3⟩)
        go_ret
        exact ⟨ret_bool HM2.out.symm, HB2.out.trans (hb3.mono HB2.out.size)⟩
set_option maxRecDepth 100000 in
set_option maxHeartbeats 4000000 in
theorem rmay_any (n : ByteArray) (r : Int) (v : ByteArray) (w : World) (hn : n.size ≤ 1048576) (hv : v.size ≤ 1048576) :
    Calls Tryz.prog 54 #[atV n r v] w fun e w' => e = .returned (.bool (mayB n r v)) ∧ Below w.heap.size w w' := by
  have HNM : Hid (∀ W, Calls Tryz.prog 74 #[.string n] W fun e w' => e = .returned (.bool (nameB n)) ∧ Below W.heap.size W w') := Lib.hid (fun W => (RefName_any n W (by omega)).mono fun e w' ⟨he, hw⟩ => ⟨he, by rw [← hw]; exact Below.refl _ _⟩)
  have HVP : Hid (∀ W, Calls Tryz.prog 76 #[.string v] W fun e w' => e = .returned (.bool (verB v)) ∧ Below W.heap.size W w') := Lib.hid (fun W => (is_ver_any v W hv).mono fun e w' ⟨he, m, hm⟩ => ⟨he, by rw [hm]; exact ⟨rfl, rfl, rfl, Nat.le_refl _, fun _ _ => rfl⟩⟩)
  have HSG := Lib.hid (fun W => RSign_any r W)
  have HM : Hid (mayB n r v = (nameB n && decide (0 ≤ r) && decide (r ≤ 5) && (if r = 0 then decide (v.size = 0) else verB v))) := Lib.hid rfl
  generalize nameB n = b at *
  generalize verB v = d at *
  have hb0 : Below w.heap.size w (w.alloc (.cells #[.string n, .int .i64 r, .string v] 87)) := (Below.refl _ _).alloc (Nat.le_refl _) _
  have hlt : w.heap.size < (w.alloc (.cells #[.string n, .int .i64 r, .string v] 87)).heap.size := by simp
  have hbk := Blk.new w 87 #[.string n, .int .i64 r, .string v]
  have HB0 := Lib.hid hb0
  have HLT := Lib.hid hlt
  have HBK := Lib.hid hbk
  clear hb0 hlt hbk
  unfold atV
  go_enter Tryz.func54, Tryz.ntmps54
  go_wp2_with fail
  go_at_call 74
  refine (HNM.out _).mono ?_
  rintro e w2 ⟨rfl, hb2⟩
  have hbk2 := HBK.out.below hb2 HLT.out
  have k1 : w2.cell? ⟨w.heap.size, 1, none⟩ = some (.int .i64 r) := hbk2.cell 1
  have k2 : w2.cell? ⟨w.heap.size, 2, none⟩ = some (.string v) := hbk2.cell 2
  have HB2 := Lib.hid (HB0.out.trans (hb2.mono HB0.out.size))
  clear hb2 hbk2
  cases b with
  | false =>
    have HF : Hid (mayB n r v = false) := Lib.hid (by rw [HM.out]; rfl)
    go_wp2_with fail
    go_ret
    exact ⟨ret_bool HF.out.symm, HB2.out⟩
  | true =>
    by_cases hz : r = 0
    · have HM2 : Hid (mayB n r v = decide (v.size = 0)) := Lib.hid (by rw [HM.out, decide_eq_true (show 0 ≤ r by omega), decide_eq_true (show r ≤ 5 by omega), if_pos hz]; rfl)
      have q : (r == 0) = true := by rw [beq_iff_eq]; exact hz
      clear hz
      by_cases h1 : 1 ≤ v.size
      · have n0 := str_ne h1
        have HF : Hid (mayB n r v = false) := Lib.hid (by rw [HM2.out, decide_eq_false (by omega)])
        go_wp2_with fail
        go_ret
        exact ⟨ret_bool HF.out.symm, HB2.out⟩
      · have hv0 := str_nil h1
        have HF : Hid (mayB n r v = true) := Lib.hid (by rw [HM2.out, decide_eq_true (by omega)])
        have n0 : v.toList.isEmpty = true := by rw [hv0, ByteArray.toList_eq]; rfl
        clear hv0 h1
        go_wp2_with fail
        go_ret
        exact ⟨ret_bool HF.out.symm, HB2.out⟩
    · have q : (r == 0) = false := by rw [beq_eq_false_iff_ne]; exact hz
      obtain ⟨t, ht⟩ : ∃ t, t = sgnB r := ⟨_, rfl⟩
      rw [← ht] at HSG
      by_cases h15 : 1 ≤ r ∧ r ≤ 5
      · have HM2 : Hid (mayB n r v = d) := Lib.hid (by rw [HM.out, decide_eq_true (show 0 ≤ r by omega), decide_eq_true h15.2, if_neg hz]; rfl)
        have n0 : t.toList.isEmpty = false := str_ne (by
          rw [ht]
          have : r = 1 ∨ r = 2 ∨ r = 3 ∨ r = 4 ∨ r = 5 := by omega
          rcases this with rfl | rfl | rfl | rfl | rfl <;> decide)
        clear hz h15 ht
        cases d with
        | true =>
          go_wp2_with (first
            | (go_at_call 75; refine (HSG.out _).mono ?_; rintro e w3 ⟨rfl, rfl⟩)
            | (go_at_call 76; refine (HVP.out _).mono ?_; rintro e w3 ⟨rfl, hb3⟩))
          go_ret
          exact ⟨ret_bool HM2.out.symm, HB2.out.trans (hb3.mono HB2.out.size)⟩
        | false =>
          go_wp2_with (first
            | (go_at_call 75; refine (HSG.out _).mono ?_; rintro e w3 ⟨rfl, rfl⟩)
            | (go_at_call 76; refine (HVP.out _).mono ?_; rintro e w3 ⟨rfl, hb3⟩))
          go_ret
          exact ⟨ret_bool HM2.out.symm, HB2.out.trans (hb3.mono HB2.out.size)⟩
      · have HF : Hid (mayB n r v = false) := Lib.hid (by
          rw [HM.out]
          by_cases h9 : 0 ≤ r
          · rw [decide_eq_false (show ¬ r ≤ 5 by omega)]; simp
          · rw [decide_eq_false h9]; rfl)
        have n0 : t.toList.isEmpty = true := by
          rw [ht]
          have e : sgnB r = ⟨#[]⟩ := by unfold sgnB; rw [if_neg (by omega), if_neg (by omega), if_neg (by omega), if_neg (by omega), if_neg (by omega)]
          rw [e, ByteArray.toList_eq]; rfl
        clear hz h15 ht
        go_wp2_with (go_at_call 75; refine (HSG.out _).mono ?_; rintro e w3 ⟨rfl, rfl⟩)
        go_ret
        exact ⟨ret_bool HF.out.symm, HB2.out⟩
end Go.Proofs.YtjkaigfpjebfbaaGreatDoor
