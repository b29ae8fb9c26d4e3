/- cnf: awake; the reference's SameLits. -/
import Derived.Test.YtghfelfljblkbaaHolds
import Derived.Deep.DrawnRows
namespace Go.Proofs.Ytghfelfljblkbaa
open Go.RowKit Go.Sort
set_option linter.unusedVariables false

theorem awake_tidy : Cf.tidy [3, -1, 3] = some [-1, 3] := by rfl
theorem awake_tidy2 : Cf.tidy [-1, 3] = some [-1, 3] := by rfl
theorem vw_m1 : vw (-1) = 1 := vw_ok ⟨by decide, by decide⟩
theorem vw_3 : vw 3 = 3 := vw_ok ⟨by decide, by decide⟩
theorem awake_may : mayL 3 [] [-1, 3] = true := by
  unfold mayL offL
  simp [vw_m1, vw_3]
theorem awake_add : addL 3 [] [-1, 3] = [[-1, 3]] := by
  unfold addL
  rw [awake_may, if_pos rfl, awake_tidy2]; rfl
theorem awake_holds : holdsL [] [[-1, 3]] = true := by
  have h := atw_range (-1)
  have e : hv [] (-1) = true := by
    unfold hv
    have : decide (atw (-1) < (([] : List Bool).length : Int)) = false := decide_eq_false (by simp; omega)
    rw [this]; rfl
  unfold holdsL
  simp [e]
set_option maxRecDepth 100000 in
set_option maxHeartbeats 1000000 in
theorem awake_any (w : World) : Calls Try.prog 22 #[] w fun e w' => e = .returned (.bool true) ∧ Below w.heap.size w w' := by
  obtain ⟨W1, hW1⟩ : ∃ W1, W1 = w.alloc (.cells #[.int .i64 3, .int .i64 (-1), .int .i64 3] 37) := ⟨_, rfl⟩
  have hb1 : Below w.heap.size w W1 := by rw [hW1]; exact (Below.refl _ _).alloc (Nat.le_refl _) _
  have hbk : Blk W1 w.heap.size 37 #[.int .i64 3, .int .i64 (-1), .int .i64 3] := by rw [hW1]; exact Blk.new _ _ _
  have hl : Lits W1 (some ⟨w.heap.size, 0, none⟩) 3 [3, -1, 3] := ⟨rfl, fun z hz => by
      simp only [List.mem_cons, List.not_mem_nil, or_false] at hz
      rcases hz with rfl | rfl | rfl <;> exact ⟨by decide, by decide⟩, fun _ => ⟨w.heap.size, 0, rfl, hbk.lt, fun k hk => by
      rw [Nat.zero_add, hbk.cell]
      rcases (show k = 0 ∨ k = 1 ∨ k = 2 by omega) with rfl | rfl | rfl <;> rfl⟩⟩
  have HT := Lib.hid (Tidy_any _ 3 3 [3, -1, 3] W1 hl (by omega))
  rw [awake_tidy] at HT
  have HB1 := Lib.hid hb1
  clear hbk hl hb1
  subst hW1
  go_enter Try.func22, Try.ntmps22
  go_wp2_with fail
  go_at_call 23
  refine HT.out.mono ?_
  rintro e w2 ⟨hb2, v2, rfl, ho2⟩
  have hok : ∀ z ∈ ([-1, 3] : List Int), Ok z := fun z hz => by
    simp only [List.mem_cons, List.not_mem_nil, or_false] at hz
    rcases hz with rfl | rfl <;> exact ⟨by decide, by decide⟩
  obtain ⟨A2, c2, rfl, hl2, _⟩ := ho2.lits hok
  have HB2 := Lib.hid (HB1.out.trans (hb2.mono HB1.out.size))
  have HL2 := Lib.hid hl2
  have HN := Lib.hid (New_any 3 w2)
  clear hb2 ho2 hl2 HT hok
  rw [show ([-1, 3] : List Int).length = 2 from rfl] at HL2 ⊢
  go_wp2_with fail
  go_at_call 29
  refine HN.out.mono ?_
  rintro e w3 ⟨p, rfl, hs3, hb3, hp⟩
  have hs3' : SetAt w3 p none 0 3 [] := hs3
  have HB3 := Lib.hid (HB2.out.trans (hb3.mono HB2.out.size))
  have hl3 := HL2.out.below hb3
  obtain ⟨g, o, rfl, hg, hc⟩ := hl3.2.2 (by omega)
  have k0 : w3.cell? ⟨g, o, none⟩ = some (.int .i64 (-1)) := hc 0 (by omega)
  have k1 : w3.cell? ⟨g, o + 1, none⟩ = some (.int .i64 3) := hc 1 (by omega)
  have HA := Lib.hid (Add_any p 0 3 none [] (some ⟨g, o, none⟩) 2 c2 [-1, 3] w3 hs3' hl3 (by omega))
  rw [awake_may, awake_add] at HA
  have HP := Lib.hid (Nat.le_trans HB2.out.size hp)
  clear hs3 hs3' hb3 hl3 hc hg HN HL2 hp
  go_wp2_with fail
  go_at_call 28
  refine HA.out.mono ?_
  rintro e w4 ⟨rfl, hu4, A4, c4, hs4, _⟩
  have HB4 : Hid (Below w.heap.size w w4) := Lib.hid (HB3.out.trans (hu4.below (fun k hk => by
    rcases hk with rfl | hk
    · exact HP.out
    · cases hk) HB3.out.size))
  have HH := Lib.hid (Holds_any p c4 3 A4 [[-1, 3]] none 0 0 [] w4 hs4 (fun r hr => by simp at hr; subst hr; simp) (Bools.nil _ _) (by omega))
  rw [awake_holds] at HH
  have HS4 := Lib.hid hs4
  clear hs4 hu4 HA k0 k1
  go_wp2_with (first
    | (go_at_call 27; refine HH.out.mono ?_; rintro e w5 ⟨rfl, hb5⟩)
    | (go_at_call 32; refine (Len_any p c4 3 A4 [[-1, 3]] w5 (HS4.out.below hb5)).mono ?_; rintro e w6 ⟨rfl, rfl⟩))
  go_ret
  exact ⟨rfl, HB4.out.trans (hb5.mono HB4.out.size)⟩
end Go.Proofs.Ytghfelfljblkbaa
