/- chandlerlaw14: awake; PropNil. -/
import Derived.Test.YtghfelfljblkbaaPop
import Derived.Test.YtghfelfljblkbaaNewT
namespace Go.Proofs.Ytghfelfljblkbaa
open Go.RowKit Go.Sort
set_option linter.unusedVariables false

def wakeL : List (List Int) := [[-1, 2], [-2, 3]]
theorem wake_may1 : mayL 3 [] [-1, 2] = true := by
  unfold mayL offL
  simp [vw_ok (x := -1) ⟨by decide, by decide⟩, vw_ok (x := 2) ⟨by decide, by decide⟩, Cf.va]
theorem wake_may2 : mayL 3 [[-1, 2]] [-2, 3] = true := by
  unfold mayL offL
  simp [vw_ok (x := -2) ⟨by decide, by decide⟩, vw_ok (x := 3) ⟨by decide, by decide⟩, Cf.va]
theorem wake_add1 : addL 3 [] [-1, 2] = [[-1, 2]] := by
  unfold addL
  rw [wake_may1, if_pos rfl, show Cf.tidy [-1, 2] = some [-1, 2] from rfl]; rfl
theorem wake_add2 : addL 3 [[-1, 2]] [-2, 3] = wakeL := by
  unfold addL
  rw [wake_may2, if_pos rfl, show Cf.tidy [-2, 3] = some [-2, 3] from rfl]; rfl
theorem wake_cl : Pr.Cl 3 wakeL := by
  intro c hc y hy
  unfold wakeL at hc
  simp only [List.mem_cons, List.not_mem_nil, or_false] at hc
  rcases hc with rfl | rfl <;> simp only [List.mem_cons, List.not_mem_nil, or_false] at hy <;> rcases hy with rfl | rfl <;> decide
theorem wake_fol0 {R : List Int} (h : Pr.Fol wakeL [] R) : R = [] := Pr.fol_det h (.stop (by decide))
theorem wake_fol1 {R : List Int} (h : Pr.Fol wakeL ([] ++ [1]) R) : R = [1, 2, 3] := Pr.fol_det h (.more (T' := [1, 2, 3]) (by decide) (.stop (by decide)))
theorem wake_mayP : mayP 3 wakeL [] 1 = true := by decide
theorem wake_clash : Pr.clash wakeL [1, 2, 3] = -1 := by decide
theorem wake_vl : vl 3 [1, 2, 3] 3 = 1 := by decide
theorem two_lit (w : World) (a b : Int) (ha : Ok a) (hb : Ok b) : Lits (w.alloc (.cells #[.int .i64 a, .int .i64 b] 37)) (some ⟨w.heap.size, 0, none⟩) 2 [a, b] :=
  ⟨rfl, fun z hz => by
      simp only [List.mem_cons, List.not_mem_nil, or_false] at hz
      rcases hz with rfl | rfl
      · exact ha
      · exact hb, fun _ => ⟨w.heap.size, 0, rfl, (Blk.new _ _ _).lt, fun k hk => by
      rw [Nat.zero_add, (Blk.new w 37 #[.int .i64 a, .int .i64 b]).cell]
      rcases (show k = 0 ∨ k = 1 by omega) with rfl | rfl <;> rfl⟩⟩
set_option maxRecDepth 100000 in
set_option maxHeartbeats 2000000 in
theorem awakeP_any (w : World) : Calls Try.prog 45 #[] w fun e w' => e = .returned (.bool true) ∧ Below w.heap.size w w' := by
  have HN := Lib.hid (New_any 3 w)
  go_enter Try.func45, Try.ntmps45
  go_wp2_with fail
  go_at_call 29
  refine HN.out.mono ?_
  rintro e w1 ⟨s, rfl, hs1, hb1, hp⟩
  have hs1' : SetAt w1 s none 0 3 [] := hs1
  have hb2 : Below w1.heap.size w1 (w1.alloc (.cells #[.int .i64 (-1), .int .i64 2] 37)) := (Below.refl _ _).alloc (Nat.le_refl _) _
  have HA := Add_any s 0 3 none [] (some ⟨w1.heap.size, 0, none⟩) 2 2 [-1, 2] _ (hs1'.below hb2) (two_lit w1 (-1) 2 ⟨by decide, by decide⟩ ⟨by decide, by decide⟩) (by omega)
  rw [wake_may1, wake_add1] at HA
  have HA1 := Lib.hid HA
  have HB1 := Lib.hid (hb1.trans (hb2.mono hb1.size))
  have HP := Lib.hid hp
  clear hs1 hs1' hb1 hb2 hp HA HN
  go_wp2_with fail
  go_at_call 28
  refine HA1.out.mono ?_
  rintro e w3 ⟨rfl, hu3, A3, c3, hs3, hf3⟩
  have hF3 : ∀ k, sF s A3 k → w.heap.size ≤ k := fun k hk => by
    rcases hf3 k hk with (rfl | h) | h
    · exact HP.out
    · cases h
    · exact Nat.le_trans HB1.out.size h
  have hb3 : Below w.heap.size w w3 := HB1.out.trans (hu3.below (fun k hk => by
    rcases hk with rfl | hk
    · exact HP.out
    · cases hk) HB1.out.size)
  have hb4 : Below w3.heap.size w3 (w3.alloc (.cells #[.int .i64 (-2), .int .i64 3] 37)) := (Below.refl _ _).alloc (Nat.le_refl _) _
  have HA := Add_any s c3 3 A3 [[-1, 2]] (some ⟨w3.heap.size, 0, none⟩) 2 2 [-2, 3] _ (hs3.below hb4) (two_lit w3 (-2) 3 ⟨by decide, by decide⟩ ⟨by decide, by decide⟩) (by omega)
  rw [wake_may2, wake_add2] at HA
  have HA2 := Lib.hid HA
  have HB4 := Lib.hid (hb3.trans (hb4.mono hb3.size))
  have HF3 := Lib.hid hF3
  clear hu3 hs3 hf3 hF3 hb3 hb4 HA HA1
  go_wp2_with fail
  go_at_call 28
  refine HA2.out.mono ?_
  rintro e w5 ⟨rfl, hu5, A5, c5, hs5, _⟩
  have HB5 := Lib.hid (HB4.out.trans (hu5.below (fun k hk => HF3.out k hk) HB4.out.size))
  have HNT := Lib.hid (NewT_any s c5 3 A5 wakeL w5 hs5 (fun r hr => by
    unfold wakeL at hr
    simp only [List.mem_cons, List.not_mem_nil, or_false] at hr
    rcases hr with rfl | rfl <;> decide) wake_cl)
  clear hu5 hs5 HA2
  go_wp2_with fail
  go_at_call 40
  refine HNT.out.mono ?_
  rintro e w6 ⟨p, gv, Al, cl, At, ct, K, R, rfl, htr, hf, hb6, hlo⟩
  obtain rfl := wake_fol0 hf
  have HB6 := Lib.hid (HB5.out.trans (hb6.mono HB5.out.size))
  have HLO : Hid (∀ i, tF p gv At none i → w.heap.size ≤ i) := Lib.hid (fun i hi => Nat.le_trans HB5.out.size (hlo i (.inl hi)))
  have HPU := Lib.hid (Push_yes p gv cl ct 0 3 Al At none K wakeL [] [] 1 w6 htr wake_mayP (by simp))
  clear hf htr hb6 hlo HNT
  go_wp2_with fail
  go_at_call 41
  refine HPU.out.mono ?_
  rintro e w7 ⟨rfl, R, At7, ct7, Am7, cm7, hf, hr7⟩
  obtain rfl := wake_fol1 hf
  have HB7 := Lib.hid (HB6.out.trans (hr7.upd.below (fun i hi => HLO.out i hi) HB6.out.size))
  have htr := hr7.tr
  have HLT := Lib.hid (TLits_any p gv cl ct7 cm7 3 Al At7 Am7 K wakeL [1, 2, 3] _ w7 htr)
  have HTR := Lib.hid htr
  clear hf hr7 htr HPU
  go_wp2_with fail
  go_at_call 42
  refine HLT.out.mono ?_
  rintro e w8 ⟨v8, rfl, ho8, hb8⟩
  obtain ⟨A8, c8, rfl⟩ := ownL_shape ho8
  have htr8 := HTR.out.below hb8
  have HB8 := Lib.hid (HB7.out.trans (hb8.mono HB7.out.size))
  have HVL := Value_any p gv cl ct7 cm7 3 Al At7 Am7 K wakeL [1, 2, 3] _ 3 w8 htr8
  rw [wake_vl] at HVL
  have HCL := Clash_any p gv cl ct7 cm7 3 Al At7 Am7 K wakeL [1, 2, 3] _ w8 htr8
  rw [wake_clash] at HCL
  have HVL' := Lib.hid HVL
  have HCL' := Lib.hid HCL
  clear ho8 hb8 htr8 HVL HCL HLT HTR
  rw [show ([1, 2, 3] : List Int).length = 3 from rfl]
  go_wp2_with (first
    | (go_at_call 51; refine HVL'.out.mono ?_; rintro e w9 ⟨rfl, rfl⟩)
    | (go_at_call 43; refine HCL'.out.mono ?_; rintro e w10 ⟨rfl, hb10⟩))
  go_ret
  exact ⟨rfl, HB8.out.trans (hb10.mono HB8.out.size)⟩
set_option maxRecDepth 100000 in
theorem Push_nil (v : Value) (w : World) : Calls Try.prog 41 #[.pointer none, v] w fun e w' => e = .returned (.bool false) ∧ w = w' := by
  go_enter Try.func41, Try.ntmps41
  go_wp2_with fail
  go_ret
  exact ⟨rfl, rfl⟩
set_option maxRecDepth 100000 in
theorem Levels_nil (w : World) : Calls Try.prog 52 #[.pointer none] w fun e w' => e = .returned (.int .i64 0) ∧ w = w' := by
  go_enter Try.func52, Try.ntmps52
  go_wp2_with fail
  go_ret
  exact ⟨rfl, rfl⟩
set_option maxRecDepth 100000 in
theorem Pop_nil (w : World) : Calls Try.prog 48 #[.pointer none] w fun e w' => e = .returned (.bool false) ∧ w = w' := by
  go_enter Try.func48, Try.ntmps48
  go_wp2_with (go_at_call 52; refine (Levels_nil w).mono ?_; rintro e w1 ⟨rfl, rfl⟩)
  go_ret
  exact ⟨rfl, rfl⟩
set_option maxRecDepth 100000 in
theorem Value_nil (v : Value) (w : World) : Calls Try.prog 51 #[.pointer none, v] w fun e w' => e = .returned (.int .i64 0) ∧ w = w' := by
  go_enter Try.func51, Try.ntmps51
  go_wp2_with fail
  go_ret
  exact ⟨rfl, rfl⟩
set_option maxRecDepth 100000 in
theorem TLits_nil (w : World) : Calls Try.prog 42 #[.pointer none] w fun e w' => e = .returned (.slice none 0 0) ∧ w = w' := by
  go_enter Try.func42, Try.ntmps42
  go_wp2_with fail
  go_ret
  exact ⟨rfl, rfl⟩
set_option maxRecDepth 100000 in
theorem Clash_nil (w : World) : Calls Try.prog 43 #[.pointer none] w fun e w' => e = .returned (.int .i64 (-1)) ∧ Below w.heap.size w w' := by
  go_enter Try.func43, Try.ntmps43
  go_wp2_with fail
  go_ret
  exact ⟨rfl, (Below.refl _ _).alloc (Nat.le_refl _) _⟩
set_option maxRecDepth 100000 in
theorem propNil_any (v0 : Value) (w : World) : Calls Try.prog 12 #[v0] w fun e w' => e = .returned (.bool true) ∧ Below w.heap.size w w' := by
  go_enter Try.func12, Try.ntmps12
  go_wp2_with (first
    | (go_at_call 41; refine (Push_nil v0 _).mono ?_; rintro e w1 ⟨rfl, rfl⟩)
    | (go_at_call 48; refine (Pop_nil _).mono ?_; rintro e w1 ⟨rfl, rfl⟩)
    | (go_at_call 51; refine (Value_nil _ _).mono ?_; rintro e w1 ⟨rfl, rfl⟩)
    | (go_at_call 42; refine (TLits_nil _).mono ?_; rintro e w2 ⟨rfl, rfl⟩)
    | (go_at_call 52; refine (Levels_nil _).mono ?_; rintro e w2 ⟨rfl, rfl⟩)
    | (go_at_call 43; refine (Clash_nil w).mono ?_; rintro e w4 ⟨rfl, hb4⟩)
    | (go_at_call 45; refine (awakeP_any w4).mono ?_; rintro e w6 ⟨rfl, hb6⟩))
  go_ret
  exact ⟨rfl, hb4.trans (hb6.mono hb4.size)⟩
open Go.ChangeShapes Go.WideShapes Go.ChangeAt in
set_option maxRecDepth 100000 in
theorem propNil_walk {H : Type} {enc : TypeId × Value → H} (W : World) {base : Nat} (v0 : Value) {d0 : DataW H} {p0 : List MemPlace} (h0 : DataW.Trod enc Try.prog W 0 (fun _ => true) true 37 v0 d0 p0) (o0 : Value.okWide Try.prog W .any base 37 v0) :
    Calls Try.prog 12 #[v0] W fun e w' => e = .returned (.bool true) ∧ Below W.heap.size W w' := propNil_any v0 W
end Go.Proofs.Ytghfelfljblkbaa
