/- chandlerlaw15: few, awake; the reference's SameBools. -/
import Derived.Test.YtghfelfljblkbaaSolve
import Derived.Test.YtghfelfljblkbaaFirst
import Derived.Test.YtghfelfljblkbaaBothP
import Derived.Test.YtghfelfljblkbaaSameB
namespace Go.Proofs.Ytghfelfljblkbaa
open Go.RowKit Go.Sort
set_option linter.unusedVariables false

theorem take_lits {w : World} {A : Option Addr} {n : Nat} {zs : List Int} (h : Lits w A n zs) (c : Nat) (hc : c ≤ n) : Lits w A c (zs.take c) := by
  refine ⟨by rw [List.length_take, h.1]; omega, fun z hz => h.2.1 z (List.mem_of_mem_take hz), fun h0 => ?_⟩
  obtain ⟨b, o, e, hb, hk⟩ := h.2.2 (by omega)
  refine ⟨b, o, e, hb, fun k hkc => ?_⟩
  rw [hk k (by omega)]
  simp only [List.getD_eq_getElem?_getD, List.getElem?_take, if_pos hkc]
set_option maxRecDepth 100000 in
theorem few_any (A : Option Addr) (n c : Nat) (zs : List Int) (w : World) (h : Lits w A n zs) (hnc : n ≤ c) :
    Calls Try.prog 54 #[.slice A n c] w fun e w' => w = w' ∧ ∃ m d, e = .returned (.slice A m d) ∧ m ≤ 12 ∧ Lits w A m (zs.take m) := by
  have HT := Lib.hid (fun m (hm : m ≤ n) => take_lits h m hm)
  obtain ⟨bl, hbl⟩ : ∃ bl, bl = A := ⟨_, rfl⟩
  by_cases h12 : n ≤ 12
  · have hm : min (n : Int) 12 = (n : Int) := by omega
    have h1 : (n : Int) ≤ 12 := by omega
    clear h
    go_enter Try.func54, Try.ntmps54
    go_wp2_with fail
    go_ret
    exact ⟨rfl, n, _, rfl, h12, HT.out _ (Nat.le_refl _)⟩
  · have hm : min (n : Int) 12 = 12 := by omega
    have h1 : ¬ (n : Int) ≤ 12 := by omega
    clear h
    go_enter Try.func54, Try.ntmps54
    go_wp2_with fail
    go_ret
    exact ⟨rfl, 12, ⟨c, rfl⟩, Nat.le_refl _, HT.out 12 (by omega)⟩
/-- A result of Solve and of First, laid alike. -/
theorem sol_out {w' : World} {n : Nat} {e : Ending} {r : Option (List Bool)} (h : SolOk w' n e r) : ∃ A m c, e = .returned (.tuple #[.slice A m c, .bool r.isSome, .int .i64 0]) ∧ m ≤ n ∧ Bools w' A m (r.getD []) := by
  cases r with
  | none => exact ⟨none, 0, 0, h, Nat.zero_le _, Bools.nil _ _⟩
  | some bs =>
    obtain ⟨g, he, hb⟩ := h
    exact ⟨_, n, n, he, Nat.le_refl _, hb⟩
theorem first_out {w w' : World} {n : Nat} {e : Ending} {r : Option (List Bool)} (h : FirstRes w w' n e r) : ∃ A m c, e = .returned (.tuple #[.slice A m c, .bool r.isSome]) ∧ m ≤ n ∧ Bools w' A m (r.getD []) := by
  cases r with
  | none => exact ⟨none, 0, 0, h, Nat.zero_le _, Bools.nil _ _⟩
  | some bs =>
    obtain ⟨g, he, hb, _⟩ := h
    exact ⟨_, n, n, he, Nat.le_refl _, hb⟩
/-- Solve without a budget. -/
theorem Solve0_any (sp cap n : Nat) (A : Option Addr) (L : List (List Int)) (C : Option Addr) (lc cc : Nat) (cs : List Int) (w : World) (h : SetAt w sp A cap n L) (hsh : ∀ r ∈ L, r.length ≤ 1048576) (hL : Pr.Cl n L) (hc : Lits w C lc cs) (hlc : lc ≤ 100000) (hn : n ≤ 30) :
    Calls Try.prog 55 #[.pointer (some ⟨sp, 0, none⟩), .slice C lc cc, .int .i64 0] w fun e w' => ∃ r A m c, e = .returned (.tuple #[.slice A m c, .bool r.isSome, .int .i64 0]) ∧ FirstIs n L cs r ∧ m ≤ n ∧ Bools w' A m (r.getD []) ∧ Below w.heap.size w w' := by
  refine (Solve_any sp cap n A L C lc cc cs 0 ⟨by decide, by decide⟩ w h hsh hL hc hlc hn).mono fun e w' ⟨r, f, h1, h2, h3⟩ => ?_
  rcases h3 with ⟨_, h3⟩ | ⟨h3, _⟩
  · obtain ⟨A, m, c, he, hm, hb⟩ := sol_out h3
    exact ⟨r, A, m, c, he, (Sr.solve_first h1 (by omega) hL hc.2.1).1, hm, hb, h2⟩
  · omega
def wakeS : List (List Int) := [[1, 2], [-1, -2]]
theorem wakeS_may1 : mayL 2 [] [1, 2] = true := by
  unfold mayL offL
  simp [vw_ok (x := 1) ⟨by decide, by decide⟩, vw_ok (x := 2) ⟨by decide, by decide⟩, Cf.va]
theorem wakeS_may2 : mayL 2 [[1, 2]] [-1, -2] = true := by
  unfold mayL offL
  simp [vw_ok (x := -1) ⟨by decide, by decide⟩, vw_ok (x := -2) ⟨by decide, by decide⟩, Cf.va]
theorem wakeS_add1 : addL 2 [] [1, 2] = [[1, 2]] := by
  unfold addL
  rw [wakeS_may1, if_pos rfl, show Cf.tidy [1, 2] = some [1, 2] from rfl]; rfl
theorem wakeS_add2 : addL 2 [[1, 2]] [-1, -2] = wakeS := by
  unfold addL
  rw [wakeS_may2, if_pos rfl, show Cf.tidy [-1, -2] = some [-1, -2] from rfl]; rfl
theorem wakeS_cl : Pr.Cl 2 wakeS := by
  intro c hc y hy
  unfold wakeS at hc
  simp only [List.mem_cons, List.not_mem_nil, or_false] at hc
  rcases hc with rfl | rfl <;> simp only [List.mem_cons, List.not_mem_nil, or_false] at hy <;> rcases hy with rfl | rfl <;> decide
theorem wakeS_first {r : Option (List Bool)} (h : FirstIs 2 wakeS [] r) : r = some [false, true] :=
  Sr.first_det h ⟨rfl, 1, by decide, by decide, by decide, fun j hj => by
    obtain rfl : j = 0 := by omega
    decide⟩
set_option maxRecDepth 100000 in
set_option maxHeartbeats 2000000 in
theorem awakeS_any (w : World) : Calls Try.prog 57 #[] w fun e w' => e = .returned (.bool true) ∧ Below w.heap.size w w' := by
  have HN := Lib.hid (New_any 2 w)
  go_enter Try.func57, Try.ntmps57
  go_wp2_with fail
  go_at_call 29
  refine HN.out.mono ?_
  rintro e w1 ⟨s, rfl, hs1, hb1, hp⟩
  have hs1' : SetAt w1 s none 0 2 [] := hs1
  have hb2 : Below w1.heap.size w1 (w1.alloc (.cells #[.int .i64 1, .int .i64 2] 37)) := (Below.refl _ _).alloc (Nat.le_refl _) _
  have HA := Add_any s 0 2 none [] (some ⟨w1.heap.size, 0, none⟩) 2 2 [1, 2] _ (hs1'.below hb2) (two_lits w1 1 2 ⟨by decide, by decide⟩ ⟨by decide, by decide⟩) (by omega)
  rw [wakeS_may1, wakeS_add1] at HA
  have HA1 := Lib.hid HA
  have HB1 := Lib.hid (hb1.trans (hb2.mono hb1.size))
  have HP := Lib.hid hp
  clear hs1 hs1' hb1 hb2 hp HA HN
  go_wp2_with fail
  go_at_call 28
  refine HA1.out.mono ?_
  rintro e w3 ⟨rfl, hu3, A3, c3, hs3, hf3⟩
  have hF3 : ∀ k, sF s A3 k → w.heap.size ≤ k := fun k hk => by
    rcases hf3 k hk with (rfl | h) | h
    · exact HP.out
    · cases h
    · exact Nat.le_trans HB1.out.size h
  have hb3 : Below w.heap.size w w3 := HB1.out.trans (hu3.below (fun k hk => by
    rcases hk with rfl | hk
    · exact HP.out
    · cases hk) HB1.out.size)
  have hb4 : Below w3.heap.size w3 (w3.alloc (.cells #[.int .i64 (-1), .int .i64 (-2)] 37)) := (Below.refl _ _).alloc (Nat.le_refl _) _
  have HA := Add_any s c3 2 A3 [[1, 2]] (some ⟨w3.heap.size, 0, none⟩) 2 2 [-1, -2] _ (hs3.below hb4) (two_lits w3 (-1) (-2) ⟨by decide, by decide⟩ ⟨by decide, by decide⟩) (by omega)
  rw [wakeS_may2, wakeS_add2] at HA
  have HA2 := Lib.hid HA
  have HB4 := Lib.hid (hb3.trans (hb4.mono hb3.size))
  have HF3 := Lib.hid hF3
  clear hu3 hs3 hf3 hF3 hb3 hb4 HA HA1
  go_wp2_with fail
  go_at_call 28
  refine HA2.out.mono ?_
  rintro e w5 ⟨rfl, hu5, A5, c5, hs5, _⟩
  have HB5 := Lib.hid (HB4.out.trans (hu5.below (fun k hk => HF3.out k hk) HB4.out.size))
  have HSV := Lib.hid (Solve0_any s c5 2 A5 wakeS none 0 0 [] w5 hs5 (fun r hr => by
    unfold wakeS at hr
    simp only [List.mem_cons, List.not_mem_nil, or_false] at hr
    rcases hr with rfl | rfl <;> decide) wakeS_cl (Lits.nil _ _) (by omega) (by omega))
  clear hu5 hs5 HA2
  go_wp2_with fail
  go_at_call 55
  refine HSV.out.mono ?_
  rintro e w6 ⟨r, A6, m6, c6, rfl, hf, hm, hbs, hb6⟩
  obtain rfl := wakeS_first hf
  obtain rfl : m6 = 2 := hbs.1.symm
  obtain ⟨b, o, rfl, _, hk⟩ := hbs.2 (by omega)
  have k0 : w6.cell? ⟨b, o, none⟩ = some (.bool false) := hk 0 (by omega)
  have k1 : w6.cell? ⟨b, o + 1, none⟩ = some (.bool true) := hk 1 (by omega)
  have HB6 := Lib.hid (HB5.out.trans (hb6.mono HB5.out.size))
  clear hf hm hbs hk hb6 HSV
  go_wp2_with fail
  go_ret
  exact ⟨rfl, HB6.out⟩
end Go.Proofs.Ytghfelfljblkbaa
