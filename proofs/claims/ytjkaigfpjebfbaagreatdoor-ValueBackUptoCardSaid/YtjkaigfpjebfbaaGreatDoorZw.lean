/- value.Write and chandlerref9.Write, by kind. -/
import Derived.Test.YtjkaigfpjebfbaaGreatDoorW4
import Derived.Test.YtjkaigfpjebfbaaGreatDoorVb
import Derived.Test.YtjkaigfpjebfbaaGreatDoorZC
import Derived.Test.YtjkaigfpjebfbaaGreatDoorShelf
import Derived.Sort.Grow
namespace Go.Proofs.YtjkaigfpjebfbaaGreatDoor
open Go.RowKit
set_option linter.unusedVariables false

/-- strconv's table, where it lies. -/
def Tab (w : World) : Prop := Lib.TabIs Tryz.prog w "internal/strconv.uint64pow10" .u64 Lib.pow10Tab
theorem Tab.below {w w' : World} (h : Tab w) (hb : Below w.heap.size w w') : Tab w' := by
  unfold Tab Lib.TabIs World.var? at h ⊢
  cases hg : Tryz.prog.globalNamed "internal/strconv.uint64pow10" with
  | none => rw [hg] at h; cases h
  | some g =>
    rw [hg] at h
    have hlt : g < w.heap.size := by
      rcases Nat.lt_or_ge g w.heap.size with h' | h'
      · exact h'
      · simp [Array.getElem?_eq_none h'] at h
    show (match w'.heap[g]? with | some (.cells cs _ _) => some cs | _ => none) = _
    rw [hb.block g hlt]
    exact h
def itoaB (n : Int) : ByteArray := ⟨(Lib.itoa n).toArray⟩
theorem below_itoa (w : World) (k : Nat) (os : Array Obj) : Below w.heap.size w (Sort.grow (w.drewN k) os) :=
  ⟨rfl, rfl, rfl, by show w.heap.size ≤ (w.heap ++ os).size; rw [Array.size_append]; omega, fun _ hj => Sort.heap_grow_old (w.drewN k) os hj⟩
theorem Itoa_any (n : Int) (h0 : -9223372036854775808 ≤ n) (h1 : n ≤ 9223372036854775807) (w : World) (hT : Tab w) :
    Calls Tryz.prog 29 #[.int .i64 n] w fun e w' => e = .returned (.string (itoaB n)) ∧ Below w.heap.size w w' :=
  (Tryz.strconv_Itoa n h0 h1 w hT).mono fun e w' ⟨he, k, os, hw⟩ => ⟨he, by rw [hw]; exact below_itoa w k os⟩
/-- May what was written be told as written? -/
def wOk (X : ByteArray) (n : Nat) : Bool := !decide (X = ⟨#[]⟩) || decide (n = 0)
theorem empty_list (X : ByteArray) : (X.toList == []) = decide (X = ⟨#[]⟩) := by
  by_cases h : X = ⟨#[]⟩
  · subst h
    rw [ByteArray.toList_eq]
    rfl
  · rw [decide_eq_false h, beq_eq_false_iff_ne]
    intro e
    exact h (toList_inj (by rw [e, ByteArray.toList_eq]))

set_option maxRecDepth 100000 in
set_option maxHeartbeats 1000000 in
theorem Write_none (w : World) :
    Calls Tryz.prog 8 #[.agg #[.nilIface]] w fun e w' => e = .returned (.tuple #[.string ⟨#[]⟩, .bool false]) ∧ Below w.heap.size w w' := by
  obtain ⟨w1, hw1⟩ : ∃ w1, w1 = w.alloc (.cells #[.nilIface] 30) := ⟨_, rfl⟩
  have HK : Hid (Blk w1 w.heap.size 30 #[.nilIface]) := Lib.hid (by rw [hw1]; exact Blk.new w _ _)
  have HB : Hid (Below w.heap.size w w1) := Lib.hid (by rw [hw1]; exact (Below.refl _ w).alloc (Nat.le_refl _) _)
  have k0 : w1.cell? ⟨w.heap.size, 0, none⟩ = some (.nilIface) := HK.out.cell 0
  have t_text := ta_none_text 
  have t_count := ta_none_count 
  have t_yes := ta_none_yes 
  have t_clauses := ta_none_clauses 
  have t_atoms := ta_none_atoms 
  have t_provides := ta_none_provides 
  go_enter Tryz.func8, Tryz.ntmps8
  go_upto_region 1 with fail
  rw [← hw1]
  clear hw1
  go_wp2_with fail
  go_ret2
  exact ⟨rfl, HB.out⟩
set_option maxRecDepth 100000 in
set_option maxHeartbeats 1000000 in
theorem Write_text (s : ByteArray) (w : World) :
    Calls Tryz.prog 8 #[.agg #[vText s]] w fun e w' => e = .returned (.tuple #[.string s, .bool true]) ∧ Below w.heap.size w w' := by
  obtain ⟨w1, hw1⟩ : ∃ w1, w1 = w.alloc (.cells #[vText s] 30) := ⟨_, rfl⟩
  have HK : Hid (Blk w1 w.heap.size 30 #[vText s]) := Lib.hid (by rw [hw1]; exact Blk.new w _ _)
  have HB : Hid (Below w.heap.size w w1) := Lib.hid (by rw [hw1]; exact (Below.refl _ w).alloc (Nat.le_refl _) _)
  have k0 : w1.cell? ⟨w.heap.size, 0, none⟩ = some (vText s) := HK.out.cell 0
  have t_text := ta_text_text s
  go_enter Tryz.func8, Tryz.ntmps8
  go_upto_region 1 with fail
  rw [← hw1]
  clear hw1
  go_wp2_with fail
  go_ret2
  exact ⟨rfl, HB.out⟩
set_option maxRecDepth 100000 in
set_option maxHeartbeats 1000000 in
theorem Write_yes_true (w : World) :
    Calls Tryz.prog 8 #[.agg #[vYes true]] w fun e w' => e = .returned (.tuple #[.string ⟨#[121, 101, 115]⟩, .bool true]) ∧ Below w.heap.size w w' := by
  obtain ⟨w1, hw1⟩ : ∃ w1, w1 = w.alloc (.cells #[vYes true] 30) := ⟨_, rfl⟩
  have HK : Hid (Blk w1 w.heap.size 30 #[vYes true]) := Lib.hid (by rw [hw1]; exact Blk.new w _ _)
  have HB : Hid (Below w.heap.size w w1) := Lib.hid (by rw [hw1]; exact (Below.refl _ w).alloc (Nat.le_refl _) _)
  have k0 : w1.cell? ⟨w.heap.size, 0, none⟩ = some (vYes true) := HK.out.cell 0
  have t_text := ta_yes_text true
  have t_count := ta_yes_count true
  have t_yes := ta_yes_yes true
  go_enter Tryz.func8, Tryz.ntmps8
  go_upto_region 1 with fail
  rw [← hw1]
  clear hw1
  go_wp2_with fail
  go_ret2
  exact ⟨rfl, HB.out⟩
set_option maxRecDepth 100000 in
set_option maxHeartbeats 1000000 in
theorem Write_yes_false (w : World) :
    Calls Tryz.prog 8 #[.agg #[vYes false]] w fun e w' => e = .returned (.tuple #[.string ⟨#[110, 111]⟩, .bool true]) ∧ Below w.heap.size w w' := by
  obtain ⟨w1, hw1⟩ : ∃ w1, w1 = w.alloc (.cells #[vYes false] 30) := ⟨_, rfl⟩
  have HK : Hid (Blk w1 w.heap.size 30 #[vYes false]) := Lib.hid (by rw [hw1]; exact Blk.new w _ _)
  have HB : Hid (Below w.heap.size w w1) := Lib.hid (by rw [hw1]; exact (Below.refl _ w).alloc (Nat.le_refl _) _)
  have k0 : w1.cell? ⟨w.heap.size, 0, none⟩ = some (vYes false) := HK.out.cell 0
  have t_text := ta_yes_text false
  have t_count := ta_yes_count false
  have t_yes := ta_yes_yes false
  go_enter Tryz.func8, Tryz.ntmps8
  go_upto_region 1 with fail
  rw [← hw1]
  clear hw1
  go_wp2_with fail
  go_ret2
  exact ⟨rfl, HB.out⟩
set_option maxRecDepth 100000 in
set_option maxHeartbeats 1000000 in
theorem Write_count (n : Int) (h0 : -9223372036854775808 ≤ n) (h1 : n ≤ 9223372036854775807) (w : World) (hT : Tab w) :
    Calls Tryz.prog 8 #[.agg #[vCount n]] w fun e w' => e = .returned (.tuple #[.string (itoaB n), .bool true]) ∧ Below w.heap.size w w' := by
  obtain ⟨w1, hw1⟩ : ∃ w1, w1 = w.alloc (.cells #[vCount n] 30) := ⟨_, rfl⟩
  have HK : Hid (Blk w1 w.heap.size 30 #[vCount n]) := Lib.hid (by rw [hw1]; exact Blk.new w _ _)
  have HB : Hid (Below w.heap.size w w1) := Lib.hid (by rw [hw1]; exact (Below.refl _ w).alloc (Nat.le_refl _) _)
  have k0 : w1.cell? ⟨w.heap.size, 0, none⟩ = some (vCount n) := HK.out.cell 0
  have t_text := ta_count_text n
  have t_count := ta_count_count n
  have HI := Lib.hid (Itoa_any n h0 h1 w1 (hT.below (by rw [hw1]; exact (Below.refl _ w).alloc (Nat.le_refl _) _)))
  clear h0 h1 hT
  go_enter Tryz.func8, Tryz.ntmps8
  go_upto_region 1 with fail
  rw [← hw1]
  clear hw1
  go_wp2_with (go_at_call 29; refine HI.out.mono ?_; rintro e w2 ⟨rfl, hb⟩; have HB2 := Lib.hid (HB.out.trans (hb.mono HB.out.size)); clear hb)
  go_ret2
  exact ⟨rfl, HB2.out⟩
set_option maxRecDepth 100000 in
set_option maxHeartbeats 1000000 in
theorem Write_clauses (A : Option Addr) (m c : Nat) (X : ByteArray) (w : World) (hc : ∀ W, Below w.heap.size w W → Calls Tryz.prog 30 #[.slice A m c] W fun e w' => e = .returned (.string X) ∧ Below W.heap.size W w') :
    Calls Tryz.prog 8 #[.agg #[vClauses (.slice A m c)]] w fun e w' => e = .returned (.tuple #[.string X, .bool (wOk X m)]) ∧ Below w.heap.size w w' := by
  obtain ⟨w1, hw1⟩ : ∃ w1, w1 = w.alloc (.cells #[vClauses (.slice A m c)] 30) := ⟨_, rfl⟩
  have HK : Hid (Blk w1 w.heap.size 30 #[vClauses (.slice A m c)]) := Lib.hid (by rw [hw1]; exact Blk.new w _ _)
  have HB : Hid (Below w.heap.size w w1) := Lib.hid (by rw [hw1]; exact (Below.refl _ w).alloc (Nat.le_refl _) _)
  have k0 : w1.cell? ⟨w.heap.size, 0, none⟩ = some (vClauses (.slice A m c)) := HK.out.cell 0
  have t_text := ta_clauses_text (.slice A m c)
  have t_count := ta_clauses_count (.slice A m c)
  have t_yes := ta_clauses_yes (.slice A m c)
  have t_clauses := ta_clauses_clauses (.slice A m c)
  have HC := Lib.hid (hc w1 HB.out)
  have e1 := empty_list X
  unfold wOk
  clear hc
  generalize decide (X = ⟨#[]⟩) = d at *
  by_cases hm : m = 0
  · subst hm
    simp only [decide_true, Bool.or_true]
    cases d
    all_goals
      go_enter Tryz.func8, Tryz.ntmps8
      go_upto_region 1 with fail
      rw [← hw1]
      clear hw1
      go_wp2_with (go_at_call 30; refine HC.out.mono ?_; rintro e w2 ⟨rfl, hb⟩; have HB2 := Lib.hid (HB.out.trans (hb.mono HB.out.size)); clear hb)
      go_ret2
      exact ⟨rfl, HB2.out⟩
  · have hmd : decide (m = 0) = false := decide_eq_false hm
    rw [hmd]
    have q0 : ((m : Int) == 0) = false := by rw [beq_eq_false_iff_ne]; omega
    clear hm hmd
    cases d
    all_goals
      simp only [Bool.or_false, Bool.not_false, Bool.not_true]
      go_enter Tryz.func8, Tryz.ntmps8
      go_upto_region 1 with fail
      rw [← hw1]
      clear hw1
      go_wp2_with (go_at_call 30; refine HC.out.mono ?_; rintro e w2 ⟨rfl, hb⟩; have HB2 := Lib.hid (HB.out.trans (hb.mono HB.out.size)); clear hb)
      go_ret2
      exact ⟨rfl, HB2.out⟩
set_option maxRecDepth 100000 in
set_option maxHeartbeats 1000000 in
theorem Write_atoms (A : Option Addr) (m c : Nat) (X : ByteArray) (w : World) (hc : ∀ W, Below w.heap.size w W → Calls Tryz.prog 31 #[.slice A m c] W fun e w' => e = .returned (.string X) ∧ Below W.heap.size W w') :
    Calls Tryz.prog 8 #[.agg #[vAtoms (.slice A m c)]] w fun e w' => e = .returned (.tuple #[.string X, .bool (wOk X m)]) ∧ Below w.heap.size w w' := by
  obtain ⟨w1, hw1⟩ : ∃ w1, w1 = w.alloc (.cells #[vAtoms (.slice A m c)] 30) := ⟨_, rfl⟩
  have HK : Hid (Blk w1 w.heap.size 30 #[vAtoms (.slice A m c)]) := Lib.hid (by rw [hw1]; exact Blk.new w _ _)
  have HB : Hid (Below w.heap.size w w1) := Lib.hid (by rw [hw1]; exact (Below.refl _ w).alloc (Nat.le_refl _) _)
  have k0 : w1.cell? ⟨w.heap.size, 0, none⟩ = some (vAtoms (.slice A m c)) := HK.out.cell 0
  have t_text := ta_atoms_text (.slice A m c)
  have t_count := ta_atoms_count (.slice A m c)
  have t_yes := ta_atoms_yes (.slice A m c)
  have t_clauses := ta_atoms_clauses (.slice A m c)
  have t_atoms := ta_atoms_atoms (.slice A m c)
  have HC := Lib.hid (hc w1 HB.out)
  have e1 := empty_list X
  unfold wOk
  clear hc
  generalize decide (X = ⟨#[]⟩) = d at *
  by_cases hm : m = 0
  · subst hm
    simp only [decide_true, Bool.or_true]
    cases d
    all_goals
      go_enter Tryz.func8, Tryz.ntmps8
      go_upto_region 1 with fail
      rw [← hw1]
      clear hw1
      go_wp2_with (go_at_call 31; refine HC.out.mono ?_; rintro e w2 ⟨rfl, hb⟩; have HB2 := Lib.hid (HB.out.trans (hb.mono HB.out.size)); clear hb)
      go_ret2
      exact ⟨rfl, HB2.out⟩
  · have hmd : decide (m = 0) = false := decide_eq_false hm
    rw [hmd]
    have q0 : ((m : Int) == 0) = false := by rw [beq_eq_false_iff_ne]; omega
    clear hm hmd
    cases d
    all_goals
      simp only [Bool.or_false, Bool.not_false, Bool.not_true]
      go_enter Tryz.func8, Tryz.ntmps8
      go_upto_region 1 with fail
      rw [← hw1]
      clear hw1
      go_wp2_with (go_at_call 31; refine HC.out.mono ?_; rintro e w2 ⟨rfl, hb⟩; have HB2 := Lib.hid (HB.out.trans (hb.mono HB.out.size)); clear hb)
      go_ret2
      exact ⟨rfl, HB2.out⟩
set_option maxRecDepth 100000 in
set_option maxHeartbeats 1000000 in
theorem Write_provides (A : Option Addr) (m c : Nat) (X : ByteArray) (w : World) (hc : ∀ W, Below w.heap.size w W → Calls Tryz.prog 32 #[.slice A m c] W fun e w' => e = .returned (.string X) ∧ Below W.heap.size W w') :
    Calls Tryz.prog 8 #[.agg #[vProvides (.slice A m c)]] w fun e w' => e = .returned (.tuple #[.string X, .bool (wOk X m)]) ∧ Below w.heap.size w w' := by
  obtain ⟨w1, hw1⟩ : ∃ w1, w1 = w.alloc (.cells #[vProvides (.slice A m c)] 30) := ⟨_, rfl⟩
  have HK : Hid (Blk w1 w.heap.size 30 #[vProvides (.slice A m c)]) := Lib.hid (by rw [hw1]; exact Blk.new w _ _)
  have HB : Hid (Below w.heap.size w w1) := Lib.hid (by rw [hw1]; exact (Below.refl _ w).alloc (Nat.le_refl _) _)
  have k0 : w1.cell? ⟨w.heap.size, 0, none⟩ = some (vProvides (.slice A m c)) := HK.out.cell 0
  have t_text := ta_provides_text (.slice A m c)
  have t_count := ta_provides_count (.slice A m c)
  have t_yes := ta_provides_yes (.slice A m c)
  have t_clauses := ta_provides_clauses (.slice A m c)
  have t_atoms := ta_provides_atoms (.slice A m c)
  have t_provides := ta_provides_provides (.slice A m c)
  have HC := Lib.hid (hc w1 HB.out)
  have e1 := empty_list X
  unfold wOk
  clear hc
  generalize decide (X = ⟨#[]⟩) = d at *
  by_cases hm : m = 0
  · subst hm
    simp only [decide_true, Bool.or_true]
    cases d
    all_goals
      go_enter Tryz.func8, Tryz.ntmps8
      go_upto_region 1 with fail
      rw [← hw1]
      clear hw1
      go_wp2_with (go_at_call 32; refine HC.out.mono ?_; rintro e w2 ⟨rfl, hb⟩; have HB2 := Lib.hid (HB.out.trans (hb.mono HB.out.size)); clear hb)
      go_ret2
      exact ⟨rfl, HB2.out⟩
  · have hmd : decide (m = 0) = false := decide_eq_false hm
    rw [hmd]
    have q0 : ((m : Int) == 0) = false := by rw [beq_eq_false_iff_ne]; omega
    clear hm hmd
    cases d
    all_goals
      simp only [Bool.or_false, Bool.not_false, Bool.not_true]
      go_enter Tryz.func8, Tryz.ntmps8
      go_upto_region 1 with fail
      rw [← hw1]
      clear hw1
      go_wp2_with (go_at_call 32; refine HC.out.mono ?_; rintro e w2 ⟨rfl, hb⟩; have HB2 := Lib.hid (HB.out.trans (hb.mono HB.out.size)); clear hb)
      go_ret2
      exact ⟨rfl, HB2.out⟩
set_option maxRecDepth 100000 in
set_option maxHeartbeats 2000000 in
theorem RWrite_none (s : ByteArray) (n : Int) (b : Bool) (Ac Aa Ap : Option Addr) (nc cc na ca np cp : Nat) (w : World) :
    Calls Tryz.prog 9 #[.agg #[.string ⟨#[110, 111, 110, 101]⟩, .string s, .int .i64 n, .bool b, .slice Ac nc cc, .slice Aa na ca, .slice Ap np cp]] w fun e w' => e = .returned (.tuple #[.string ⟨#[]⟩, .bool false]) ∧ Below w.heap.size w w' := by
  obtain ⟨w1, hw1⟩ : ∃ w1, w1 = w.alloc (.cells #[.string ⟨#[110, 111, 110, 101]⟩, .string s, .int .i64 n, .bool b, .slice Ac nc cc, .slice Aa na ca, .slice Ap np cp] 32) := ⟨_, rfl⟩
  have HK : Hid (Blk w1 w.heap.size 32 #[.string ⟨#[110, 111, 110, 101]⟩, .string s, .int .i64 n, .bool b, .slice Ac nc cc, .slice Aa na ca, .slice Ap np cp]) := Lib.hid (by rw [hw1]; exact Blk.new w _ _)
  have HB : Hid (Below w.heap.size w w1) := Lib.hid (by rw [hw1]; exact (Below.refl _ w).alloc (Nat.le_refl _) _)
  have k0 : w1.cell? ⟨w.heap.size, 0, none⟩ = some (.string ⟨#[110, 111, 110, 101]⟩) := HK.out.cell 0
  have k1 : w1.cell? ⟨w.heap.size, 1, none⟩ = some (.string s) := HK.out.cell 1
  have k2 : w1.cell? ⟨w.heap.size, 2, none⟩ = some (.int .i64 n) := HK.out.cell 2
  have k3 : w1.cell? ⟨w.heap.size, 3, none⟩ = some (.bool b) := HK.out.cell 3
  have k4 : w1.cell? ⟨w.heap.size, 4, none⟩ = some (.slice Ac nc cc) := HK.out.cell 4
  have k5 : w1.cell? ⟨w.heap.size, 5, none⟩ = some (.slice Aa na ca) := HK.out.cell 5
  have k6 : w1.cell? ⟨w.heap.size, 6, none⟩ = some (.slice Ap np cp) := HK.out.cell 6
  go_enter Tryz.func9, Tryz.ntmps9
  go_upto_region 1 with fail
  rw [← hw1]
  clear hw1
  go_wp2_with fail
  go_ret2
  exact ⟨rfl, HB.out⟩
set_option maxRecDepth 100000 in
set_option maxHeartbeats 2000000 in
theorem RWrite_text (s : ByteArray) (n : Int) (b : Bool) (Ac Aa Ap : Option Addr) (nc cc na ca np cp : Nat) (w : World) :
    Calls Tryz.prog 9 #[.agg #[.string ⟨#[116, 101, 120, 116]⟩, .string s, .int .i64 n, .bool b, .slice Ac nc cc, .slice Aa na ca, .slice Ap np cp]] w fun e w' => e = .returned (.tuple #[.string s, .bool true]) ∧ Below w.heap.size w w' := by
  obtain ⟨w1, hw1⟩ : ∃ w1, w1 = w.alloc (.cells #[.string ⟨#[116, 101, 120, 116]⟩, .string s, .int .i64 n, .bool b, .slice Ac nc cc, .slice Aa na ca, .slice Ap np cp] 32) := ⟨_, rfl⟩
  have HK : Hid (Blk w1 w.heap.size 32 #[.string ⟨#[116, 101, 120, 116]⟩, .string s, .int .i64 n, .bool b, .slice Ac nc cc, .slice Aa na ca, .slice Ap np cp]) := Lib.hid (by rw [hw1]; exact Blk.new w _ _)
  have HB : Hid (Below w.heap.size w w1) := Lib.hid (by rw [hw1]; exact (Below.refl _ w).alloc (Nat.le_refl _) _)
  have k0 : w1.cell? ⟨w.heap.size, 0, none⟩ = some (.string ⟨#[116, 101, 120, 116]⟩) := HK.out.cell 0
  have k1 : w1.cell? ⟨w.heap.size, 1, none⟩ = some (.string s) := HK.out.cell 1
  have k2 : w1.cell? ⟨w.heap.size, 2, none⟩ = some (.int .i64 n) := HK.out.cell 2
  have k3 : w1.cell? ⟨w.heap.size, 3, none⟩ = some (.bool b) := HK.out.cell 3
  have k4 : w1.cell? ⟨w.heap.size, 4, none⟩ = some (.slice Ac nc cc) := HK.out.cell 4
  have k5 : w1.cell? ⟨w.heap.size, 5, none⟩ = some (.slice Aa na ca) := HK.out.cell 5
  have k6 : w1.cell? ⟨w.heap.size, 6, none⟩ = some (.slice Ap np cp) := HK.out.cell 6
  go_enter Tryz.func9, Tryz.ntmps9
  go_upto_region 1 with fail
  rw [← hw1]
  clear hw1
  go_wp2_with fail
  go_ret2
  exact ⟨rfl, HB.out⟩
set_option maxRecDepth 100000 in
set_option maxHeartbeats 2000000 in
theorem RWrite_yes_true (s : ByteArray) (n : Int) (Ac Aa Ap : Option Addr) (nc cc na ca np cp : Nat) (w : World) :
    Calls Tryz.prog 9 #[.agg #[.string ⟨#[121, 101, 115]⟩, .string s, .int .i64 n, .bool true, .slice Ac nc cc, .slice Aa na ca, .slice Ap np cp]] w fun e w' => e = .returned (.tuple #[.string ⟨#[121, 101, 115]⟩, .bool true]) ∧ Below w.heap.size w w' := by
  obtain ⟨w1, hw1⟩ : ∃ w1, w1 = w.alloc (.cells #[.string ⟨#[121, 101, 115]⟩, .string s, .int .i64 n, .bool true, .slice Ac nc cc, .slice Aa na ca, .slice Ap np cp] 32) := ⟨_, rfl⟩
  have HK : Hid (Blk w1 w.heap.size 32 #[.string ⟨#[121, 101, 115]⟩, .string s, .int .i64 n, .bool true, .slice Ac nc cc, .slice Aa na ca, .slice Ap np cp]) := Lib.hid (by rw [hw1]; exact Blk.new w _ _)
  have HB : Hid (Below w.heap.size w w1) := Lib.hid (by rw [hw1]; exact (Below.refl _ w).alloc (Nat.le_refl _) _)
  have k0 : w1.cell? ⟨w.heap.size, 0, none⟩ = some (.string ⟨#[121, 101, 115]⟩) := HK.out.cell 0
  have k1 : w1.cell? ⟨w.heap.size, 1, none⟩ = some (.string s) := HK.out.cell 1
  have k2 : w1.cell? ⟨w.heap.size, 2, none⟩ = some (.int .i64 n) := HK.out.cell 2
  have k3 : w1.cell? ⟨w.heap.size, 3, none⟩ = some (.bool true) := HK.out.cell 3
  have k4 : w1.cell? ⟨w.heap.size, 4, none⟩ = some (.slice Ac nc cc) := HK.out.cell 4
  have k5 : w1.cell? ⟨w.heap.size, 5, none⟩ = some (.slice Aa na ca) := HK.out.cell 5
  have k6 : w1.cell? ⟨w.heap.size, 6, none⟩ = some (.slice Ap np cp) := HK.out.cell 6
  go_enter Tryz.func9, Tryz.ntmps9
  go_upto_region 1 with fail
  rw [← hw1]
  clear hw1
  go_wp2_with fail
  go_ret2
  exact ⟨rfl, HB.out⟩
set_option maxRecDepth 100000 in
set_option maxHeartbeats 2000000 in
theorem RWrite_yes_false (s : ByteArray) (n : Int) (Ac Aa Ap : Option Addr) (nc cc na ca np cp : Nat) (w : World) :
    Calls Tryz.prog 9 #[.agg #[.string ⟨#[121, 101, 115]⟩, .string s, .int .i64 n, .bool false, .slice Ac nc cc, .slice Aa na ca, .slice Ap np cp]] w fun e w' => e = .returned (.tuple #[.string ⟨#[110, 111]⟩, .bool true]) ∧ Below w.heap.size w w' := by
  obtain ⟨w1, hw1⟩ : ∃ w1, w1 = w.alloc (.cells #[.string ⟨#[121, 101, 115]⟩, .string s, .int .i64 n, .bool false, .slice Ac nc cc, .slice Aa na ca, .slice Ap np cp] 32) := ⟨_, rfl⟩
  have HK : Hid (Blk w1 w.heap.size 32 #[.string ⟨#[121, 101, 115]⟩, .string s, .int .i64 n, .bool false, .slice Ac nc cc, .slice Aa na ca, .slice Ap np cp]) := Lib.hid (by rw [hw1]; exact Blk.new w _ _)
  have HB : Hid (Below w.heap.size w w1) := Lib.hid (by rw [hw1]; exact (Below.refl _ w).alloc (Nat.le_refl _) _)
  have k0 : w1.cell? ⟨w.heap.size, 0, none⟩ = some (.string ⟨#[121, 101, 115]⟩) := HK.out.cell 0
  have k1 : w1.cell? ⟨w.heap.size, 1, none⟩ = some (.string s) := HK.out.cell 1
  have k2 : w1.cell? ⟨w.heap.size, 2, none⟩ = some (.int .i64 n) := HK.out.cell 2
  have k3 : w1.cell? ⟨w.heap.size, 3, none⟩ = some (.bool false) := HK.out.cell 3
  have k4 : w1.cell? ⟨w.heap.size, 4, none⟩ = some (.slice Ac nc cc) := HK.out.cell 4
  have k5 : w1.cell? ⟨w.heap.size, 5, none⟩ = some (.slice Aa na ca) := HK.out.cell 5
  have k6 : w1.cell? ⟨w.heap.size, 6, none⟩ = some (.slice Ap np cp) := HK.out.cell 6
  go_enter Tryz.func9, Tryz.ntmps9
  go_upto_region 1 with fail
  rw [← hw1]
  clear hw1
  go_wp2_with fail
  go_ret2
  exact ⟨rfl, HB.out⟩
set_option maxRecDepth 100000 in
set_option maxHeartbeats 2000000 in
theorem RWrite_count (s : ByteArray) (n : Int) (b : Bool) (Ac Aa Ap : Option Addr) (nc cc na ca np cp : Nat) (w : World) (h0 : -9223372036854775808 ≤ n) (h1 : n ≤ 9223372036854775807) (hT : Tab w) :
    Calls Tryz.prog 9 #[.agg #[.string ⟨#[99, 111, 117, 110, 116]⟩, .string s, .int .i64 n, .bool b, .slice Ac nc cc, .slice Aa na ca, .slice Ap np cp]] w fun e w' => e = .returned (.tuple #[.string (itoaB n), .bool true]) ∧ Below w.heap.size w w' := by
  obtain ⟨w1, hw1⟩ : ∃ w1, w1 = w.alloc (.cells #[.string ⟨#[99, 111, 117, 110, 116]⟩, .string s, .int .i64 n, .bool b, .slice Ac nc cc, .slice Aa na ca, .slice Ap np cp] 32) := ⟨_, rfl⟩
  have HK : Hid (Blk w1 w.heap.size 32 #[.string ⟨#[99, 111, 117, 110, 116]⟩, .string s, .int .i64 n, .bool b, .slice Ac nc cc, .slice Aa na ca, .slice Ap np cp]) := Lib.hid (by rw [hw1]; exact Blk.new w _ _)
  have HB : Hid (Below w.heap.size w w1) := Lib.hid (by rw [hw1]; exact (Below.refl _ w).alloc (Nat.le_refl _) _)
  have k0 : w1.cell? ⟨w.heap.size, 0, none⟩ = some (.string ⟨#[99, 111, 117, 110, 116]⟩) := HK.out.cell 0
  have k1 : w1.cell? ⟨w.heap.size, 1, none⟩ = some (.string s) := HK.out.cell 1
  have k2 : w1.cell? ⟨w.heap.size, 2, none⟩ = some (.int .i64 n) := HK.out.cell 2
  have k3 : w1.cell? ⟨w.heap.size, 3, none⟩ = some (.bool b) := HK.out.cell 3
  have k4 : w1.cell? ⟨w.heap.size, 4, none⟩ = some (.slice Ac nc cc) := HK.out.cell 4
  have k5 : w1.cell? ⟨w.heap.size, 5, none⟩ = some (.slice Aa na ca) := HK.out.cell 5
  have k6 : w1.cell? ⟨w.heap.size, 6, none⟩ = some (.slice Ap np cp) := HK.out.cell 6
  have HI := Lib.hid (Itoa_any n h0 h1 w1 (hT.below (by rw [hw1]; exact (Below.refl _ w).alloc (Nat.le_refl _) _)))
  clear h0 h1 hT
  go_enter Tryz.func9, Tryz.ntmps9
  go_upto_region 1 with fail
  rw [← hw1]
  clear hw1
  go_wp2_with (go_at_call 29; refine HI.out.mono ?_; rintro e w2 ⟨rfl, hb⟩; have HB2 := Lib.hid (HB.out.trans (hb.mono HB.out.size)); clear hb)
  go_ret2
  exact ⟨rfl, HB2.out⟩
set_option maxRecDepth 100000 in
set_option maxHeartbeats 2000000 in
theorem RWrite_clauses (s : ByteArray) (n : Int) (b : Bool) (Ac Aa Ap : Option Addr) (nc cc na ca np cp : Nat) (w : World) (X : ByteArray) (hc : ∀ W, Below w.heap.size w W → Calls Tryz.prog 33 #[.slice Ac nc cc] W fun e W' => e = .returned (.string X) ∧ Below W.heap.size W W') :
    Calls Tryz.prog 9 #[.agg #[.string ⟨#[99, 108, 97, 117, 115, 101, 115]⟩, .string s, .int .i64 n, .bool b, .slice Ac nc cc, .slice Aa na ca, .slice Ap np cp]] w fun e w' => e = .returned (.tuple #[.string X, .bool (wOk X nc)]) ∧ Below w.heap.size w w' := by
  obtain ⟨w1, hw1⟩ : ∃ w1, w1 = w.alloc (.cells #[.string ⟨#[99, 108, 97, 117, 115, 101, 115]⟩, .string s, .int .i64 n, .bool b, .slice Ac nc cc, .slice Aa na ca, .slice Ap np cp] 32) := ⟨_, rfl⟩
  have HK : Hid (Blk w1 w.heap.size 32 #[.string ⟨#[99, 108, 97, 117, 115, 101, 115]⟩, .string s, .int .i64 n, .bool b, .slice Ac nc cc, .slice Aa na ca, .slice Ap np cp]) := Lib.hid (by rw [hw1]; exact Blk.new w _ _)
  have HB : Hid (Below w.heap.size w w1) := Lib.hid (by rw [hw1]; exact (Below.refl _ w).alloc (Nat.le_refl _) _)
  have k0 : w1.cell? ⟨w.heap.size, 0, none⟩ = some (.string ⟨#[99, 108, 97, 117, 115, 101, 115]⟩) := HK.out.cell 0
  have k1 : w1.cell? ⟨w.heap.size, 1, none⟩ = some (.string s) := HK.out.cell 1
  have k2 : w1.cell? ⟨w.heap.size, 2, none⟩ = some (.int .i64 n) := HK.out.cell 2
  have k3 : w1.cell? ⟨w.heap.size, 3, none⟩ = some (.bool b) := HK.out.cell 3
  have k4 : w1.cell? ⟨w.heap.size, 4, none⟩ = some (.slice Ac nc cc) := HK.out.cell 4
  have k5 : w1.cell? ⟨w.heap.size, 5, none⟩ = some (.slice Aa na ca) := HK.out.cell 5
  have k6 : w1.cell? ⟨w.heap.size, 6, none⟩ = some (.slice Ap np cp) := HK.out.cell 6
  have HC := Lib.hid (hc w1 HB.out)
  have e1 := empty_list X
  unfold wOk
  clear hc
  generalize decide (X = ⟨#[]⟩) = d at *
  by_cases hm : nc = 0
  · subst hm
    simp only [decide_true, Bool.or_true]
    cases d
    all_goals
      go_enter Tryz.func9, Tryz.ntmps9
      go_upto_region 1 with fail
      rw [← hw1]
      clear hw1
      go_wp2_with (go_at_call 33; refine HC.out.mono ?_; rintro e u0 ⟨rfl, hb⟩; have HB0 := Lib.hid (HB.out.trans (hb.mono HB.out.size)); have HK0 := Lib.hid (HK.out.below hb HK.out.lt); clear hb; have j4 : u0.cell? ⟨w.heap.size, 4, none⟩ = some (.slice Ac 0 cc) := HK0.out.cell 4)
      go_quiet (fail)
      go_wp2_with fail
      go_ret2
      exact ⟨rfl, HB0.out.trans (⟨rfl, rfl, rfl, Nat.le_refl _, fun _ _ => rfl⟩)⟩
  · have hmd : decide (nc = 0) = false := decide_eq_false hm
    rw [hmd]
    have q0 : ((nc : Int) == 0) = false := by rw [beq_eq_false_iff_ne]; omega
    clear hm hmd
    cases d
    all_goals
      simp only [Bool.or_false, Bool.not_false, Bool.not_true]
      go_enter Tryz.func9, Tryz.ntmps9
      go_upto_region 1 with fail
      rw [← hw1]
      clear hw1
      go_wp2_with (go_at_call 33; refine HC.out.mono ?_; rintro e u0 ⟨rfl, hb⟩; have HB0 := Lib.hid (HB.out.trans (hb.mono HB.out.size)); have HK0 := Lib.hid (HK.out.below hb HK.out.lt); clear hb; have j4 : u0.cell? ⟨w.heap.size, 4, none⟩ = some (.slice Ac nc cc) := HK0.out.cell 4)
      go_quiet (fail)
      go_wp2_with fail
      go_ret2
      exact ⟨rfl, HB0.out.trans (⟨rfl, rfl, rfl, Nat.le_refl _, fun _ _ => rfl⟩)⟩
set_option maxRecDepth 100000 in
set_option maxHeartbeats 2000000 in
theorem RWrite_atoms (s : ByteArray) (n : Int) (b : Bool) (Ac Aa Ap : Option Addr) (nc cc na ca np cp : Nat) (w : World) (X : ByteArray) (hc : ∀ W, Below w.heap.size w W → Calls Tryz.prog 34 #[.slice Aa na ca] W fun e W' => ∃ v0, e = .returned v0 ∧ (Calls Tryz.prog 33 #[v0] W' fun e W'' => e = .returned (.string X) ∧ Below W'.heap.size W' W'') ∧ Below W.heap.size W W') :
    Calls Tryz.prog 9 #[.agg #[.string ⟨#[97, 116, 111, 109, 115]⟩, .string s, .int .i64 n, .bool b, .slice Ac nc cc, .slice Aa na ca, .slice Ap np cp]] w fun e w' => e = .returned (.tuple #[.string X, .bool (wOk X na)]) ∧ Below w.heap.size w w' := by
  obtain ⟨w1, hw1⟩ : ∃ w1, w1 = w.alloc (.cells #[.string ⟨#[97, 116, 111, 109, 115]⟩, .string s, .int .i64 n, .bool b, .slice Ac nc cc, .slice Aa na ca, .slice Ap np cp] 32) := ⟨_, rfl⟩
  have HK : Hid (Blk w1 w.heap.size 32 #[.string ⟨#[97, 116, 111, 109, 115]⟩, .string s, .int .i64 n, .bool b, .slice Ac nc cc, .slice Aa na ca, .slice Ap np cp]) := Lib.hid (by rw [hw1]; exact Blk.new w _ _)
  have HB : Hid (Below w.heap.size w w1) := Lib.hid (by rw [hw1]; exact (Below.refl _ w).alloc (Nat.le_refl _) _)
  have k0 : w1.cell? ⟨w.heap.size, 0, none⟩ = some (.string ⟨#[97, 116, 111, 109, 115]⟩) := HK.out.cell 0
  have k1 : w1.cell? ⟨w.heap.size, 1, none⟩ = some (.string s) := HK.out.cell 1
  have k2 : w1.cell? ⟨w.heap.size, 2, none⟩ = some (.int .i64 n) := HK.out.cell 2
  have k3 : w1.cell? ⟨w.heap.size, 3, none⟩ = some (.bool b) := HK.out.cell 3
  have k4 : w1.cell? ⟨w.heap.size, 4, none⟩ = some (.slice Ac nc cc) := HK.out.cell 4
  have k5 : w1.cell? ⟨w.heap.size, 5, none⟩ = some (.slice Aa na ca) := HK.out.cell 5
  have k6 : w1.cell? ⟨w.heap.size, 6, none⟩ = some (.slice Ap np cp) := HK.out.cell 6
  have HC := Lib.hid (hc w1 HB.out)
  have e1 := empty_list X
  unfold wOk
  clear hc
  generalize decide (X = ⟨#[]⟩) = d at *
  by_cases hm : na = 0
  · subst hm
    simp only [decide_true, Bool.or_true]
    cases d
    all_goals
      go_enter Tryz.func9, Tryz.ntmps9
      go_upto_region 1 with fail
      rw [← hw1]
      clear hw1
      go_wp2_with (first | (go_at_call 34; refine HC.out.mono ?_; rintro e u0 ⟨v0, rfl, hc, hb⟩; have HB0 := Lib.hid (HB.out.trans (hb.mono HB.out.size)); have HK0 := Lib.hid (HK.out.below hb HK.out.lt); have HC0 := Lib.hid hc; clear hb hc) | (go_at_call 33; refine HC0.out.mono ?_; rintro e u1 ⟨rfl, hb⟩; have HB1 := Lib.hid (HB0.out.trans (hb.mono HB0.out.size)); have HK1 := Lib.hid (HK0.out.below hb HK0.out.lt); clear hb; have j5 : u1.cell? ⟨w.heap.size, 5, none⟩ = some (.slice Aa 0 ca) := HK1.out.cell 5))
      go_quiet (fail)
      go_wp2_with fail
      go_ret2
      exact ⟨rfl, HB1.out.trans (⟨rfl, rfl, rfl, Nat.le_refl _, fun _ _ => rfl⟩)⟩
  · have hmd : decide (na = 0) = false := decide_eq_false hm
    rw [hmd]
    have q0 : ((na : Int) == 0) = false := by rw [beq_eq_false_iff_ne]; omega
    clear hm hmd
    cases d
    all_goals
      simp only [Bool.or_false, Bool.not_false, Bool.not_true]
      go_enter Tryz.func9, Tryz.ntmps9
      go_upto_region 1 with fail
      rw [← hw1]
      clear hw1
      go_wp2_with (first | (go_at_call 34; refine HC.out.mono ?_; rintro e u0 ⟨v0, rfl, hc, hb⟩; have HB0 := Lib.hid (HB.out.trans (hb.mono HB.out.size)); have HK0 := Lib.hid (HK.out.below hb HK.out.lt); have HC0 := Lib.hid hc; clear hb hc) | (go_at_call 33; refine HC0.out.mono ?_; rintro e u1 ⟨rfl, hb⟩; have HB1 := Lib.hid (HB0.out.trans (hb.mono HB0.out.size)); have HK1 := Lib.hid (HK0.out.below hb HK0.out.lt); clear hb; have j5 : u1.cell? ⟨w.heap.size, 5, none⟩ = some (.slice Aa na ca) := HK1.out.cell 5))
      go_quiet (fail)
      go_wp2_with fail
      go_ret2
      exact ⟨rfl, HB1.out.trans (⟨rfl, rfl, rfl, Nat.le_refl _, fun _ _ => rfl⟩)⟩
set_option maxRecDepth 100000 in
set_option maxHeartbeats 2000000 in
theorem RWrite_provides (s : ByteArray) (n : Int) (b : Bool) (Ac Aa Ap : Option Addr) (nc cc na ca np cp : Nat) (w : World) (X : ByteArray) (hc : ∀ W, Below w.heap.size w W → Calls Tryz.prog 35 #[.slice Ap np cp] W fun e W' => ∃ v0, e = .returned v0 ∧ (Calls Tryz.prog 34 #[v0] W' fun e W'' => ∃ v1, e = .returned v1 ∧ (Calls Tryz.prog 33 #[v1] W'' fun e W''' => e = .returned (.string X) ∧ Below W''.heap.size W'' W''') ∧ Below W'.heap.size W' W'') ∧ Below W.heap.size W W') :
    Calls Tryz.prog 9 #[.agg #[.string ⟨#[112, 114, 111, 118, 105, 100, 101, 115]⟩, .string s, .int .i64 n, .bool b, .slice Ac nc cc, .slice Aa na ca, .slice Ap np cp]] w fun e w' => e = .returned (.tuple #[.string X, .bool (wOk X np)]) ∧ Below w.heap.size w w' := by
  obtain ⟨w1, hw1⟩ : ∃ w1, w1 = w.alloc (.cells #[.string ⟨#[112, 114, 111, 118, 105, 100, 101, 115]⟩, .string s, .int .i64 n, .bool b, .slice Ac nc cc, .slice Aa na ca, .slice Ap np cp] 32) := ⟨_, rfl⟩
  have HK : Hid (Blk w1 w.heap.size 32 #[.string ⟨#[112, 114, 111, 118, 105, 100, 101, 115]⟩, .string s, .int .i64 n, .bool b, .slice Ac nc cc, .slice Aa na ca, .slice Ap np cp]) := Lib.hid (by rw [hw1]; exact Blk.new w _ _)
  have HB : Hid (Below w.heap.size w w1) := Lib.hid (by rw [hw1]; exact (Below.refl _ w).alloc (Nat.le_refl _) _)
  have k0 : w1.cell? ⟨w.heap.size, 0, none⟩ = some (.string ⟨#[112, 114, 111, 118, 105, 100, 101, 115]⟩) := HK.out.cell 0
  have k1 : w1.cell? ⟨w.heap.size, 1, none⟩ = some (.string s) := HK.out.cell 1
  have k2 : w1.cell? ⟨w.heap.size, 2, none⟩ = some (.int .i64 n) := HK.out.cell 2
  have k3 : w1.cell? ⟨w.heap.size, 3, none⟩ = some (.bool b) := HK.out.cell 3
  have k4 : w1.cell? ⟨w.heap.size, 4, none⟩ = some (.slice Ac nc cc) := HK.out.cell 4
  have k5 : w1.cell? ⟨w.heap.size, 5, none⟩ = some (.slice Aa na ca) := HK.out.cell 5
  have k6 : w1.cell? ⟨w.heap.size, 6, none⟩ = some (.slice Ap np cp) := HK.out.cell 6
  have HC := Lib.hid (hc w1 HB.out)
  have e1 := empty_list X
  unfold wOk
  clear hc
  generalize decide (X = ⟨#[]⟩) = d at *
  by_cases hm : np = 0
  · subst hm
    simp only [decide_true, Bool.or_true]
    cases d
    all_goals
      go_enter Tryz.func9, Tryz.ntmps9
      go_upto_region 1 with fail
      rw [← hw1]
      clear hw1
      go_wp2_with (first | (go_at_call 35; refine HC.out.mono ?_; rintro e u0 ⟨v0, rfl, hc, hb⟩; have HB0 := Lib.hid (HB.out.trans (hb.mono HB.out.size)); have HK0 := Lib.hid (HK.out.below hb HK.out.lt); have HC0 := Lib.hid hc; clear hb hc) | (go_at_call 34; refine HC0.out.mono ?_; rintro e u1 ⟨v1, rfl, hc, hb⟩; have HB1 := Lib.hid (HB0.out.trans (hb.mono HB0.out.size)); have HK1 := Lib.hid (HK0.out.below hb HK0.out.lt); have HC1 := Lib.hid hc; clear hb hc) | (go_at_call 33; refine HC1.out.mono ?_; rintro e u2 ⟨rfl, hb⟩; have HB2 := Lib.hid (HB1.out.trans (hb.mono HB1.out.size)); have HK2 := Lib.hid (HK1.out.below hb HK1.out.lt); clear hb; have j6 : u2.cell? ⟨w.heap.size, 6, none⟩ = some (.slice Ap 0 cp) := HK2.out.cell 6))
      go_quiet (fail)
      go_wp2_with fail
      go_ret2
      exact ⟨rfl, HB2.out.trans (⟨rfl, rfl, rfl, Nat.le_refl _, fun _ _ => rfl⟩)⟩
  · have hmd : decide (np = 0) = false := decide_eq_false hm
    rw [hmd]
    have q0 : ((np : Int) == 0) = false := by rw [beq_eq_false_iff_ne]; omega
    clear hm hmd
    cases d
    all_goals
      simp only [Bool.or_false, Bool.not_false, Bool.not_true]
      go_enter Tryz.func9, Tryz.ntmps9
      go_upto_region 1 with fail
      rw [← hw1]
      clear hw1
      go_wp2_with (first | (go_at_call 35; refine HC.out.mono ?_; rintro e u0 ⟨v0, rfl, hc, hb⟩; have HB0 := Lib.hid (HB.out.trans (hb.mono HB.out.size)); have HK0 := Lib.hid (HK.out.below hb HK.out.lt); have HC0 := Lib.hid hc; clear hb hc) | (go_at_call 34; refine HC0.out.mono ?_; rintro e u1 ⟨v1, rfl, hc, hb⟩; have HB1 := Lib.hid (HB0.out.trans (hb.mono HB0.out.size)); have HK1 := Lib.hid (HK0.out.below hb HK0.out.lt); have HC1 := Lib.hid hc; clear hb hc) | (go_at_call 33; refine HC1.out.mono ?_; rintro e u2 ⟨rfl, hb⟩; have HB2 := Lib.hid (HB1.out.trans (hb.mono HB1.out.size)); have HK2 := Lib.hid (HK1.out.below hb HK1.out.lt); clear hb; have j6 : u2.cell? ⟨w.heap.size, 6, none⟩ = some (.slice Ap np cp) := HK2.out.cell 6))
      go_quiet (fail)
      go_wp2_with fail
      go_ret2
      exact ⟨rfl, HB2.out.trans (⟨rfl, rfl, rfl, Nat.le_refl _, fun _ _ => rfl⟩)⟩
end Go.Proofs.YtjkaigfpjebfbaaGreatDoor
