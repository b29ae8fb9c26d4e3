/- MustText, MustCount, MustYes; only; a yes that is read; awake. -/
import Derived.Test.YtjkaigfpjebfbaaVm
import Derived.Test.YtjkaigfpjebfbaaVf2
namespace Go.Proofs.Ytjkaigfpjebfbaa
open Go.RowKit
set_option linter.unusedVariables false

set_option maxRecDepth 100000 in
theorem MustText_ok (s : ByteArray) (w : World) : Calls Try.prog 15 #[.agg #[vText s]] w fun e w' => e = .returned (.string s) ∧ Below w.heap.size w w' := by
  obtain ⟨w1, hw1⟩ : ∃ w1, w1 = w.alloc (.cells #[vText s] 35) := ⟨_, rfl⟩
  have HK : Hid (Blk w1 w.heap.size 35 #[vText s]) := Lib.hid (by rw [hw1]; exact Blk.new w _ _)
  have HB : Hid (Below w.heap.size w w1) := Lib.hid (by rw [hw1]; exact (Below.refl _ w).alloc (Nat.le_refl _) _)
  have k0 : w1.cell? ⟨w.heap.size, 0, none⟩ = some (vText s) := HK.out.cell 0
  have HM := Lib.hid (fun W => must_ok (VK.text s) (kindB 1) rfl W)
  have t1 := tb_text s
  go_enter Try.func15, Try.ntmps15
  go_upto_region 1 with fail
  rw [← hw1]
  clear hw1
  go_wp2_with (go_at_call 43; refine (HM.out _).mono ?_; rintro e w2 ⟨rfl, hb2⟩; have k1 : w2.cell? ⟨w.heap.size, 0, none⟩ = some (vText s) := (HK.out.below hb2 HK.out.lt).cell 0; have HB2 := Lib.hid (HB.out.trans (hb2.mono HB.out.size)); clear hb2)
  go_ret
  exact ⟨rfl, HB2.out⟩
set_option maxRecDepth 100000 in
theorem MustText_no {k : Nat} {x : Value} (h : VK k x) (hk : kindB 1 ≠ kindB k) (w : World) : Calls Try.prog 15 #[.agg #[x]] w fun e w' => ∃ g, e = .panicked [{ v := .iface 22 (.pointer (some ⟨g, 0, none⟩)), recovered := false }] ∧ Hid (Blk w' g 44 #[.string (kindB 1), .string (kindB k)] ∧ w.heap.size ≤ g ∧ Below w.heap.size w w') := by
  obtain ⟨w1, hw1⟩ : ∃ w1, w1 = w.alloc (.cells #[x] 35) := ⟨_, rfl⟩
  have HK : Hid (Blk w1 w.heap.size 35 #[x]) := Lib.hid (by rw [hw1]; exact Blk.new w _ _)
  have HB : Hid (Below w.heap.size w w1) := Lib.hid (by rw [hw1]; exact (Below.refl _ w).alloc (Nat.le_refl _) _)
  have k0 : w1.cell? ⟨w.heap.size, 0, none⟩ = some x := HK.out.cell 0
  have HM := Lib.hid (fun W => must_no h (kindB 1) hk W)
  obtain ⟨got, hgot⟩ : ∃ got, got = kindB k := ⟨_, rfl⟩
  rw [← hgot] at HM ⊢
  clear h hk hgot
  go_enter Try.func15, Try.ntmps15
  go_upto_region 1 with fail
  rw [← hw1]
  clear hw1
  go_wp2_with (go_at_call 43; refine (HM.out _).mono ?_; rintro e w2 ⟨g, rfl, hq⟩)
  exact ⟨rfl, g, rfl, Lib.hid ⟨hq.out.1, Nat.le_trans HB.out.size hq.out.2.1, HB.out.trans (hq.out.2.2.mono HB.out.size)⟩⟩

set_option maxRecDepth 100000 in
theorem MustCount_ok (n : Int) (w : World) : Calls Try.prog 17 #[.agg #[vCount n]] w fun e w' => e = .returned (.int .i64 n) ∧ Below w.heap.size w w' := by
  obtain ⟨w1, hw1⟩ : ∃ w1, w1 = w.alloc (.cells #[vCount n] 35) := ⟨_, rfl⟩
  have HK : Hid (Blk w1 w.heap.size 35 #[vCount n]) := Lib.hid (by rw [hw1]; exact Blk.new w _ _)
  have HB : Hid (Below w.heap.size w w1) := Lib.hid (by rw [hw1]; exact (Below.refl _ w).alloc (Nat.le_refl _) _)
  have k0 : w1.cell? ⟨w.heap.size, 0, none⟩ = some (vCount n) := HK.out.cell 0
  have HM := Lib.hid (fun W => must_ok (VK.count n) (kindB 2) rfl W)
  have t1 := tb_count n
  go_enter Try.func17, Try.ntmps17
  go_upto_region 1 with fail
  rw [← hw1]
  clear hw1
  go_wp2_with (go_at_call 43; refine (HM.out _).mono ?_; rintro e w2 ⟨rfl, hb2⟩; have k1 : w2.cell? ⟨w.heap.size, 0, none⟩ = some (vCount n) := (HK.out.below hb2 HK.out.lt).cell 0; have HB2 := Lib.hid (HB.out.trans (hb2.mono HB.out.size)); clear hb2)
  go_ret
  exact ⟨rfl, HB2.out⟩
set_option maxRecDepth 100000 in
theorem MustCount_no {k : Nat} {x : Value} (h : VK k x) (hk : kindB 2 ≠ kindB k) (w : World) : Calls Try.prog 17 #[.agg #[x]] w fun e w' => ∃ g, e = .panicked [{ v := .iface 22 (.pointer (some ⟨g, 0, none⟩)), recovered := false }] ∧ Hid (Blk w' g 44 #[.string (kindB 2), .string (kindB k)] ∧ w.heap.size ≤ g ∧ Below w.heap.size w w') := by
  obtain ⟨w1, hw1⟩ : ∃ w1, w1 = w.alloc (.cells #[x] 35) := ⟨_, rfl⟩
  have HK : Hid (Blk w1 w.heap.size 35 #[x]) := Lib.hid (by rw [hw1]; exact Blk.new w _ _)
  have HB : Hid (Below w.heap.size w w1) := Lib.hid (by rw [hw1]; exact (Below.refl _ w).alloc (Nat.le_refl _) _)
  have k0 : w1.cell? ⟨w.heap.size, 0, none⟩ = some x := HK.out.cell 0
  have HM := Lib.hid (fun W => must_no h (kindB 2) hk W)
  obtain ⟨got, hgot⟩ : ∃ got, got = kindB k := ⟨_, rfl⟩
  rw [← hgot] at HM ⊢
  clear h hk hgot
  go_enter Try.func17, Try.ntmps17
  go_upto_region 1 with fail
  rw [← hw1]
  clear hw1
  go_wp2_with (go_at_call 43; refine (HM.out _).mono ?_; rintro e w2 ⟨g, rfl, hq⟩)
  exact ⟨rfl, g, rfl, Lib.hid ⟨hq.out.1, Nat.le_trans HB.out.size hq.out.2.1, HB.out.trans (hq.out.2.2.mono HB.out.size)⟩⟩

set_option maxRecDepth 100000 in
theorem MustYes_ok (b : Bool) (w : World) : Calls Try.prog 19 #[.agg #[vYes b]] w fun e w' => e = .returned (.bool b) ∧ Below w.heap.size w w' := by
  obtain ⟨w1, hw1⟩ : ∃ w1, w1 = w.alloc (.cells #[vYes b] 35) := ⟨_, rfl⟩
  have HK : Hid (Blk w1 w.heap.size 35 #[vYes b]) := Lib.hid (by rw [hw1]; exact Blk.new w _ _)
  have HB : Hid (Below w.heap.size w w1) := Lib.hid (by rw [hw1]; exact (Below.refl _ w).alloc (Nat.le_refl _) _)
  have k0 : w1.cell? ⟨w.heap.size, 0, none⟩ = some (vYes b) := HK.out.cell 0
  have HM := Lib.hid (fun W => must_ok (VK.yes b) (kindB 3) rfl W)
  have t1 := tb_yes b
  go_enter Try.func19, Try.ntmps19
  go_upto_region 1 with fail
  rw [← hw1]
  clear hw1
  go_wp2_with (go_at_call 43; refine (HM.out _).mono ?_; rintro e w2 ⟨rfl, hb2⟩; have k1 : w2.cell? ⟨w.heap.size, 0, none⟩ = some (vYes b) := (HK.out.below hb2 HK.out.lt).cell 0; have HB2 := Lib.hid (HB.out.trans (hb2.mono HB.out.size)); clear hb2)
  go_ret
  exact ⟨rfl, HB2.out⟩
set_option maxRecDepth 100000 in
theorem MustYes_no {k : Nat} {x : Value} (h : VK k x) (hk : kindB 3 ≠ kindB k) (w : World) : Calls Try.prog 19 #[.agg #[x]] w fun e w' => ∃ g, e = .panicked [{ v := .iface 22 (.pointer (some ⟨g, 0, none⟩)), recovered := false }] ∧ Hid (Blk w' g 44 #[.string (kindB 3), .string (kindB k)] ∧ w.heap.size ≤ g ∧ Below w.heap.size w w') := by
  obtain ⟨w1, hw1⟩ : ∃ w1, w1 = w.alloc (.cells #[x] 35) := ⟨_, rfl⟩
  have HK : Hid (Blk w1 w.heap.size 35 #[x]) := Lib.hid (by rw [hw1]; exact Blk.new w _ _)
  have HB : Hid (Below w.heap.size w w1) := Lib.hid (by rw [hw1]; exact (Below.refl _ w).alloc (Nat.le_refl _) _)
  have k0 : w1.cell? ⟨w.heap.size, 0, none⟩ = some x := HK.out.cell 0
  have HM := Lib.hid (fun W => must_no h (kindB 3) hk W)
  obtain ⟨got, hgot⟩ : ∃ got, got = kindB k := ⟨_, rfl⟩
  rw [← hgot] at HM ⊢
  clear h hk hgot
  go_enter Try.func19, Try.ntmps19
  go_upto_region 1 with fail
  rw [← hw1]
  clear hw1
  go_wp2_with (go_at_call 43; refine (HM.out _).mono ?_; rintro e w2 ⟨g, rfl, hq⟩)
  exact ⟨rfl, g, rfl, Lib.hid ⟨hq.out.1, Nat.le_trans HB.out.size hq.out.2.1, HB.out.trans (hq.out.2.2.mono HB.out.size)⟩⟩

set_option maxRecDepth 100000 in
set_option maxHeartbeats 2000000 in
theorem only_any {k : Nat} {x : Value} (h : VK k x) (may : Bool) (w : World) : Calls Try.prog 48 #[.agg #[x], .bool may] w fun e w' => e = .returned (.tuple #[.agg #[if may then x else .nilIface], .int .i64 (if may then 0 else 3)]) ∧ Below w.heap.size w w' := by
  obtain ⟨w1, hw1⟩ : ∃ w1, w1 = w.alloc (.cells #[x] 35) := ⟨_, rfl⟩
  have hz1 : w1.heap.size = w.heap.size + 1 := by rw [hw1]; simp
  obtain ⟨w2, hw2⟩ : ∃ w2, w2 = w1.alloc (.cells #[.nilIface] 35) := ⟨_, rfl⟩
  have HK : Hid (Blk w2 w.heap.size 35 #[x]) := Lib.hid (by rw [hw2, hw1]; exact (Blk.new w _ _).alloc _)
  have HL : Hid (Blk w2 (w.heap.size + 1) 35 #[.nilIface]) := Lib.hid (by rw [hw2, ← hz1]; exact Blk.new w1 _ _)
  have HB : Hid (Below w.heap.size w w2) := Lib.hid (by rw [hw2, hw1]; exact ((Below.refl _ w).alloc (Nat.le_refl _) _).alloc (by simp) _)
  have k0 : w2.cell? ⟨w.heap.size, 0, none⟩ = some x := HK.out.cell 0
  have k1 : w2.cell? ⟨w.heap.size + 1, 0, none⟩ = some .nilIface := HL.out.cell 0
  have k2 : w2.frozen? ⟨w.heap.size + 1, 0, none⟩ = false := HL.out.frozen 0
  cases may with
  | false =>
    go_enter Try.func48, Try.ntmps48
    go_upto_region 1 with fail
    rw [← hw1, ← hw2]
    clear hw1 hw2 hz1
    go_wp2_with fail
    refine ret_val2 Try.results48 (w.heap.size + 1) #[.nilIface] (HL.out.set_ 0 _) rfl rfl rfl ⟨rfl, HB.out.setCell (by simp) _⟩
  | true =>
    go_enter Try.func48, Try.ntmps48
    go_upto_region 1 with fail
    rw [← hw1, ← hw2]
    clear hw1 hw2 hz1
    cases h with
    | none =>
      go_wp2_with fail
      refine ret_val2 Try.results48 (w.heap.size + 1) #[.nilIface] (HL.out.set_ 0 _) rfl rfl rfl ⟨rfl, HB.out.setCell (by simp) _⟩
    | text s =>
      unfold vText at k0 ⊢
      go_wp2_with fail
      refine ret_val2 Try.results48 (w.heap.size + 1) #[(vText s)] (HL.out.set_ 0 _) rfl rfl rfl ⟨rfl, HB.out.setCell (by simp) _⟩
    | count n =>
      unfold vCount at k0 ⊢
      go_wp2_with fail
      refine ret_val2 Try.results48 (w.heap.size + 1) #[(vCount n)] (HL.out.set_ 0 _) rfl rfl rfl ⟨rfl, HB.out.setCell (by simp) _⟩
    | yes b =>
      unfold vYes at k0 ⊢
      go_wp2_with fail
      refine ret_val2 Try.results48 (w.heap.size + 1) #[(vYes b)] (HL.out.set_ 0 _) rfl rfl rfl ⟨rfl, HB.out.setCell (by simp) _⟩
    | clauses A n c =>
      unfold vClauses at k0 ⊢
      go_wp2_with fail
      refine ret_val2 Try.results48 (w.heap.size + 1) #[(vClauses (.slice A n c))] (HL.out.set_ 0 _) rfl rfl rfl ⟨rfl, HB.out.setCell (by simp) _⟩
    | atoms A n c =>
      unfold vAtoms at k0 ⊢
      go_wp2_with fail
      refine ret_val2 Try.results48 (w.heap.size + 1) #[(vAtoms (.slice A n c))] (HL.out.set_ 0 _) rfl rfl rfl ⟨rfl, HB.out.setCell (by simp) _⟩
    | provides A n c =>
      unfold vProvides at k0 ⊢
      go_wp2_with fail
      refine ret_val2 Try.results48 (w.heap.size + 1) #[(vProvides (.slice A n c))] (HL.out.set_ 0 _) rfl rfl rfl ⟨rfl, HB.out.setCell (by simp) _⟩
end Go.Proofs.Ytjkaigfpjebfbaa
