/- Put together: value.Try: its deferred closure; value.Try; chandlerlaw8.out; (*Wrong).Error; must, MustText, MustCount, MustYes; (*value.Wrong).Error; value.must, MustText, MustCount, MustYes; only; MustText, MustCount, MustYes; only; a yes that is read; awake. -/
import Derived.Test.YtjkaigfpjebfbaaGreatDoorVb
import Derived.Test.YtjkaigfpjebfbaaGreatDoorVf2
import Derived.Recover
import Derived.WalkLawsBesides
import Derived.BigQuiet
/- value.Try: its deferred closure. -/
namespace Go.Proofs.YtjkaigfpjebfbaaGreatDoor
open Go.RowKit
set_option linter.unusedVariables false

theorem ta_wrong (p : Option Addr) (w : World) : (Instr.typeAssert (.iface 52 (.pointer p)) 20 52 true).run Tryz.prog w = .ok (.tuple #[.pointer p, .bool true]) w := by kernel_rfl
theorem ta_other (s : ByteArray) (w : World) : (Instr.typeAssert (.iface 9 (.string s)) 20 52 true).run Tryz.prog w = .ok (.tuple #[.pointer none, .bool false]) w := by kernel_rfl
theorem eq_nil (w : World) : (binOp .eql 20 .nilIface .nilIface).run Tryz.prog w = .ok (.bool true) w := by kernel_rfl
theorem eq_some (t : TypeId) (v : Value) (w : World) : (binOp .eql 20 (.iface t v) .nilIface).run Tryz.prog w = .ok (.bool false) w := by kernel_rfl
theorem arr20 (p v : Value) : #[p] ++ ((Array.replicate 19 undef).setIfInBounds 3 v).setIfInBounds 0 v = #[p, v, undef, undef, v, undef, undef, undef, undef, undef, undef, undef, undef, undef, undef, undef, undef, undef, undef, undef] := by kernel_rfl
set_option maxRecDepth 100000 in
set_option maxHeartbeats 1000000 in
theorem catch_idle (p : Addr) (w : World) :
    CallsD Tryz.prog 48 #[.pointer (some p)] .returning w fun e u' w' => e = .returned (.tuple #[]) ∧ u' = .returning ∧ w' = w := by
  refine callsD_of_wpS Tryz.func48 rfl fun c₀ cs hu => ?_
  have e0 := eq_nil
  apply wpS_seq
  apply wpS_region
  simp [wpOpsS, go_sem, recoverD, hu, Tryz.ntmps48, Exit.thenS]
  rw [arr20]
  refine wpS_of_wp ?_
  go_wp2
  cases c₀
  simp_all [bodyPostS, results, Tryz.results48]
set_option maxRecDepth 100000 in
set_option maxHeartbeats 1000000 in
theorem catch_wrong (p : Addr) (a : Addr) (x : Value) (older : List PanicEntry) (w : World) (hc : w.cell? p = some x) (hz : w.frozen? p = false) :
    CallsD Tryz.prog 48 #[.pointer (some p)] (.panicking ({ v := .iface 52 (.pointer (some a)), recovered := false } :: older)) w fun e u' w' =>
      e = .returned (.tuple #[]) ∧ u' = .panicking ({ v := .iface 52 (.pointer (some a)), recovered := true } :: older) ∧ w' = w.setCell p (.pointer (some a)) := by
  refine callsD_of_wpS Tryz.func48 rfl fun c₀ cs hu => ?_
  have e0 := eq_some 52 (.pointer (some a))
  have e1 := ta_wrong (some a)
  apply wpS_seq
  apply wpS_region
  simp [wpOpsS, go_sem, recoverD, hu, Tryz.ntmps48, Exit.thenS]
  rw [arr20]
  refine wpS_of_wp ?_
  go_wp2
  simp [bodyPostS, results, Tryz.results48]
set_option maxRecDepth 100000 in
set_option maxHeartbeats 1000000 in
theorem catch_other (p : Addr) (t : ByteArray) (older : List PanicEntry) (w : World) :
    CallsD Tryz.prog 48 #[.pointer (some p)] (.panicking ({ v := .iface 9 (.string t), recovered := false } :: older)) w fun e u' w' =>
      e = .panicked [{ v := .iface 9 (.string t), recovered := false }] ∧ u' = .panicking ({ v := .iface 9 (.string t), recovered := true } :: older) ∧ w' = w := by
  refine callsD_of_wpS Tryz.func48 rfl fun c₀ cs hu => ?_
  have e0 := eq_some 9 (.string t)
  have e1 := ta_other t
  apply wpS_seq
  apply wpS_region
  simp [wpOpsS, go_sem, recoverD, hu, Tryz.ntmps48, Exit.thenS]
  rw [arr20]
  refine wpS_of_wp ?_
  go_wp2
  simp [bodyPostS]
end Go.Proofs.YtjkaigfpjebfbaaGreatDoor
/- value.Try. -/
namespace Go.Proofs.YtjkaigfpjebfbaaGreatDoor
open Go.RowKit
set_option linter.unusedVariables false

theorem fn_nil (w : World) : (binOp .eql 1 .nilFunc .nilFunc).run Tryz.prog w = .ok (.bool true) w := by kernel_rfl
theorem fn_some (F : FuncId) (caps : Array Value) (w : World) : (binOp .eql 1 (.func (Fn.func F) #[] caps) .nilFunc).run Tryz.prog w = .ok (.bool false) w := by kernel_rfl
set_option maxRecDepth 100000 in
set_option maxHeartbeats 1000000 in
theorem Try_nil (w : World) : Calls Tryz.prog 18 #[.nilFunc] w fun e w' => e = .returned (.pointer none) ∧ Below w.heap.size w w' := by
  have hb := (Below.refl w.heap.size w).alloc (Nat.le_refl _) (.cells #[.pointer none] 52)
  have HB := Lib.hid hb
  clear hb
  have e0 := fn_nil
  have hmf := mf_any
  go_enter_defers Tryz.func18, Tryz.ntmps18
  go_wp2
  simp [bodyPostD, Leaves, results, Tryz.results18, go_sem]
  exact HB.out
set_option maxRecDepth 100000 in
set_option maxHeartbeats 1000000 in
theorem Try_ret (F : FuncId) (caps : Array Value) (w : World) (Q : World → Prop) (hent : ∀ (a : Array Value) (W : World), (callFunc F a).run Tryz.prog W = .ok (.enter F a) W) (hF : Calls Tryz.prog F caps (w.alloc (.cells #[.pointer none] 52)) fun e w' => e = .returned (.tuple #[]) ∧ Q w')
    (hQ : ∀ w', Q w' → w'.cell? ⟨w.heap.size, 0, none⟩ = some (.pointer none) ∧ w'.frozen? ⟨w.heap.size, 0, none⟩ = false) :
    Calls Tryz.prog 18 #[.func (Fn.func F) #[] caps] w fun e w' => e = .returned (.pointer none) ∧ ∃ w1, Q w1 ∧ w' = w1.setCell ⟨w.heap.size, 0, none⟩ (.pointer none) := by
  have HF := Lib.hid hF
  have HQ := Lib.hid hQ
  clear hF hQ
  have e0 := fn_some F caps
  have hmf := mf_any
  go_enter_defers Tryz.func18, Tryz.ntmps18
  go_wp2
  refine HF.out.mono ?_
  rintro e w1 ⟨rfl, hq⟩
  have hc := (HQ.out _ hq).1
  have hz := (HQ.out _ hq).2
  go_wp2
  refine leaves_cons (f := 48) (args := #[.pointer (some ⟨w.heap.size, 0, none⟩)]) (by simp) (by simp [go_sem]) ?_
  refine (catch_idle ⟨w.heap.size, 0, none⟩ _).mono ?_
  rintro e u' w'' ⟨rfl, rfl, rfl⟩
  have hc2 : (w1.setCell ⟨w.heap.size, 0, none⟩ (.pointer none)).cell? ⟨w.heap.size, 0, none⟩ = some (.pointer none) := World.cell?_setCell_same _ _ _ hc
  simp [Leaves, settle, results, Tryz.results18, go_sem, hc2]
  exact ⟨_, hq, rfl⟩
set_option maxRecDepth 100000 in
set_option maxHeartbeats 1000000 in
/-- A function that panics with a *Wrong: it is handed back. -/
theorem Try_wrong (F : FuncId) (caps : Array Value) (w : World) (Q : Addr → World → Prop) (hent : ∀ (a : Array Value) (W : World), (callFunc F a).run Tryz.prog W = .ok (.enter F a) W) (hF : Calls Tryz.prog F caps (w.alloc (.cells #[.pointer none] 52)) fun e w' => ∃ a, e = .panicked [{ v := .iface 52 (.pointer (some a)), recovered := false }] ∧ Q a w')
    (hQ : ∀ a w', Q a w' → w'.cell? ⟨w.heap.size, 0, none⟩ = some (.pointer none) ∧ w'.frozen? ⟨w.heap.size, 0, none⟩ = false) :
    Calls Tryz.prog 18 #[.func (Fn.func F) #[] caps] w fun e w' => ∃ a w1, e = .returned (.pointer (some a)) ∧ Q a w1 ∧ w' = w1.setCell ⟨w.heap.size, 0, none⟩ (.pointer (some a)) := by
  have HF := Lib.hid hF
  have HQ := Lib.hid hQ
  clear hF hQ
  have e0 := fn_some F caps
  have hmf := mf_any
  go_enter_defers Tryz.func18, Tryz.ntmps18
  go_wp2
  refine HF.out.mono ?_
  rintro e w1 ⟨a, rfl, hq⟩
  have hc := (HQ.out _ _ hq).1
  have hz := (HQ.out _ _ hq).2
  go_wp2
  refine leaves_cons (f := 48) (args := #[.pointer (some ⟨w.heap.size, 0, none⟩)]) (by simp) (by simp [go_sem]) ?_
  refine (catch_wrong ⟨w.heap.size, 0, none⟩ a _ [] _ hc hz).mono ?_
  rintro e u' w'' ⟨rfl, rfl, rfl⟩
  have hc2 : (w1.setCell ⟨w.heap.size, 0, none⟩ (.pointer (some a))).cell? ⟨w.heap.size, 0, none⟩ = some (.pointer (some a)) := World.cell?_setCell_same _ _ _ hc
  simp [Leaves, settle, results, Tryz.results18, go_sem, hc2]
  exact ⟨_, hq, rfl⟩
set_option maxRecDepth 100000 in
set_option maxHeartbeats 1000000 in
/-- A function that panics with a text: that goes on. -/
theorem Try_other (F : FuncId) (caps : Array Value) (w : World) (t : ByteArray) (Q : World → Prop) (hent : ∀ (a : Array Value) (W : World), (callFunc F a).run Tryz.prog W = .ok (.enter F a) W) (hF : Calls Tryz.prog F caps (w.alloc (.cells #[.pointer none] 52)) fun e w' => e = .panicked [{ v := .iface 9 (.string t), recovered := false }] ∧ Q w') :
    Calls Tryz.prog 18 #[.func (Fn.func F) #[] caps] w fun e w' => e = .panicked [{ v := .iface 9 (.string t), recovered := false }, { v := .iface 9 (.string t), recovered := true }] ∧ Q w' := by
  have HF := Lib.hid hF
  clear hF
  have e0 := fn_some F caps
  have hmf := mf_any
  go_enter_defers Tryz.func18, Tryz.ntmps18
  go_wp2
  refine HF.out.mono ?_
  rintro e w1 ⟨rfl, hq⟩
  go_wp2
  refine leaves_cons (f := 48) (args := #[.pointer (some ⟨w.heap.size, 0, none⟩)]) (by simp) (by simp [go_sem]) ?_
  refine (catch_other ⟨w.heap.size, 0, none⟩ t [] _).mono ?_
  rintro e u' w'' ⟨rfl, rfl, rfl⟩
  simp [Leaves, raised]
  exact hq
end Go.Proofs.YtjkaigfpjebfbaaGreatDoor
/- chandlerlaw8.out; (*Wrong).Error; must, MustText, MustCount, MustYes. -/
namespace Go.Proofs.YtjkaigfpjebfbaaGreatDoor
open Go.RowKit
set_option linter.unusedVariables false

theorem arr10 (p i tp s b : Value) : #[p] ++ (((((((Array.replicate 9 undef).setIfInBounds 3 i).setIfInBounds 4 tp).setIfInBounds 2 tp).setIfInBounds 5 s).setIfInBounds 6 b).setIfInBounds 0 s).setIfInBounds 1 b = #[p, s, b, tp, i, tp, s, b, undef, undef] := by kernel_rfl
end Go.Proofs.YtjkaigfpjebfbaaGreatDoor
/- (*value.Wrong).Error; value.must, MustText, MustCount, MustYes; only. -/
namespace Go.Proofs.YtjkaigfpjebfbaaGreatDoor
open Go.RowKit
set_option linter.unusedVariables false

set_option maxRecDepth 100000 in
set_option maxHeartbeats 1000000 in
theorem must_ok {k : Nat} {x : Value} (h : VK k x) (want : ByteArray) (hw : want = kindB k) (w : World) : Calls Tryz.prog 49 #[.agg #[x], .string want] w fun e w' => e = .returned (.tuple #[]) ∧ Below w.heap.size w w' := by
  have HK := Lib.hid (fun W => Kind_any h W)
  have k0 : (w.alloc (.cells #[x] 30)).cell? ⟨w.heap.size, 0, none⟩ = some x := (Blk.new w _ _).cell 0
  have HB := Lib.hid ((Below.refl w.heap.size w).alloc (Nat.le_refl _) (.cells #[x] 30))
  have q1 : (want.toList == want.toList) = true := by simp
  rw [← hw] at HK
  clear hw h
  go_enter Tryz.func49, Tryz.ntmps49
  go_wp2_with (go_at_call 11; refine (HK.out _).mono ?_; rintro e w1 ⟨rfl, hb1⟩)
  go_end0
  exact ⟨rfl, HB.out.trans (hb1.mono HB.out.size)⟩
set_option maxRecDepth 100000 in
set_option maxHeartbeats 1000000 in
theorem must_no {k : Nat} {x : Value} (h : VK k x) (want : ByteArray) (hw : want ≠ kindB k) (w : World) : Calls Tryz.prog 49 #[.agg #[x], .string want] w fun e w' => ∃ g, e = .panicked [{ v := .iface 52 (.pointer (some ⟨g, 0, none⟩)), recovered := false }] ∧ Hid (Blk w' g 59 #[.string want, .string (kindB k)] ∧ w.heap.size ≤ g ∧ Below w.heap.size w w') := by
  have HK := Lib.hid (fun W => Kind_any h W)
  have k0 : (w.alloc (.cells #[x] 30)).cell? ⟨w.heap.size, 0, none⟩ = some x := (Blk.new w _ _).cell 0
  have HB := Lib.hid ((Below.refl w.heap.size w).alloc (Nat.le_refl _) (.cells #[x] 30))
  obtain ⟨got, hgot⟩ : ∃ got, got = kindB k := ⟨_, rfl⟩
  rw [← hgot] at HK hw ⊢
  have q1 : (got.toList == want.toList) = false := by rw [str_eq, decide_eq_false_iff_not]; exact fun e => hw e.symm
  clear hw h hgot
  go_enter Tryz.func49, Tryz.ntmps49
  go_wp2_with (go_at_call 11; refine (HK.out _).mono ?_; rintro e w1 ⟨rfl, hb1⟩; have HB1 := Lib.hid (HB.out.trans (hb1.mono HB.out.size)); clear hb1)
  exact ⟨rfl, w1.heap.size, rfl, Lib.hid ⟨Blk.new w1 _ _, HB1.out.size, HB1.out.alloc HB1.out.size _⟩⟩
end Go.Proofs.YtjkaigfpjebfbaaGreatDoor
/- MustText, MustCount, MustYes; only; a yes that is read; awake. -/
namespace Go.Proofs.YtjkaigfpjebfbaaGreatDoor
open Go.RowKit
set_option linter.unusedVariables false

set_option maxRecDepth 100000 in
theorem MustText_ok (s : ByteArray) (w : World) : Calls Tryz.prog 20 #[.agg #[vText s]] w fun e w' => e = .returned (.string s) ∧ Below w.heap.size w w' := by
  obtain ⟨w1, hw1⟩ : ∃ w1, w1 = w.alloc (.cells #[vText s] 30) := ⟨_, rfl⟩
  have HK : Hid (Blk w1 w.heap.size 30 #[vText s]) := Lib.hid (by rw [hw1]; exact Blk.new w _ _)
  have HB : Hid (Below w.heap.size w w1) := Lib.hid (by rw [hw1]; exact (Below.refl _ w).alloc (Nat.le_refl _) _)
  have k0 : w1.cell? ⟨w.heap.size, 0, none⟩ = some (vText s) := HK.out.cell 0
  have HM := Lib.hid (fun W => must_ok (VK.text s) (kindB 1) rfl W)
  have t1 := tb_text s
  go_enter Tryz.func20, Tryz.ntmps20
  go_upto_region 1 with fail
  rw [← hw1]
  clear hw1
  go_wp2_with (go_at_call 49; refine (HM.out _).mono ?_; rintro e w2 ⟨rfl, hb2⟩; have k1 : w2.cell? ⟨w.heap.size, 0, none⟩ = some (vText s) := (HK.out.below hb2 HK.out.lt).cell 0; have HB2 := Lib.hid (HB.out.trans (hb2.mono HB.out.size)); clear hb2)
  go_ret
  exact ⟨rfl, HB2.out⟩
set_option maxRecDepth 100000 in
theorem MustText_no {k : Nat} {x : Value} (h : VK k x) (hk : kindB 1 ≠ kindB k) (w : World) : Calls Tryz.prog 20 #[.agg #[x]] w fun e w' => ∃ g, e = .panicked [{ v := .iface 52 (.pointer (some ⟨g, 0, none⟩)), recovered := false }] ∧ Hid (Blk w' g 59 #[.string (kindB 1), .string (kindB k)] ∧ w.heap.size ≤ g ∧ Below w.heap.size w w') := by
  obtain ⟨w1, hw1⟩ : ∃ w1, w1 = w.alloc (.cells #[x] 30) := ⟨_, rfl⟩
  have HK : Hid (Blk w1 w.heap.size 30 #[x]) := Lib.hid (by rw [hw1]; exact Blk.new w _ _)
  have HB : Hid (Below w.heap.size w w1) := Lib.hid (by rw [hw1]; exact (Below.refl _ w).alloc (Nat.le_refl _) _)
  have k0 : w1.cell? ⟨w.heap.size, 0, none⟩ = some x := HK.out.cell 0
  have HM := Lib.hid (fun W => must_no h (kindB 1) hk W)
  obtain ⟨got, hgot⟩ : ∃ got, got = kindB k := ⟨_, rfl⟩
  rw [← hgot] at HM ⊢
  clear h hk hgot
  go_enter Tryz.func20, Tryz.ntmps20
  go_upto_region 1 with fail
  rw [← hw1]
  clear hw1
  go_wp2_with (go_at_call 49; refine (HM.out _).mono ?_; rintro e w2 ⟨g, rfl, hq⟩)
  exact ⟨rfl, g, rfl, Lib.hid ⟨hq.out.1, Nat.le_trans HB.out.size hq.out.2.1, HB.out.trans (hq.out.2.2.mono HB.out.size)⟩⟩

set_option maxRecDepth 100000 in
theorem MustCount_ok (n : Int) (w : World) : Calls Tryz.prog 22 #[.agg #[vCount n]] w fun e w' => e = .returned (.int .i64 n) ∧ Below w.heap.size w w' := by
  obtain ⟨w1, hw1⟩ : ∃ w1, w1 = w.alloc (.cells #[vCount n] 30) := ⟨_, rfl⟩
  have HK : Hid (Blk w1 w.heap.size 30 #[vCount n]) := Lib.hid (by rw [hw1]; exact Blk.new w _ _)
  have HB : Hid (Below w.heap.size w w1) := Lib.hid (by rw [hw1]; exact (Below.refl _ w).alloc (Nat.le_refl _) _)
  have k0 : w1.cell? ⟨w.heap.size, 0, none⟩ = some (vCount n) := HK.out.cell 0
  have HM := Lib.hid (fun W => must_ok (VK.count n) (kindB 2) rfl W)
  have t1 := tb_count n
  go_enter Tryz.func22, Tryz.ntmps22
  go_upto_region 1 with fail
  rw [← hw1]
  clear hw1
  go_wp2_with (go_at_call 49; refine (HM.out _).mono ?_; rintro e w2 ⟨rfl, hb2⟩; have k1 : w2.cell? ⟨w.heap.size, 0, none⟩ = some (vCount n) := (HK.out.below hb2 HK.out.lt).cell 0; have HB2 := Lib.hid (HB.out.trans (hb2.mono HB.out.size)); clear hb2)
  go_ret
  exact ⟨rfl, HB2.out⟩
set_option maxRecDepth 100000 in
theorem MustCount_no {k : Nat} {x : Value} (h : VK k x) (hk : kindB 2 ≠ kindB k) (w : World) : Calls Tryz.prog 22 #[.agg #[x]] w fun e w' => ∃ g, e = .panicked [{ v := .iface 52 (.pointer (some ⟨g, 0, none⟩)), recovered := false }] ∧ Hid (Blk w' g 59 #[.string (kindB 2), .string (kindB k)] ∧ w.heap.size ≤ g ∧ Below w.heap.size w w') := by
  obtain ⟨w1, hw1⟩ : ∃ w1, w1 = w.alloc (.cells #[x] 30) := ⟨_, rfl⟩
  have HK : Hid (Blk w1 w.heap.size 30 #[x]) := Lib.hid (by rw [hw1]; exact Blk.new w _ _)
  have HB : Hid (Below w.heap.size w w1) := Lib.hid (by rw [hw1]; exact (Below.refl _ w).alloc (Nat.le_refl _) _)
  have k0 : w1.cell? ⟨w.heap.size, 0, none⟩ = some x := HK.out.cell 0
  have HM := Lib.hid (fun W => must_no h (kindB 2) hk W)
  obtain ⟨got, hgot⟩ : ∃ got, got = kindB k := ⟨_, rfl⟩
  rw [← hgot] at HM ⊢
  clear h hk hgot
  go_enter Tryz.func22, Tryz.ntmps22
  go_upto_region 1 with fail
  rw [← hw1]
  clear hw1
  go_wp2_with (go_at_call 49; refine (HM.out _).mono ?_; rintro e w2 ⟨g, rfl, hq⟩)
  exact ⟨rfl, g, rfl, Lib.hid ⟨hq.out.1, Nat.le_trans HB.out.size hq.out.2.1, HB.out.trans (hq.out.2.2.mono HB.out.size)⟩⟩

set_option maxRecDepth 100000 in
set_option maxHeartbeats 2000000 in
theorem only_any {k : Nat} {x : Value} (h : VK k x) (may : Bool) (w : World) : Calls Tryz.prog 37 #[.agg #[x], .bool may] w fun e w' => e = .returned (.tuple #[.agg #[if may then x else .nilIface], .int .i64 (if may then 0 else 3)]) ∧ Below w.heap.size w w' := by
  obtain ⟨w1, hw1⟩ : ∃ w1, w1 = w.alloc (.cells #[x] 30) := ⟨_, rfl⟩
  have hz1 : w1.heap.size = w.heap.size + 1 := by rw [hw1]; simp
  obtain ⟨w2, hw2⟩ : ∃ w2, w2 = w1.alloc (.cells #[.nilIface] 30) := ⟨_, rfl⟩
  have HK : Hid (Blk w2 w.heap.size 30 #[x]) := Lib.hid (by rw [hw2, hw1]; exact (Blk.new w _ _).alloc _)
  have HL : Hid (Blk w2 (w.heap.size + 1) 30 #[.nilIface]) := Lib.hid (by rw [hw2, ← hz1]; exact Blk.new w1 _ _)
  have HB : Hid (Below w.heap.size w w2) := Lib.hid (by rw [hw2, hw1]; exact ((Below.refl _ w).alloc (Nat.le_refl _) _).alloc (by simp) _)
  have k0 : w2.cell? ⟨w.heap.size, 0, none⟩ = some x := HK.out.cell 0
  have k1 : w2.cell? ⟨w.heap.size + 1, 0, none⟩ = some .nilIface := HL.out.cell 0
  have k2 : w2.frozen? ⟨w.heap.size + 1, 0, none⟩ = false := HL.out.frozen 0
  cases may with
  | false =>
    go_enter Tryz.func37, Tryz.ntmps37
    go_upto_region 1 with fail
    rw [← hw1, ← hw2]
    clear hw1 hw2 hz1
    go_wp2_with fail
    refine ret_val2 Tryz.results37 (w.heap.size + 1) #[.nilIface] (HL.out.set_ 0 _) rfl rfl rfl ⟨rfl, HB.out.setCell (by simp) _⟩
  | true =>
    go_enter Tryz.func37, Tryz.ntmps37
    go_upto_region 1 with fail
    rw [← hw1, ← hw2]
    clear hw1 hw2 hz1
    cases h with
    | none =>
      go_wp2_with fail
      refine ret_val2 Tryz.results37 (w.heap.size + 1) #[.nilIface] (HL.out.set_ 0 _) rfl rfl rfl ⟨rfl, HB.out.setCell (by simp) _⟩
    | text s =>
      unfold vText at k0 ⊢
      go_wp2_with fail
      refine ret_val2 Tryz.results37 (w.heap.size + 1) #[(vText s)] (HL.out.set_ 0 _) rfl rfl rfl ⟨rfl, HB.out.setCell (by simp) _⟩
    | count n =>
      unfold vCount at k0 ⊢
      go_wp2_with fail
      refine ret_val2 Tryz.results37 (w.heap.size + 1) #[(vCount n)] (HL.out.set_ 0 _) rfl rfl rfl ⟨rfl, HB.out.setCell (by simp) _⟩
    | yes b =>
      unfold vYes at k0 ⊢
      go_wp2_with fail
      refine ret_val2 Tryz.results37 (w.heap.size + 1) #[(vYes b)] (HL.out.set_ 0 _) rfl rfl rfl ⟨rfl, HB.out.setCell (by simp) _⟩
    | clauses A n c =>
      unfold vClauses at k0 ⊢
      go_wp2_with fail
      refine ret_val2 Tryz.results37 (w.heap.size + 1) #[(vClauses (.slice A n c))] (HL.out.set_ 0 _) rfl rfl rfl ⟨rfl, HB.out.setCell (by simp) _⟩
    | atoms A n c =>
      unfold vAtoms at k0 ⊢
      go_wp2_with fail
      refine ret_val2 Tryz.results37 (w.heap.size + 1) #[(vAtoms (.slice A n c))] (HL.out.set_ 0 _) rfl rfl rfl ⟨rfl, HB.out.setCell (by simp) _⟩
    | provides A n c =>
      unfold vProvides at k0 ⊢
      go_wp2_with fail
      refine ret_val2 Tryz.results37 (w.heap.size + 1) #[(vProvides (.slice A n c))] (HL.out.set_ 0 _) rfl rfl rfl ⟨rfl, HB.out.setCell (by simp) _⟩
end Go.Proofs.YtjkaigfpjebfbaaGreatDoor
