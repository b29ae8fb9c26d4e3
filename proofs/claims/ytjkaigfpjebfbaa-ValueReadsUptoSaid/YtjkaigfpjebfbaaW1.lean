/- Put together: value.Try: its deferred closure; value.Try; chandlerlaw8.out; (*Wrong).Error; must, MustText, MustCount, MustYes; (*value.Wrong).Error; value.must, MustText, MustCount, MustYes; only; MustText, MustCount, MustYes; only; a yes that is read; awake. -/
import Derived.Test.YtjkaigfpjebfbaaVb
import Derived.Test.YtjkaigfpjebfbaaVf2
import Derived.Recover
import Derived.WalkLawsBesides
import Derived.BigQuiet
/- value.Try: its deferred closure. -/
namespace Go.Proofs.Ytjkaigfpjebfbaa
open Go.RowKit
set_option linter.unusedVariables false

theorem ta_wrong (p : Option Addr) (w : World) : (Instr.typeAssert (.iface 22 (.pointer p)) 20 22 true).run Try.prog w = .ok (.tuple #[.pointer p, .bool true]) w := by kernel_rfl
theorem ta_other (s : ByteArray) (w : World) : (Instr.typeAssert (.iface 9 (.string s)) 20 22 true).run Try.prog w = .ok (.tuple #[.pointer none, .bool false]) w := by kernel_rfl
theorem eq_nil (w : World) : (binOp .eql 20 .nilIface .nilIface).run Try.prog w = .ok (.bool true) w := by kernel_rfl
theorem eq_some (t : TypeId) (v : Value) (w : World) : (binOp .eql 20 (.iface t v) .nilIface).run Try.prog w = .ok (.bool false) w := by kernel_rfl
theorem arr20 (p v : Value) : #[p] ++ ((Array.replicate 19 undef).setIfInBounds 3 v).setIfInBounds 0 v = #[p, v, undef, undef, v, undef, undef, undef, undef, undef, undef, undef, undef, undef, undef, undef, undef, undef, undef, undef] := by kernel_rfl
set_option maxRecDepth 100000 in
set_option maxHeartbeats 1000000 in
theorem catch_idle (p : Addr) (w : World) :
    CallsD Try.prog 33 #[.pointer (some p)] .returning w fun e u' w' => e = .returned (.tuple #[]) ∧ u' = .returning ∧ w' = w := by
  refine callsD_of_wpS Try.func33 rfl fun c₀ cs hu => ?_
  have e0 := eq_nil
  apply wpS_seq
  apply wpS_region
  simp [wpOpsS, go_sem, recoverD, hu, Try.ntmps33, Exit.thenS]
  rw [arr20]
  refine wpS_of_wp ?_
  go_wp2
  cases c₀
  simp_all [bodyPostS, results, Try.results33]
set_option maxRecDepth 100000 in
set_option maxHeartbeats 1000000 in
theorem catch_wrong (p : Addr) (a : Addr) (x : Value) (older : List PanicEntry) (w : World) (hc : w.cell? p = some x) (hz : w.frozen? p = false) :
    CallsD Try.prog 33 #[.pointer (some p)] (.panicking ({ v := .iface 22 (.pointer (some a)), recovered := false } :: older)) w fun e u' w' =>
      e = .returned (.tuple #[]) ∧ u' = .panicking ({ v := .iface 22 (.pointer (some a)), recovered := true } :: older) ∧ w' = w.setCell p (.pointer (some a)) := by
  refine callsD_of_wpS Try.func33 rfl fun c₀ cs hu => ?_
  have e0 := eq_some 22 (.pointer (some a))
  have e1 := ta_wrong (some a)
  apply wpS_seq
  apply wpS_region
  simp [wpOpsS, go_sem, recoverD, hu, Try.ntmps33, Exit.thenS]
  rw [arr20]
  refine wpS_of_wp ?_
  go_wp2
  simp [bodyPostS, results, Try.results33]
set_option maxRecDepth 100000 in
set_option maxHeartbeats 1000000 in
theorem catch_other (p : Addr) (t : ByteArray) (older : List PanicEntry) (w : World) :
    CallsD Try.prog 33 #[.pointer (some p)] (.panicking ({ v := .iface 9 (.string t), recovered := false } :: older)) w fun e u' w' =>
      e = .panicked [{ v := .iface 9 (.string t), recovered := false }] ∧ u' = .panicking ({ v := .iface 9 (.string t), recovered := true } :: older) ∧ w' = w := by
  refine callsD_of_wpS Try.func33 rfl fun c₀ cs hu => ?_
  have e0 := eq_some 9 (.string t)
  have e1 := ta_other t
  apply wpS_seq
  apply wpS_region
  simp [wpOpsS, go_sem, recoverD, hu, Try.ntmps33, Exit.thenS]
  rw [arr20]
  refine wpS_of_wp ?_
  go_wp2
  simp [bodyPostS]
end Go.Proofs.Ytjkaigfpjebfbaa
/- value.Try. -/
namespace Go.Proofs.Ytjkaigfpjebfbaa
open Go.RowKit
set_option linter.unusedVariables false

theorem fn_nil (w : World) : (binOp .eql 1 .nilFunc .nilFunc).run Try.prog w = .ok (.bool true) w := by kernel_rfl
theorem fn_some (F : FuncId) (caps : Array Value) (w : World) : (binOp .eql 1 (.func (Fn.func F) #[] caps) .nilFunc).run Try.prog w = .ok (.bool false) w := by kernel_rfl
set_option maxRecDepth 100000 in
set_option maxHeartbeats 1000000 in
theorem Try_nil (w : World) : Calls Try.prog 7 #[.nilFunc] w fun e w' => e = .returned (.pointer none) ∧ Below w.heap.size w w' := by
  have hb := (Below.refl w.heap.size w).alloc (Nat.le_refl _) (.cells #[.pointer none] 22)
  have HB := Lib.hid hb
  clear hb
  have e0 := fn_nil
  have hmf := mf_any
  go_enter_defers Try.func7, Try.ntmps7
  go_wp2
  simp [bodyPostD, Leaves, results, Try.results7, go_sem]
  exact HB.out
set_option maxRecDepth 100000 in
set_option maxHeartbeats 1000000 in
theorem Try_ret (F : FuncId) (caps : Array Value) (w : World) (Q : World → Prop) (hent : ∀ (a : Array Value) (W : World), (callFunc F a).run Try.prog W = .ok (.enter F a) W) (hF : Calls Try.prog F caps (w.alloc (.cells #[.pointer none] 22)) fun e w' => e = .returned (.tuple #[]) ∧ Q w')
    (hQ : ∀ w', Q w' → w'.cell? ⟨w.heap.size, 0, none⟩ = some (.pointer none) ∧ w'.frozen? ⟨w.heap.size, 0, none⟩ = false) :
    Calls Try.prog 7 #[.func (Fn.func F) #[] caps] w fun e w' => e = .returned (.pointer none) ∧ ∃ w1, Q w1 ∧ w' = w1.setCell ⟨w.heap.size, 0, none⟩ (.pointer none) := by
  have HF := Lib.hid hF
  have HQ := Lib.hid hQ
  clear hF hQ
  have e0 := fn_some F caps
  have hmf := mf_any
  go_enter_defers Try.func7, Try.ntmps7
  go_wp2
  refine HF.out.mono ?_
  rintro e w1 ⟨rfl, hq⟩
  have hc := (HQ.out _ hq).1
  have hz := (HQ.out _ hq).2
  go_wp2
  refine leaves_cons (f := 33) (args := #[.pointer (some ⟨w.heap.size, 0, none⟩)]) (by simp) (by simp [go_sem]) ?_
  refine (catch_idle ⟨w.heap.size, 0, none⟩ _).mono ?_
  rintro e u' w'' ⟨rfl, rfl, rfl⟩
  have hc2 : (w1.setCell ⟨w.heap.size, 0, none⟩ (.pointer none)).cell? ⟨w.heap.size, 0, none⟩ = some (.pointer none) := World.cell?_setCell_same _ _ _ hc
  simp [Leaves, settle, results, Try.results7, go_sem, hc2]
  exact ⟨_, hq, rfl⟩
set_option maxRecDepth 100000 in
set_option maxHeartbeats 1000000 in
/-- A function that panics with a *Wrong: it is handed back. -/
theorem Try_wrong (F : FuncId) (caps : Array Value) (w : World) (Q : Addr → World → Prop) (hent : ∀ (a : Array Value) (W : World), (callFunc F a).run Try.prog W = .ok (.enter F a) W) (hF : Calls Try.prog F caps (w.alloc (.cells #[.pointer none] 22)) fun e w' => ∃ a, e = .panicked [{ v := .iface 22 (.pointer (some a)), recovered := false }] ∧ Q a w')
    (hQ : ∀ a w', Q a w' → w'.cell? ⟨w.heap.size, 0, none⟩ = some (.pointer none) ∧ w'.frozen? ⟨w.heap.size, 0, none⟩ = false) :
    Calls Try.prog 7 #[.func (Fn.func F) #[] caps] w fun e w' => ∃ a w1, e = .returned (.pointer (some a)) ∧ Q a w1 ∧ w' = w1.setCell ⟨w.heap.size, 0, none⟩ (.pointer (some a)) := by
  have HF := Lib.hid hF
  have HQ := Lib.hid hQ
  clear hF hQ
  have e0 := fn_some F caps
  have hmf := mf_any
  go_enter_defers Try.func7, Try.ntmps7
  go_wp2
  refine HF.out.mono ?_
  rintro e w1 ⟨a, rfl, hq⟩
  have hc := (HQ.out _ _ hq).1
  have hz := (HQ.out _ _ hq).2
  go_wp2
  refine leaves_cons (f := 33) (args := #[.pointer (some ⟨w.heap.size, 0, none⟩)]) (by simp) (by simp [go_sem]) ?_
  refine (catch_wrong ⟨w.heap.size, 0, none⟩ a _ [] _ hc hz).mono ?_
  rintro e u' w'' ⟨rfl, rfl, rfl⟩
  have hc2 : (w1.setCell ⟨w.heap.size, 0, none⟩ (.pointer (some a))).cell? ⟨w.heap.size, 0, none⟩ = some (.pointer (some a)) := World.cell?_setCell_same _ _ _ hc
  simp [Leaves, settle, results, Try.results7, go_sem, hc2]
  exact ⟨_, hq, rfl⟩
set_option maxRecDepth 100000 in
set_option maxHeartbeats 1000000 in
/-- A function that panics with a text: that goes on. -/
theorem Try_other (F : FuncId) (caps : Array Value) (w : World) (t : ByteArray) (Q : World → Prop) (hent : ∀ (a : Array Value) (W : World), (callFunc F a).run Try.prog W = .ok (.enter F a) W) (hF : Calls Try.prog F caps (w.alloc (.cells #[.pointer none] 22)) fun e w' => e = .panicked [{ v := .iface 9 (.string t), recovered := false }] ∧ Q w') :
    Calls Try.prog 7 #[.func (Fn.func F) #[] caps] w fun e w' => e = .panicked [{ v := .iface 9 (.string t), recovered := false }, { v := .iface 9 (.string t), recovered := true }] ∧ Q w' := by
  have HF := Lib.hid hF
  clear hF
  have e0 := fn_some F caps
  have hmf := mf_any
  go_enter_defers Try.func7, Try.ntmps7
  go_wp2
  refine HF.out.mono ?_
  rintro e w1 ⟨rfl, hq⟩
  go_wp2
  refine leaves_cons (f := 33) (args := #[.pointer (some ⟨w.heap.size, 0, none⟩)]) (by simp) (by simp [go_sem]) ?_
  refine (catch_other ⟨w.heap.size, 0, none⟩ t [] _).mono ?_
  rintro e u' w'' ⟨rfl, rfl, rfl⟩
  simp [Leaves, raised]
  exact hq
end Go.Proofs.Ytjkaigfpjebfbaa
/- chandlerlaw8.out; (*Wrong).Error; must, MustText, MustCount, MustYes. -/
namespace Go.Proofs.Ytjkaigfpjebfbaa
open Go.RowKit
set_option linter.unusedVariables false

theorem ent_out : ∀ (args : Array Value) (w : World), (callFunc 35 args).run Try.prog w = .ok (.enter 35 args) w := enters_of Try.func35 (by kernel_rfl) rfl
set_option maxRecDepth 100000 in
theorem out2_any (p : Addr) (s : ByteArray) (w : World) (hp : w.cell? p = some (.string s)) : Calls Try.prog 35 #[.pointer (some p)] w fun e w' => e = .panicked [{ v := .iface 9 (.string s), recovered := false }] ∧ w = w' := by
  go_enter Try.func35, Try.ntmps35
  go_wp2
  exact ⟨rfl, rfl, rfl⟩
theorem arr10 (p i tp s b : Value) : #[p] ++ (((((((Array.replicate 9 undef).setIfInBounds 3 i).setIfInBounds 4 tp).setIfInBounds 2 tp).setIfInBounds 5 s).setIfInBounds 6 b).setIfInBounds 0 s).setIfInBounds 1 b = #[p, s, b, tp, i, tp, s, b, undef, undef] := by kernel_rfl
set_option maxRecDepth 100000 in
set_option maxHeartbeats 1000000 in
theorem out1_any (p : Addr) (t : ByteArray) (x : Value) (older : List PanicEntry) (w : World) (hc : w.cell? p = some x) (hz : w.frozen? p = false) :
    CallsD Try.prog 34 #[.pointer (some p)] (.panicking ({ v := .iface 9 (.string t), recovered := false } :: older)) w fun e u' w' =>
      e = .returned (.tuple #[]) ∧ u' = .panicking ({ v := .iface 9 (.string t), recovered := true } :: older) ∧ w' = w.setCell p (.string t) := by
  refine callsD_of_wpS Try.func34 rfl fun c₀ cs hu => ?_
  have e1 := ta_text_text t
  unfold vText at e1
  apply wpS_seq
  apply wpS_region
  simp [wpOpsS, go_sem, recoverD, hu, Try.ntmps34, Exit.thenS, e1, Oper.upon]
  rw [arr10]
  refine wpS_of_wp ?_
  go_wp2
  simp [bodyPostS, results, Try.results34]
set_option maxRecDepth 100000 in
set_option maxHeartbeats 1000000 in
/-- What a panic with s comes to, through Try. -/
theorem out_any (s : ByteArray) (w : World) : Calls Try.prog 10 #[.string s] w fun e w' => e = .returned (.string s) ∧ Below w.heap.size w w' := by
  obtain ⟨w2, hw2⟩ : ∃ w2, w2 = (w.alloc (.cells #[.string s] 9)).alloc (.cells #[.string ⟨#[]⟩] 9) := ⟨_, rfl⟩
  have hz1 : (w.alloc (.cells #[.string s] 9)).heap.size = w.heap.size + 1 := by simp
  have hk2 : Blk w2 (w.heap.size + 1) 9 #[.string ⟨#[]⟩] := by rw [hw2, ← hz1]; exact Blk.new _ _ _
  have hk12 : Blk w2 w.heap.size 9 #[.string s] := by rw [hw2]; exact (Blk.new w _ _).alloc _
  have hB2 : Below w.heap.size w w2 := by rw [hw2]; exact ((Below.refl _ _).alloc (Nat.le_refl _) _).alloc (by simp) _
  have hT := Try_other 35 #[.pointer (some ⟨w.heap.size, 0, none⟩)] w2 s (fun w' => Below w2.heap.size w2 w') ent_out
    ((out2_any ⟨w.heap.size, 0, none⟩ s _ ((hk12.alloc _).cell 0)).mono fun e w' h => ⟨h.1, by rw [← h.2]; exact (Below.refl _ _).alloc (Nat.le_refl _) _⟩)
  have HT := Lib.hid hT
  have HK := Lib.hid hk2
  have HB := Lib.hid hB2
  have hmf := mf_any
  clear hT hk2 hk12 hB2 hz1
  go_enter_defers Try.func10, Try.ntmps10
  go_wp2_with (go_at_call 7; rw [← hw2]; refine (HT.out).mono ?_; rintro e w3 ⟨rfl, hb3⟩)
  have hc : w3.cell? ⟨w.heap.size + 1, 0, none⟩ = some (.string ⟨#[]⟩) := (HK.out.below hb3 HK.out.lt).cell 0
  have hz : w3.frozen? ⟨w.heap.size + 1, 0, none⟩ = false := (HK.out.below hb3 HK.out.lt).frozen 0
  refine leaves_cons (f := 34) (args := #[.pointer (some ⟨w.heap.size + 1, 0, none⟩)]) (by simp) (by simp [go_sem]) ?_
  refine (out1_any ⟨w.heap.size + 1, 0, none⟩ s _ [{ v := .iface 9 (.string s), recovered := true }] _ hc hz).mono ?_
  rintro e u' w'' ⟨rfl, rfl, rfl⟩
  have hc2 : (w3.setCell ⟨w.heap.size + 1, 0, none⟩ (.string s)).cell? ⟨w.heap.size + 1, 0, none⟩ = some (.string s) := World.cell?_setCell_same _ _ _ hc
  simp [Leaves, settle, results, Try.results10, go_sem, hc2]
  exact (HB.out.trans (hb3.mono HB.out.size)).setCell (by simp) _
end Go.Proofs.Ytjkaigfpjebfbaa
/- (*value.Wrong).Error; value.must, MustText, MustCount, MustYes; only. -/
namespace Go.Proofs.Ytjkaigfpjebfbaa
open Go.RowKit
set_option linter.unusedVariables false

set_option maxRecDepth 100000 in
theorem Error_nil (w : World) : Calls Try.prog 9 #[.pointer none] w fun e w' => e = .returned (.string ⟨#[]⟩) ∧ w = w' := by
  go_enter Try.func9, Try.ntmps9
  go_wp2_with fail
  go_ret
  exact ⟨rfl, rfl⟩
set_option maxRecDepth 100000 in
set_option maxHeartbeats 1000000 in
theorem Error_any (g : Nat) (want got : ByteArray) (w : World) (h : Blk w g 44 #[.string want, .string got]) (h1 : want.size ≤ 1048576) (h2 : got.size ≤ 1048576) :
    Calls Try.prog 9 #[.pointer (some ⟨g, 0, none⟩)] w fun e w' => e = .returned (.string (⟨#[119, 97, 110, 116, 32]⟩ ++ want ++ ⟨#[44, 32, 103, 111, 116, 32]⟩ ++ got)) ∧ Below w.heap.size w w' := by
  have k0 : w.cell? ⟨g, 0, none⟩ = some (.string want) := h.cell 0
  have k1 : w.cell? ⟨g, 1, none⟩ = some (.string got) := h.cell 1
  clear h
  go_enter Try.func9, Try.ntmps9
  go_wp2_with fail
  go_quiet (fail)
  go_wp2_with fail
  go_ret
  exact ⟨rfl, (Below.refl _ w).trans (⟨rfl, rfl, rfl, Nat.le_refl _, fun _ _ => rfl⟩)⟩
set_option maxRecDepth 100000 in
set_option maxHeartbeats 1000000 in
theorem must_ok {k : Nat} {x : Value} (h : VK k x) (want : ByteArray) (hw : want = kindB k) (w : World) : Calls Try.prog 43 #[.agg #[x], .string want] w fun e w' => e = .returned (.tuple #[]) ∧ Below w.heap.size w w' := by
  have HK := Lib.hid (fun W => Kind_any h W)
  have k0 : (w.alloc (.cells #[x] 35)).cell? ⟨w.heap.size, 0, none⟩ = some x := (Blk.new w _ _).cell 0
  have HB := Lib.hid ((Below.refl w.heap.size w).alloc (Nat.le_refl _) (.cells #[x] 35))
  have q1 : (want.toList == want.toList) = true := by simp
  rw [← hw] at HK
  clear hw h
  go_enter Try.func43, Try.ntmps43
  go_wp2_with (go_at_call 27; refine (HK.out _).mono ?_; rintro e w1 ⟨rfl, hb1⟩)
  go_end0
  exact ⟨rfl, HB.out.trans (hb1.mono HB.out.size)⟩
set_option maxRecDepth 100000 in
set_option maxHeartbeats 1000000 in
theorem must_no {k : Nat} {x : Value} (h : VK k x) (want : ByteArray) (hw : want ≠ kindB k) (w : World) : Calls Try.prog 43 #[.agg #[x], .string want] w fun e w' => ∃ g, e = .panicked [{ v := .iface 22 (.pointer (some ⟨g, 0, none⟩)), recovered := false }] ∧ Hid (Blk w' g 44 #[.string want, .string (kindB k)] ∧ w.heap.size ≤ g ∧ Below w.heap.size w w') := by
  have HK := Lib.hid (fun W => Kind_any h W)
  have k0 : (w.alloc (.cells #[x] 35)).cell? ⟨w.heap.size, 0, none⟩ = some x := (Blk.new w _ _).cell 0
  have HB := Lib.hid ((Below.refl w.heap.size w).alloc (Nat.le_refl _) (.cells #[x] 35))
  obtain ⟨got, hgot⟩ : ∃ got, got = kindB k := ⟨_, rfl⟩
  rw [← hgot] at HK hw ⊢
  have q1 : (got.toList == want.toList) = false := by rw [str_eq, decide_eq_false_iff_not]; exact fun e => hw e.symm
  clear hw h hgot
  go_enter Try.func43, Try.ntmps43
  go_wp2_with (go_at_call 27; refine (HK.out _).mono ?_; rintro e w1 ⟨rfl, hb1⟩; have HB1 := Lib.hid (HB.out.trans (hb1.mono HB.out.size)); clear hb1)
  exact ⟨rfl, w1.heap.size, rfl, Lib.hid ⟨Blk.new w1 _ _, HB1.out.size, HB1.out.alloc HB1.out.size _⟩⟩
end Go.Proofs.Ytjkaigfpjebfbaa
/- MustText, MustCount, MustYes; only; a yes that is read; awake. -/
namespace Go.Proofs.Ytjkaigfpjebfbaa
open Go.RowKit
set_option linter.unusedVariables false

set_option maxRecDepth 100000 in
theorem MustText_ok (s : ByteArray) (w : World) : Calls Try.prog 15 #[.agg #[vText s]] w fun e w' => e = .returned (.string s) ∧ Below w.heap.size w w' := by
  obtain ⟨w1, hw1⟩ : ∃ w1, w1 = w.alloc (.cells #[vText s] 35) := ⟨_, rfl⟩
  have HK : Hid (Blk w1 w.heap.size 35 #[vText s]) := Lib.hid (by rw [hw1]; exact Blk.new w _ _)
  have HB : Hid (Below w.heap.size w w1) := Lib.hid (by rw [hw1]; exact (Below.refl _ w).alloc (Nat.le_refl _) _)
  have k0 : w1.cell? ⟨w.heap.size, 0, none⟩ = some (vText s) := HK.out.cell 0
  have HM := Lib.hid (fun W => must_ok (VK.text s) (kindB 1) rfl W)
  have t1 := tb_text s
  go_enter Try.func15, Try.ntmps15
  go_upto_region 1 with fail
  rw [← hw1]
  clear hw1
  go_wp2_with (go_at_call 43; refine (HM.out _).mono ?_; rintro e w2 ⟨rfl, hb2⟩; have k1 : w2.cell? ⟨w.heap.size, 0, none⟩ = some (vText s) := (HK.out.below hb2 HK.out.lt).cell 0; have HB2 := Lib.hid (HB.out.trans (hb2.mono HB.out.size)); clear hb2)
  go_ret
  exact ⟨rfl, HB2.out⟩
set_option maxRecDepth 100000 in
theorem MustText_no {k : Nat} {x : Value} (h : VK k x) (hk : kindB 1 ≠ kindB k) (w : World) : Calls Try.prog 15 #[.agg #[x]] w fun e w' => ∃ g, e = .panicked [{ v := .iface 22 (.pointer (some ⟨g, 0, none⟩)), recovered := false }] ∧ Hid (Blk w' g 44 #[.string (kindB 1), .string (kindB k)] ∧ w.heap.size ≤ g ∧ Below w.heap.size w w') := by
  obtain ⟨w1, hw1⟩ : ∃ w1, w1 = w.alloc (.cells #[x] 35) := ⟨_, rfl⟩
  have HK : Hid (Blk w1 w.heap.size 35 #[x]) := Lib.hid (by rw [hw1]; exact Blk.new w _ _)
  have HB : Hid (Below w.heap.size w w1) := Lib.hid (by rw [hw1]; exact (Below.refl _ w).alloc (Nat.le_refl _) _)
  have k0 : w1.cell? ⟨w.heap.size, 0, none⟩ = some x := HK.out.cell 0
  have HM := Lib.hid (fun W => must_no h (kindB 1) hk W)
  obtain ⟨got, hgot⟩ : ∃ got, got = kindB k := ⟨_, rfl⟩
  rw [← hgot] at HM ⊢
  clear h hk hgot
  go_enter Try.func15, Try.ntmps15
  go_upto_region 1 with fail
  rw [← hw1]
  clear hw1
  go_wp2_with (go_at_call 43; refine (HM.out _).mono ?_; rintro e w2 ⟨g, rfl, hq⟩)
  exact ⟨rfl, g, rfl, Lib.hid ⟨hq.out.1, Nat.le_trans HB.out.size hq.out.2.1, HB.out.trans (hq.out.2.2.mono HB.out.size)⟩⟩

set_option maxRecDepth 100000 in
theorem MustCount_ok (n : Int) (w : World) : Calls Try.prog 17 #[.agg #[vCount n]] w fun e w' => e = .returned (.int .i64 n) ∧ Below w.heap.size w w' := by
  obtain ⟨w1, hw1⟩ : ∃ w1, w1 = w.alloc (.cells #[vCount n] 35) := ⟨_, rfl⟩
  have HK : Hid (Blk w1 w.heap.size 35 #[vCount n]) := Lib.hid (by rw [hw1]; exact Blk.new w _ _)
  have HB : Hid (Below w.heap.size w w1) := Lib.hid (by rw [hw1]; exact (Below.refl _ w).alloc (Nat.le_refl _) _)
  have k0 : w1.cell? ⟨w.heap.size, 0, none⟩ = some (vCount n) := HK.out.cell 0
  have HM := Lib.hid (fun W => must_ok (VK.count n) (kindB 2) rfl W)
  have t1 := tb_count n
  go_enter Try.func17, Try.ntmps17
  go_upto_region 1 with fail
  rw [← hw1]
  clear hw1
  go_wp2_with (go_at_call 43; refine (HM.out _).mono ?_; rintro e w2 ⟨rfl, hb2⟩; have k1 : w2.cell? ⟨w.heap.size, 0, none⟩ = some (vCount n) := (HK.out.below hb2 HK.out.lt).cell 0; have HB2 := Lib.hid (HB.out.trans (hb2.mono HB.out.size)); clear hb2)
  go_ret
  exact ⟨rfl, HB2.out⟩
set_option maxRecDepth 100000 in
theorem MustCount_no {k : Nat} {x : Value} (h : VK k x) (hk : kindB 2 ≠ kindB k) (w : World) : Calls Try.prog 17 #[.agg #[x]] w fun e w' => ∃ g, e = .panicked [{ v := .iface 22 (.pointer (some ⟨g, 0, none⟩)), recovered := false }] ∧ Hid (Blk w' g 44 #[.string (kindB 2), .string (kindB k)] ∧ w.heap.size ≤ g ∧ Below w.heap.size w w') := by
  obtain ⟨w1, hw1⟩ : ∃ w1, w1 = w.alloc (.cells #[x] 35) := ⟨_, rfl⟩
  have HK : Hid (Blk w1 w.heap.size 35 #[x]) := Lib.hid (by rw [hw1]; exact Blk.new w _ _)
  have HB : Hid (Below w.heap.size w w1) := Lib.hid (by rw [hw1]; exact (Below.refl _ w).alloc (Nat.le_refl _) _)
  have k0 : w1.cell? ⟨w.heap.size, 0, none⟩ = some x := HK.out.cell 0
  have HM := Lib.hid (fun W => must_no h (kindB 2) hk W)
  obtain ⟨got, hgot⟩ : ∃ got, got = kindB k := ⟨_, rfl⟩
  rw [← hgot] at HM ⊢
  clear h hk hgot
  go_enter Try.func17, Try.ntmps17
  go_upto_region 1 with fail
  rw [← hw1]
  clear hw1
  go_wp2_with (go_at_call 43; refine (HM.out _).mono ?_; rintro e w2 ⟨g, rfl, hq⟩)
  exact ⟨rfl, g, rfl, Lib.hid ⟨hq.out.1, Nat.le_trans HB.out.size hq.out.2.1, HB.out.trans (hq.out.2.2.mono HB.out.size)⟩⟩

set_option maxRecDepth 100000 in
theorem MustYes_ok (b : Bool) (w : World) : Calls Try.prog 19 #[.agg #[vYes b]] w fun e w' => e = .returned (.bool b) ∧ Below w.heap.size w w' := by
  obtain ⟨w1, hw1⟩ : ∃ w1, w1 = w.alloc (.cells #[vYes b] 35) := ⟨_, rfl⟩
  have HK : Hid (Blk w1 w.heap.size 35 #[vYes b]) := Lib.hid (by rw [hw1]; exact Blk.new w _ _)
  have HB : Hid (Below w.heap.size w w1) := Lib.hid (by rw [hw1]; exact (Below.refl _ w).alloc (Nat.le_refl _) _)
  have k0 : w1.cell? ⟨w.heap.size, 0, none⟩ = some (vYes b) := HK.out.cell 0
  have HM := Lib.hid (fun W => must_ok (VK.yes b) (kindB 3) rfl W)
  have t1 := tb_yes b
  go_enter Try.func19, Try.ntmps19
  go_upto_region 1 with fail
  rw [← hw1]
  clear hw1
  go_wp2_with (go_at_call 43; refine (HM.out _).mono ?_; rintro e w2 ⟨rfl, hb2⟩; have k1 : w2.cell? ⟨w.heap.size, 0, none⟩ = some (vYes b) := (HK.out.below hb2 HK.out.lt).cell 0; have HB2 := Lib.hid (HB.out.trans (hb2.mono HB.out.size)); clear hb2)
  go_ret
  exact ⟨rfl, HB2.out⟩
set_option maxRecDepth 100000 in
theorem MustYes_no {k : Nat} {x : Value} (h : VK k x) (hk : kindB 3 ≠ kindB k) (w : World) : Calls Try.prog 19 #[.agg #[x]] w fun e w' => ∃ g, e = .panicked [{ v := .iface 22 (.pointer (some ⟨g, 0, none⟩)), recovered := false }] ∧ Hid (Blk w' g 44 #[.string (kindB 3), .string (kindB k)] ∧ w.heap.size ≤ g ∧ Below w.heap.size w w') := by
  obtain ⟨w1, hw1⟩ : ∃ w1, w1 = w.alloc (.cells #[x] 35) := ⟨_, rfl⟩
  have HK : Hid (Blk w1 w.heap.size 35 #[x]) := Lib.hid (by rw [hw1]; exact Blk.new w _ _)
  have HB : Hid (Below w.heap.size w w1) := Lib.hid (by rw [hw1]; exact (Below.refl _ w).alloc (Nat.le_refl _) _)
  have k0 : w1.cell? ⟨w.heap.size, 0, none⟩ = some x := HK.out.cell 0
  have HM := Lib.hid (fun W => must_no h (kindB 3) hk W)
  obtain ⟨got, hgot⟩ : ∃ got, got = kindB k := ⟨_, rfl⟩
  rw [← hgot] at HM ⊢
  clear h hk hgot
  go_enter Try.func19, Try.ntmps19
  go_upto_region 1 with fail
  rw [← hw1]
  clear hw1
  go_wp2_with (go_at_call 43; refine (HM.out _).mono ?_; rintro e w2 ⟨g, rfl, hq⟩)
  exact ⟨rfl, g, rfl, Lib.hid ⟨hq.out.1, Nat.le_trans HB.out.size hq.out.2.1, HB.out.trans (hq.out.2.2.mono HB.out.size)⟩⟩

set_option maxRecDepth 100000 in
set_option maxHeartbeats 2000000 in
theorem only_any {k : Nat} {x : Value} (h : VK k x) (may : Bool) (w : World) : Calls Try.prog 48 #[.agg #[x], .bool may] w fun e w' => e = .returned (.tuple #[.agg #[if may then x else .nilIface], .int .i64 (if may then 0 else 3)]) ∧ Below w.heap.size w w' := by
  obtain ⟨w1, hw1⟩ : ∃ w1, w1 = w.alloc (.cells #[x] 35) := ⟨_, rfl⟩
  have hz1 : w1.heap.size = w.heap.size + 1 := by rw [hw1]; simp
  obtain ⟨w2, hw2⟩ : ∃ w2, w2 = w1.alloc (.cells #[.nilIface] 35) := ⟨_, rfl⟩
  have HK : Hid (Blk w2 w.heap.size 35 #[x]) := Lib.hid (by rw [hw2, hw1]; exact (Blk.new w _ _).alloc _)
  have HL : Hid (Blk w2 (w.heap.size + 1) 35 #[.nilIface]) := Lib.hid (by rw [hw2, ← hz1]; exact Blk.new w1 _ _)
  have HB : Hid (Below w.heap.size w w2) := Lib.hid (by rw [hw2, hw1]; exact ((Below.refl _ w).alloc (Nat.le_refl _) _).alloc (by simp) _)
  have k0 : w2.cell? ⟨w.heap.size, 0, none⟩ = some x := HK.out.cell 0
  have k1 : w2.cell? ⟨w.heap.size + 1, 0, none⟩ = some .nilIface := HL.out.cell 0
  have k2 : w2.frozen? ⟨w.heap.size + 1, 0, none⟩ = false := HL.out.frozen 0
  cases may with
  | false =>
    go_enter Try.func48, Try.ntmps48
    go_upto_region 1 with fail
    rw [← hw1, ← hw2]
    clear hw1 hw2 hz1
    go_wp2_with fail
    refine ret_val2 Try.results48 (w.heap.size + 1) #[.nilIface] (HL.out.set_ 0 _) rfl rfl rfl ⟨rfl, HB.out.setCell (by simp) _⟩
  | true =>
    go_enter Try.func48, Try.ntmps48
    go_upto_region 1 with fail
    rw [← hw1, ← hw2]
    clear hw1 hw2 hz1
    cases h with
    | none =>
      go_wp2_with fail
      refine ret_val2 Try.results48 (w.heap.size + 1) #[.nilIface] (HL.out.set_ 0 _) rfl rfl rfl ⟨rfl, HB.out.setCell (by simp) _⟩
    | text s =>
      unfold vText at k0 ⊢
      go_wp2_with fail
      refine ret_val2 Try.results48 (w.heap.size + 1) #[(vText s)] (HL.out.set_ 0 _) rfl rfl rfl ⟨rfl, HB.out.setCell (by simp) _⟩
    | count n =>
      unfold vCount at k0 ⊢
      go_wp2_with fail
      refine ret_val2 Try.results48 (w.heap.size + 1) #[(vCount n)] (HL.out.set_ 0 _) rfl rfl rfl ⟨rfl, HB.out.setCell (by simp) _⟩
    | yes b =>
      unfold vYes at k0 ⊢
      go_wp2_with fail
      refine ret_val2 Try.results48 (w.heap.size + 1) #[(vYes b)] (HL.out.set_ 0 _) rfl rfl rfl ⟨rfl, HB.out.setCell (by simp) _⟩
    | clauses A n c =>
      unfold vClauses at k0 ⊢
      go_wp2_with fail
      refine ret_val2 Try.results48 (w.heap.size + 1) #[(vClauses (.slice A n c))] (HL.out.set_ 0 _) rfl rfl rfl ⟨rfl, HB.out.setCell (by simp) _⟩
    | atoms A n c =>
      unfold vAtoms at k0 ⊢
      go_wp2_with fail
      refine ret_val2 Try.results48 (w.heap.size + 1) #[(vAtoms (.slice A n c))] (HL.out.set_ 0 _) rfl rfl rfl ⟨rfl, HB.out.setCell (by simp) _⟩
    | provides A n c =>
      unfold vProvides at k0 ⊢
      go_wp2_with fail
      refine ret_val2 Try.results48 (w.heap.size + 1) #[(vProvides (.slice A n c))] (HL.out.set_ 0 _) rfl rfl rfl ⟨rfl, HB.out.setCell (by simp) _⟩
end Go.Proofs.Ytjkaigfpjebfbaa
