/- chandlerlaw8.out; (*Wrong).Error; must, MustText, MustCount, MustYes. -/
import Derived.Test.YtjkaigfpjebfbaaVt2
import Derived.BigQuiet
namespace Go.Proofs.Ytjkaigfpjebfbaa
open Go.RowKit
set_option linter.unusedVariables false

theorem ent_out : ∀ (args : Array Value) (w : World), (callFunc 35 args).run Try.prog w = .ok (.enter 35 args) w := enters_of Try.func35 (by kernel_rfl) rfl
set_option maxRecDepth 100000 in
theorem out2_any (p : Addr) (s : ByteArray) (w : World) (hp : w.cell? p = some (.string s)) : Calls Try.prog 35 #[.pointer (some p)] w fun e w' => e = .panicked [{ v := .iface 9 (.string s), recovered := false }] ∧ w = w' := by
  go_enter Try.func35, Try.ntmps35
  go_wp2
  exact ⟨rfl, rfl, rfl⟩
theorem arr10 (p i tp s b : Value) : #[p] ++ (((((((Array.replicate 9 undef).setIfInBounds 3 i).setIfInBounds 4 tp).setIfInBounds 2 tp).setIfInBounds 5 s).setIfInBounds 6 b).setIfInBounds 0 s).setIfInBounds 1 b = #[p, s, b, tp, i, tp, s, b, undef, undef] := by kernel_rfl
set_option maxRecDepth 100000 in
set_option maxHeartbeats 1000000 in
theorem out1_any (p : Addr) (t : ByteArray) (x : Value) (older : List PanicEntry) (w : World) (hc : w.cell? p = some x) (hz : w.frozen? p = false) :
    CallsD Try.prog 34 #[.pointer (some p)] (.panicking ({ v := .iface 9 (.string t), recovered := false } :: older)) w fun e u' w' =>
      e = .returned (.tuple #[]) ∧ u' = .panicking ({ v := .iface 9 (.string t), recovered := true } :: older) ∧ w' = w.setCell p (.string t) := by
  refine callsD_of_wpS Try.func34 rfl fun c₀ cs hu => ?_
  have e1 := ta_text_text t
  unfold vText at e1
  apply wpS_seq
  apply wpS_region
  simp [wpOpsS, go_sem, recoverD, hu, Try.ntmps34, Exit.thenS, e1, Oper.upon]
  rw [arr10]
  refine wpS_of_wp ?_
  go_wp2
  simp [bodyPostS, results, Try.results34]
set_option maxRecDepth 100000 in
set_option maxHeartbeats 1000000 in
/-- What a panic with s comes to, through Try. -/
theorem out_any (s : ByteArray) (w : World) : Calls Try.prog 10 #[.string s] w fun e w' => e = .returned (.string s) ∧ Below w.heap.size w w' := by
  obtain ⟨w2, hw2⟩ : ∃ w2, w2 = (w.alloc (.cells #[.string s] 9)).alloc (.cells #[.string ⟨#[]⟩] 9) := ⟨_, rfl⟩
  have hz1 : (w.alloc (.cells #[.string s] 9)).heap.size = w.heap.size + 1 := by simp
  have hk2 : Blk w2 (w.heap.size + 1) 9 #[.string ⟨#[]⟩] := by rw [hw2, ← hz1]; exact Blk.new _ _ _
  have hk12 : Blk w2 w.heap.size 9 #[.string s] := by rw [hw2]; exact (Blk.new w _ _).alloc _
  have hB2 : Below w.heap.size w w2 := by rw [hw2]; exact ((Below.refl _ _).alloc (Nat.le_refl _) _).alloc (by simp) _
  have hT := Try_other 35 #[.pointer (some ⟨w.heap.size, 0, none⟩)] w2 s (fun w' => Below w2.heap.size w2 w') ent_out
    ((out2_any ⟨w.heap.size, 0, none⟩ s _ ((hk12.alloc _).cell 0)).mono fun e w' h => ⟨h.1, by rw [← h.2]; exact (Below.refl _ _).alloc (Nat.le_refl _) _⟩)
  have HT := Lib.hid hT
  have HK := Lib.hid hk2
  have HB := Lib.hid hB2
  have hmf := mf_any
  clear hT hk2 hk12 hB2 hz1
  go_enter_defers Try.func10, Try.ntmps10
  go_wp2_with (go_at_call 7; rw [← hw2]; refine (HT.out).mono ?_; rintro e w3 ⟨rfl, hb3⟩)
  have hc : w3.cell? ⟨w.heap.size + 1, 0, none⟩ = some (.string ⟨#[]⟩) := (HK.out.below hb3 HK.out.lt).cell 0
  have hz : w3.frozen? ⟨w.heap.size + 1, 0, none⟩ = false := (HK.out.below hb3 HK.out.lt).frozen 0
  refine leaves_cons (f := 34) (args := #[.pointer (some ⟨w.heap.size + 1, 0, none⟩)]) (by simp) (by simp [go_sem]) ?_
  refine (out1_any ⟨w.heap.size + 1, 0, none⟩ s _ [{ v := .iface 9 (.string s), recovered := true }] _ hc hz).mono ?_
  rintro e u' w'' ⟨rfl, rfl, rfl⟩
  have hc2 : (w3.setCell ⟨w.heap.size + 1, 0, none⟩ (.string s)).cell? ⟨w.heap.size + 1, 0, none⟩ = some (.string s) := World.cell?_setCell_same _ _ _ hc
  simp [Leaves, settle, results, Try.results10, go_sem, hc2]
  exact (HB.out.trans (hb3.mono HB.out.size)).setCell (by simp) _
end Go.Proofs.Ytjkaigfpjebfbaa
