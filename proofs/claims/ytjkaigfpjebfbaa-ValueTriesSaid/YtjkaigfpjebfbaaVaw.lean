/- A yes that is read; awake. -/
import Derived.Test.YtjkaigfpjebfbaaVm2
namespace Go.Proofs.Ytjkaigfpjebfbaa
open Go.RowKit
set_option linter.unusedVariables false

def yesB : ByteArray := ⟨#[121, 101, 115]⟩
def noB : ByteArray := ⟨#[110, 111]⟩
theorem yes_list : yesB.toList = [121, 101, 115] := by rw [ByteArray.toList_eq]; rfl
theorem no_list : noB.toList = [110, 111] := by rw [ByteArray.toList_eq]; rfl
set_option maxRecDepth 100000 in
set_option maxHeartbeats 2000000 in
theorem Read_yes (nm s : ByteArray) (hn : nm.size ≤ 1048576) (hf : fieldN nm = 5) (w : World) :
    Calls Try.prog 31 #[.string nm, .string s] w fun e w' => e = .returned (.tuple #[.agg #[if s = yesB ∨ s = noB then vYes (decide (s = yesB)) else .nilIface], .int .i64 (if s = yesB ∨ s = noB then 0 else 3)]) ∧ Below w.heap.size w w' := by
  have hfa := fun W => field_any nm W hn
  rw [hf] at hfa
  have HF := Lib.hid hfa
  obtain ⟨b, hb⟩ : ∃ b, b = decide (s = yesB) := ⟨_, rfl⟩
  obtain ⟨m, hm⟩ : ∃ m, m = decide (s = yesB ∨ s = noB) := ⟨_, rfl⟩
  have q1 : (s.toList == [121, 101, 115]) = b := by rw [← yes_list, str_eq, hb]
  have q2 : b = false → (s.toList == [110, 111]) = m := fun h => by
    rw [← no_list, str_eq, hm]
    have : ¬ s = yesB := by rw [hb] at h; simpa using h
    simp [this]
  have q3 : b = true → m = true := fun h => by
    rw [hm]
    have : s = yesB := by rw [hb] at h; simpa using h
    simp [this]
  have HY : Hid (∀ W, Calls Try.prog 39 #[.bool b] W fun e w' => e = .returned (.agg #[.iface 4 (.bool b)]) ∧ Below W.heap.size W w') := Lib.hid (fun W => OfYes_any b W)
  have HO : Hid (∀ W, Calls Try.prog 48 #[.agg #[.iface 4 (.bool b)], .bool m] W fun e w' => e = .returned (.tuple #[.agg #[if m then .iface 4 (.bool b) else .nilIface], .int .i64 (if m then 0 else 3)]) ∧ Below W.heap.size W w') := Lib.hid (fun W => only_any (VK.yes b) m W)
  have HR : Hid ((if s = yesB ∨ s = noB then vYes b else .nilIface) = (if m then vYes b else .nilIface) ∧ (if s = yesB ∨ s = noB then (0 : Int) else 3) = (if m then 0 else 3)) := Lib.hid (by
    rw [hm]
    by_cases h : s = yesB ∨ s = noB
    · rw [if_pos h, if_pos h, decide_eq_true h]; exact ⟨rfl, rfl⟩
    · rw [if_neg h, if_neg h, decide_eq_false h]; exact ⟨rfl, rfl⟩)
  rw [← hb, HR.out.1, HR.out.2]
  obtain ⟨w1, hw1⟩ : ∃ w1, w1 = w.alloc (.cells #[.nilIface] 35) := ⟨_, rfl⟩
  have HK : Hid (Blk w1 w.heap.size 35 #[.nilIface]) := Lib.hid (by rw [hw1]; exact Blk.new w _ _)
  have HB : Hid (Below w.heap.size w w1) := Lib.hid (by rw [hw1]; exact (Below.refl _ w).alloc (Nat.le_refl _) _)
  clear hfa hb hm hf HR
  go_enter Try.func31, Try.ntmps31
  go_upto_region 1 with fail
  rw [← hw1]
  clear hw1
  cases b with
  | true =>
    have hm := q3 rfl
    subst hm
    clear q2 q3
    go_wp2_with (first | (go_at_call 47; refine (HF.out _).mono ?_; rintro e w2 ⟨rfl, hb2⟩) | (go_at_call 39; refine (HY.out _).mono ?_; rintro e w3 ⟨rfl, hb3⟩) | (go_at_call 48; refine (HO.out _).mono ?_; rintro e w4 ⟨rfl, hb4⟩; have HB4 := Lib.hid (((HB.out.trans (hb2.mono HB.out.size)).trans (hb3.mono (HB.out.trans (hb2.mono HB.out.size)).size)).trans (hb4.mono ((HB.out.trans (hb2.mono HB.out.size)).trans (hb3.mono (HB.out.trans (hb2.mono HB.out.size)).size)).size)); have HK4 : Hid (Blk w4 w.heap.size 35 #[.nilIface]) := Lib.hid (((HK.out.below hb2 HK.out.lt).below hb3 (HK.out.below hb2 HK.out.lt).lt).below hb4 ((HK.out.below hb2 HK.out.lt).below hb3 (HK.out.below hb2 HK.out.lt).lt).lt); have k0 := HK4.out.cell 0; have k1 : w4.cell? ⟨w.heap.size, 0, none⟩ = some .nilIface := k0; have k2 : w4.frozen? ⟨w.heap.size, 0, none⟩ = false := HK4.out.frozen 0; clear hb2 hb3 hb4))
    refine ret_val2 Try.results31 w.heap.size _ (HK4.out.set_ 0 _) rfl rfl rfl ⟨rfl, HB4.out.setCell (Nat.le_refl _) _⟩
  | false =>
    have q2 := q2 rfl
    clear q3
    cases m with
    | true =>
      go_wp2_with (first | (go_at_call 47; refine (HF.out _).mono ?_; rintro e w2 ⟨rfl, hb2⟩) | (go_at_call 39; refine (HY.out _).mono ?_; rintro e w3 ⟨rfl, hb3⟩) | (go_at_call 48; refine (HO.out _).mono ?_; rintro e w4 ⟨rfl, hb4⟩; have HB4 := Lib.hid (((HB.out.trans (hb2.mono HB.out.size)).trans (hb3.mono (HB.out.trans (hb2.mono HB.out.size)).size)).trans (hb4.mono ((HB.out.trans (hb2.mono HB.out.size)).trans (hb3.mono (HB.out.trans (hb2.mono HB.out.size)).size)).size)); have HK4 : Hid (Blk w4 w.heap.size 35 #[.nilIface]) := Lib.hid (((HK.out.below hb2 HK.out.lt).below hb3 (HK.out.below hb2 HK.out.lt).lt).below hb4 ((HK.out.below hb2 HK.out.lt).below hb3 (HK.out.below hb2 HK.out.lt).lt).lt); have k0 := HK4.out.cell 0; have k1 : w4.cell? ⟨w.heap.size, 0, none⟩ = some .nilIface := k0; have k2 : w4.frozen? ⟨w.heap.size, 0, none⟩ = false := HK4.out.frozen 0; clear hb2 hb3 hb4))
      refine ret_val2 Try.results31 w.heap.size _ (HK4.out.set_ 0 _) rfl rfl rfl ⟨rfl, HB4.out.setCell (Nat.le_refl _) _⟩
    | false =>
      go_wp2_with (first | (go_at_call 47; refine (HF.out _).mono ?_; rintro e w2 ⟨rfl, hb2⟩) | (go_at_call 39; refine (HY.out _).mono ?_; rintro e w3 ⟨rfl, hb3⟩) | (go_at_call 48; refine (HO.out _).mono ?_; rintro e w4 ⟨rfl, hb4⟩; have HB4 := Lib.hid (((HB.out.trans (hb2.mono HB.out.size)).trans (hb3.mono (HB.out.trans (hb2.mono HB.out.size)).size)).trans (hb4.mono ((HB.out.trans (hb2.mono HB.out.size)).trans (hb3.mono (HB.out.trans (hb2.mono HB.out.size)).size)).size)); have HK4 : Hid (Blk w4 w.heap.size 35 #[.nilIface]) := Lib.hid (((HK.out.below hb2 HK.out.lt).below hb3 (HK.out.below hb2 HK.out.lt).lt).below hb4 ((HK.out.below hb2 HK.out.lt).below hb3 (HK.out.below hb2 HK.out.lt).lt).lt); have k0 := HK4.out.cell 0; have k1 : w4.cell? ⟨w.heap.size, 0, none⟩ = some .nilIface := k0; have k2 : w4.frozen? ⟨w.heap.size, 0, none⟩ = false := HK4.out.frozen 0; clear hb2 hb3 hb4))
      refine ret_val2 Try.results31 w.heap.size _ (HK4.out.set_ 0 _) rfl rfl rfl ⟨rfl, HB4.out.setCell (Nat.le_refl _) _⟩
end Go.Proofs.Ytjkaigfpjebfbaa
