/- Put together: A yes that is read; awake; Try at a value that must be; awake. -/
import Derived.Test.YtjkaigfpjebfbaaGreatDoorW1
/- A yes that is read; awake. -/
namespace Go.Proofs.YtjkaigfpjebfbaaGreatDoor
open Go.RowKit
set_option linter.unusedVariables false

def yesB : ByteArray := ⟨#[121, 101, 115]⟩
def noB : ByteArray := ⟨#[110, 111]⟩
theorem yes_list : yesB.toList = [121, 101, 115] := by rw [ByteArray.toList_eq]; rfl
theorem no_list : noB.toList = [110, 111] := by rw [ByteArray.toList_eq]; rfl
set_option maxRecDepth 100000 in
set_option maxHeartbeats 2000000 in
theorem Read_yes (nm s : ByteArray) (hn : nm.size ≤ 1048576) (hf : fieldN nm = 5) (w : World) :
    Calls Tryz.prog 10 #[.string nm, .string s] w fun e w' => e = .returned (.tuple #[.agg #[if s = yesB ∨ s = noB then vYes (decide (s = yesB)) else .nilIface], .int .i64 (if s = yesB ∨ s = noB then 0 else 3)]) ∧ Below w.heap.size w w' := by
  have hfa := fun W => field_any nm W hn
  rw [hf] at hfa
  have HF := Lib.hid hfa
  obtain ⟨b, hb⟩ : ∃ b, b = decide (s = yesB) := ⟨_, rfl⟩
  obtain ⟨m, hm⟩ : ∃ m, m = decide (s = yesB ∨ s = noB) := ⟨_, rfl⟩
  have q1 : (s.toList == [121, 101, 115]) = b := by rw [← yes_list, str_eq, hb]
  have q2 : b = false → (s.toList == [110, 111]) = m := fun h => by
    rw [← no_list, str_eq, hm]
    have : ¬ s = yesB := by rw [hb] at h; simpa using h
    simp [this]
  have q3 : b = true → m = true := fun h => by
    rw [hm]
    have : s = yesB := by rw [hb] at h; simpa using h
    simp [this]
  have HY : Hid (∀ W, Calls Tryz.prog 25 #[.bool b] W fun e w' => e = .returned (.agg #[.iface 4 (.bool b)]) ∧ Below W.heap.size W w') := Lib.hid (fun W => OfYes_any b W)
  have HO : Hid (∀ W, Calls Tryz.prog 37 #[.agg #[.iface 4 (.bool b)], .bool m] W fun e w' => e = .returned (.tuple #[.agg #[if m then .iface 4 (.bool b) else .nilIface], .int .i64 (if m then 0 else 3)]) ∧ Below W.heap.size W w') := Lib.hid (fun W => only_any (VK.yes b) m W)
  have HR : Hid ((if s = yesB ∨ s = noB then vYes b else .nilIface) = (if m then vYes b else .nilIface) ∧ (if s = yesB ∨ s = noB then (0 : Int) else 3) = (if m then 0 else 3)) := Lib.hid (by
    rw [hm]
    by_cases h : s = yesB ∨ s = noB
    · rw [if_pos h, if_pos h, decide_eq_true h]; exact ⟨rfl, rfl⟩
    · rw [if_neg h, if_neg h, decide_eq_false h]; exact ⟨rfl, rfl⟩)
  rw [← hb, HR.out.1, HR.out.2]
  obtain ⟨w1, hw1⟩ : ∃ w1, w1 = w.alloc (.cells #[.nilIface] 30) := ⟨_, rfl⟩
  have HK : Hid (Blk w1 w.heap.size 30 #[.nilIface]) := Lib.hid (by rw [hw1]; exact Blk.new w _ _)
  have HB : Hid (Below w.heap.size w w1) := Lib.hid (by rw [hw1]; exact (Below.refl _ w).alloc (Nat.le_refl _) _)
  clear hfa hb hm hf HR
  go_enter Tryz.func10, Tryz.ntmps10
  go_upto_region 1 with fail
  rw [← hw1]
  clear hw1
  cases b with
  | true =>
    have hm := q3 rfl
    subst hm
    clear q2 q3
    go_wp2_with (first | (go_at_call 36; refine (HF.out _).mono ?_; rintro e w2 ⟨rfl, hb2⟩) | (go_at_call 25; refine (HY.out _).mono ?_; rintro e w3 ⟨rfl, hb3⟩) | (go_at_call 37; refine (HO.out _).mono ?_; rintro e w4 ⟨rfl, hb4⟩; have HB4 := Lib.hid (((HB.out.trans (hb2.mono HB.out.size)).trans (hb3.mono (HB.out.trans (hb2.mono HB.out.size)).size)).trans (hb4.mono ((HB.out.trans (hb2.mono HB.out.size)).trans (hb3.mono (HB.out.trans (hb2.mono HB.out.size)).size)).size)); have HK4 : Hid (Blk w4 w.heap.size 30 #[.nilIface]) := Lib.hid (((HK.out.below hb2 HK.out.lt).below hb3 (HK.out.below hb2 HK.out.lt).lt).below hb4 ((HK.out.below hb2 HK.out.lt).below hb3 (HK.out.below hb2 HK.out.lt).lt).lt); have k0 := HK4.out.cell 0; have k1 : w4.cell? ⟨w.heap.size, 0, none⟩ = some .nilIface := k0; have k2 : w4.frozen? ⟨w.heap.size, 0, none⟩ = false := HK4.out.frozen 0; clear hb2 hb3 hb4))
    refine ret_val2 Tryz.results10 w.heap.size _ (HK4.out.set_ 0 _) rfl rfl rfl ⟨rfl, HB4.out.setCell (Nat.le_refl _) _⟩
  | false =>
    have q2 := q2 rfl
    clear q3
    cases m with
    | true =>
      go_wp2_with (first | (go_at_call 36; refine (HF.out _).mono ?_; rintro e w2 ⟨rfl, hb2⟩) | (go_at_call 25; refine (HY.out _).mono ?_; rintro e w3 ⟨rfl, hb3⟩) | (go_at_call 37; refine (HO.out _).mono ?_; rintro e w4 ⟨rfl, hb4⟩; have HB4 := Lib.hid (((HB.out.trans (hb2.mono HB.out.size)).trans (hb3.mono (HB.out.trans (hb2.mono HB.out.size)).size)).trans (hb4.mono ((HB.out.trans (hb2.mono HB.out.size)).trans (hb3.mono (HB.out.trans (hb2.mono HB.out.size)).size)).size)); have HK4 : Hid (Blk w4 w.heap.size 30 #[.nilIface]) := Lib.hid (((HK.out.below hb2 HK.out.lt).below hb3 (HK.out.below hb2 HK.out.lt).lt).below hb4 ((HK.out.below hb2 HK.out.lt).below hb3 (HK.out.below hb2 HK.out.lt).lt).lt); have k0 := HK4.out.cell 0; have k1 : w4.cell? ⟨w.heap.size, 0, none⟩ = some .nilIface := k0; have k2 : w4.frozen? ⟨w.heap.size, 0, none⟩ = false := HK4.out.frozen 0; clear hb2 hb3 hb4))
      refine ret_val2 Tryz.results10 w.heap.size _ (HK4.out.set_ 0 _) rfl rfl rfl ⟨rfl, HB4.out.setCell (Nat.le_refl _) _⟩
    | false =>
      go_wp2_with (first | (go_at_call 36; refine (HF.out _).mono ?_; rintro e w2 ⟨rfl, hb2⟩) | (go_at_call 25; refine (HY.out _).mono ?_; rintro e w3 ⟨rfl, hb3⟩) | (go_at_call 37; refine (HO.out _).mono ?_; rintro e w4 ⟨rfl, hb4⟩; have HB4 := Lib.hid (((HB.out.trans (hb2.mono HB.out.size)).trans (hb3.mono (HB.out.trans (hb2.mono HB.out.size)).size)).trans (hb4.mono ((HB.out.trans (hb2.mono HB.out.size)).trans (hb3.mono (HB.out.trans (hb2.mono HB.out.size)).size)).size)); have HK4 : Hid (Blk w4 w.heap.size 30 #[.nilIface]) := Lib.hid (((HK.out.below hb2 HK.out.lt).below hb3 (HK.out.below hb2 HK.out.lt).lt).below hb4 ((HK.out.below hb2 HK.out.lt).below hb3 (HK.out.below hb2 HK.out.lt).lt).lt); have k0 := HK4.out.cell 0; have k1 : w4.cell? ⟨w.heap.size, 0, none⟩ = some .nilIface := k0; have k2 : w4.frozen? ⟨w.heap.size, 0, none⟩ = false := HK4.out.frozen 0; clear hb2 hb3 hb4))
      refine ret_val2 Tryz.results10 w.heap.size _ (HK4.out.set_ 0 _) rfl rfl rfl ⟨rfl, HB4.out.setCell (Nat.le_refl _) _⟩
end Go.Proofs.YtjkaigfpjebfbaaGreatDoor
/- Try at a value that must be; awake. -/
namespace Go.Proofs.YtjkaigfpjebfbaaGreatDoor
open Go.RowKit
set_option linter.unusedVariables false

theorem Try_must (F : FuncId) (caps : Array Value) (w : World) (want got : ByteArray) (hent : ∀ (a : Array Value) (W : World), (callFunc F a).run Tryz.prog W = .ok (.enter F a) W)
    (hF : ∀ W, W = w.alloc (.cells #[.pointer none] 52) → Calls Tryz.prog F caps W fun e w' => ∃ g, e = .panicked [{ v := .iface 52 (.pointer (some ⟨g, 0, none⟩)), recovered := false }] ∧ Hid (Blk w' g 59 #[.string want, .string got] ∧ W.heap.size ≤ g ∧ Below W.heap.size W w')) :
    Calls Tryz.prog 18 #[.func (Fn.func F) #[] caps] w fun e w' => ∃ g, e = .returned (.pointer (some ⟨g, 0, none⟩)) ∧ Hid (Blk w' g 59 #[.string want, .string got] ∧ Below w.heap.size w w') := by
  obtain ⟨W, hW⟩ : ∃ W, W = w.alloc (.cells #[.pointer none] 52) := ⟨_, rfl⟩
  have hz : W.heap.size = w.heap.size + 1 := by rw [hW]; simp
  have hk : Blk W w.heap.size 52 #[.pointer none] := by rw [hW]; exact Blk.new w _ _
  have hb : Below w.heap.size w W := by rw [hW]; exact (Below.refl _ w).alloc (Nat.le_refl _) _
  refine (Try_wrong F caps w (fun a w' => ∃ g, a = ⟨g, 0, none⟩ ∧ Blk w' g 59 #[.string want, .string got] ∧ W.heap.size ≤ g ∧ Below W.heap.size W w') hent ?_ ?_).mono ?_
  · have h := hF W hW
    rw [← hW]
    exact h.mono fun e w' hh => by
      obtain ⟨g, rfl, hq⟩ := hh
      exact ⟨_, rfl, g, rfl, hq.out⟩
  · rintro a w' ⟨g, rfl, h1, h2, h3⟩
    have := hk.below h3 hk.lt
    exact ⟨this.cell 0, this.frozen 0⟩
  · rintro e w' ⟨a, w1, rfl, ⟨g, rfl, h1, h2, h3⟩, rfl⟩
    have hbw : Below w.heap.size w w1 := hb.trans (h3.mono (by omega))
    exact ⟨g, rfl, Lib.hid ⟨h1.far (p := ⟨w.heap.size, 0, none⟩) (by show g ≠ w.heap.size; omega) _, hbw.setCell (Nat.le_refl _) _⟩⟩
theorem ent_aw : ∀ (args : Array Value) (w : World), (callFunc 21 args).run Tryz.prog w = .ok (.enter 21 args) w := enters_of Tryz.func21 (by kernel_rfl) rfl
set_option maxRecDepth 100000 in
theorem aw1_any (w : World) : Calls Tryz.prog 21 #[] w fun e w' => ∃ g, e = .panicked [{ v := .iface 52 (.pointer (some ⟨g, 0, none⟩)), recovered := false }] ∧ Hid (Blk w' g 59 #[.string (kindB 2), .string (kindB 1)] ∧ w.heap.size ≤ g ∧ Below w.heap.size w w') := by
  have HT := Lib.hid (fun W => OfText_any ⟨#[97]⟩ W)
  have HM := Lib.hid (fun W => MustCount_no (VK.text ⟨#[97]⟩) (by decide +kernel) W)
  go_enter Tryz.func21, Tryz.ntmps21
  go_wp2_with (first | (go_at_call 23; refine (HT.out _).mono ?_; rintro e w1 ⟨rfl, hb1⟩) | (go_at_call 22; refine (HM.out _).mono ?_; rintro e w2 ⟨g, rfl, hq⟩))
  exact ⟨rfl, g, rfl, Lib.hid ⟨hq.out.1, Nat.le_trans hb1.size hq.out.2.1, hb1.trans (hq.out.2.2.mono hb1.size)⟩⟩
theorem fieldN_ess : fieldN ⟨#[69, 115, 115, 101, 110, 116, 105, 97, 108]⟩ = 5 := by kernel_rfl
theorem count_list : (kindB 2).toList = [99, 111, 117, 110, 116] := by rw [ByteArray.toList_eq]; rfl
theorem text_list : (kindB 1).toList = [116, 101, 120, 116] := by rw [ByteArray.toList_eq]; rfl
set_option maxRecDepth 100000 in
set_option maxHeartbeats 1000000 in
theorem awake_any (w : World) : Calls Tryz.prog 6 #[] w fun e w' => e = .returned (.bool true) ∧ Below w.heap.size w w' := by
  have HR : Hid (∀ W, Calls Tryz.prog 10 #[.string ⟨#[69, 115, 115, 101, 110, 116, 105, 97, 108]⟩, .string ⟨#[121, 101, 115]⟩] W fun e w' => e = .returned (.tuple #[.agg #[.iface 4 (.bool true)], .int .i64 0]) ∧ Below W.heap.size W w') := Lib.hid (fun W => by
    have h := Read_yes ⟨#[69, 115, 115, 101, 110, 116, 105, 97, 108]⟩ yesB (by decide) fieldN_ess W
    rw [if_pos (.inl rfl), if_pos (.inl rfl), decide_eq_true rfl] at h
    exact h)
  have HY : Hid (∀ W, Calls Tryz.prog 14 #[.agg #[.iface 4 (.bool true)]] W fun e w' => e = .returned (.tuple #[.bool true, .bool true]) ∧ Below W.heap.size W w') := Lib.hid (fun W => Yes_any (VK.yes true) W)
  have HT : Hid (∀ W, Calls Tryz.prog 18 #[.func (Fn.func 21) #[] #[]] W fun e w' => ∃ g, e = .returned (.pointer (some ⟨g, 0, none⟩)) ∧ Hid (Blk w' g 59 #[.string (kindB 2), .string (kindB 1)] ∧ Below W.heap.size W w')) := Lib.hid (fun W => Try_must _ _ W _ _ ent_aw (fun W' _ => aw1_any W'))
  have q1 : ((kindB 2).toList == [99, 111, 117, 110, 116]) = true := by rw [count_list]; simp
  have q2 : ((kindB 1).toList == [116, 101, 120, 116]) = true := by rw [text_list]; simp
  obtain ⟨x1, hx1⟩ : ∃ x, x = kindB 2 := ⟨_, rfl⟩
  obtain ⟨x2, hx2⟩ : ∃ x, x = kindB 1 := ⟨_, rfl⟩
  rw [← hx1, ← hx2] at HT
  rw [← hx1] at q1
  rw [← hx2] at q2
  clear hx1 hx2
  go_enter Tryz.func6, Tryz.ntmps6
  go_upto_region 4 with (first | (go_at_call 10; refine (HR.out _).mono ?_; rintro e w1 ⟨rfl, hb1⟩) | (go_at_call 14; refine (HY.out _).mono ?_; rintro e w2 ⟨rfl, hb2⟩) | (go_at_call 18; refine (HT.out _).mono ?_; rintro e w3 ⟨g, rfl, hq⟩))
  have k0 : w3.cell? ⟨g, 0, none⟩ = some (.string x1) := hq.out.1.cell 0
  have k1 : w3.cell? ⟨g, 1, none⟩ = some (.string x2) := hq.out.1.cell 1
  go_wp2_with fail
  go_ret
  refine ⟨rfl, ?_⟩
  have h1 : Below w.heap.size w (w1.alloc (.cells #[.iface 4 (.bool true)] 30)) := hb1.alloc hb1.size _
  have h2 := h1.trans (hb2.mono h1.size)
  exact h2.trans (hq.out.2.mono h2.size)
end Go.Proofs.YtjkaigfpjebfbaaGreatDoor
