/- value.field. -/
import Derived.Test.YtjkaigfpjebfbaaGreatDoorVf
import Derived.Deep.CutRange
namespace Go.Proofs.YtjkaigfpjebfbaaGreatDoor
open Go.RowKit
set_option linter.unusedVariables false

set_option maxRecDepth 100000 in
set_option maxHeartbeats 4000000 in
theorem field_any (nm : ByteArray) (w : World) (hn : nm.size ≤ 1048576) :
    Calls Tryz.prog 36 #[.string nm] w fun e w' => e = .returned (.int .i64 ((fieldN nm : Nat) : Int)) ∧ Below w.heap.size w w' := by
  obtain ⟨q, hq⟩ : ∃ q, q = w.heap.size := ⟨_, rfl⟩
  obtain ⟨w1, hw1⟩ : ∃ w1, w1 = w.alloc (.cells #[.string nm] 9) := ⟨_, rfl⟩
  have hq1 : w1.cell? ⟨q, 0, none⟩ = some (.string nm) := by rw [hw1, hq]; exact (Blk.new w _ _).cell 0
  have HB1 : Hid (Below w.heap.size w w1) := Lib.hid (by rw [hw1]; exact (Below.refl _ _).alloc (Nat.le_refl _) _)
  have HIS : Hid (∀ (L : List ByteArray) (b : Bool), anyN L nm = b → L.length ≤ 1048576 → (∀ s ∈ L, s.size ≤ 1048576) → ∀ (W : World) (v : Value), TxtsAt W v L → Below w1.heap.size w1 W → Calls Tryz.prog 56 #[v, .pointer (some ⟨q, 0, none⟩)] W fun e w' => e = .returned (.bool b) ∧ Below W.heap.size W w') := Lib.hid (fun L b e h1 h2 W v hv hb => by
    have := is_any9 q v L nm W hv h1 h2 hn (by rw [hb.cell (World.block_lt_of_cell? w1 _ hq1)]; exact hq1)
    rw [e] at this
    exact this)
  have hmf := mf_any
  obtain ⟨b_nPackage, h_nPackage⟩ : ∃ b, b = anyN nPackage nm := ⟨_, rfl⟩
  obtain ⟨b_nVersion, h_nVersion⟩ : ∃ b, b = anyN nVersion nm := ⟨_, rfl⟩
  obtain ⟨b_nClauses, h_nClauses⟩ : ∃ b, b = anyN nClauses nm := ⟨_, rfl⟩
  obtain ⟨b_nAtoms, h_nAtoms⟩ : ∃ b, b = anyN nAtoms nm := ⟨_, rfl⟩
  obtain ⟨b_nProvides, h_nProvides⟩ : ∃ b, b = anyN nProvides nm := ⟨_, rfl⟩
  obtain ⟨b_nYes, h_nYes⟩ : ∃ b, b = anyN nYes nm := ⟨_, rfl⟩
  obtain ⟨b_nCount, h_nCount⟩ : ∃ b, b = anyN nCount nm := ⟨_, rfl⟩
  have H_nPackage : Hid (∀ W, Below w1.heap.size w1 W → Calls Tryz.prog 56 #[.slice (some ⟨W.heap.size, 0, none⟩) 1 1, .pointer (some ⟨q, 0, none⟩)] (W.alloc (.cells #[.string ⟨#[112, 97, 99, 107, 97, 103, 101]⟩] 9)) fun e w' => e = .returned (.bool b_nPackage) ∧ Below w1.heap.size w1 w') := Lib.hid (fun W hW => by
    have h1 := txts_new W nPackage 1 1 (0, 0) rfl
    have h2 : Below w1.heap.size w1 (W.alloc (.cells (nPackage.map Value.string).toArray 9 (0, 0))) := hW.alloc hW.size _
    exact (HIS.out nPackage b_nPackage h_nPackage.symm (by decide) (by decide +kernel) _ _ h1 h2).mono fun e w' h => ⟨h.1, h2.trans (h.2.mono h2.size)⟩)
  have H_nVersion : Hid (∀ W, Below w1.heap.size w1 W → Calls Tryz.prog 56 #[.slice (some ⟨W.heap.size, 0, none⟩) 1 1, .pointer (some ⟨q, 0, none⟩)] (W.alloc (.cells #[.string ⟨#[118, 101, 114, 115, 105, 111, 110]⟩] 9)) fun e w' => e = .returned (.bool b_nVersion) ∧ Below w1.heap.size w1 w') := Lib.hid (fun W hW => by
    have h1 := txts_new W nVersion 1 1 (0, 0) rfl
    have h2 : Below w1.heap.size w1 (W.alloc (.cells (nVersion.map Value.string).toArray 9 (0, 0))) := hW.alloc hW.size _
    exact (HIS.out nVersion b_nVersion h_nVersion.symm (by decide) (by decide +kernel) _ _ h1 h2).mono fun e w' h => ⟨h.1, h2.trans (h.2.mono h2.size)⟩)
  have H_nClauses : Hid (∀ W, Below w1.heap.size w1 W → Calls Tryz.prog 56 #[.slice (some ⟨W.heap.size, 0, none⟩) 3 3, .pointer (some ⟨q, 0, none⟩)] (W.alloc (.cells #[.string ⟨#[112, 114, 101, 45, 100, 101, 112, 101, 110, 100, 115]⟩, .string ⟨#[100, 101, 112, 101, 110, 100, 115]⟩, .string ⟨#[114, 101, 99, 111, 109, 109, 101, 110, 100, 115]⟩] 9)) fun e w' => e = .returned (.bool b_nClauses) ∧ Below w1.heap.size w1 w') := Lib.hid (fun W hW => by
    have h1 := txts_new W nClauses 3 3 (0, 0) rfl
    have h2 : Below w1.heap.size w1 (W.alloc (.cells (nClauses.map Value.string).toArray 9 (0, 0))) := hW.alloc hW.size _
    exact (HIS.out nClauses b_nClauses h_nClauses.symm (by decide) (by decide +kernel) _ _ h1 h2).mono fun e w' h => ⟨h.1, h2.trans (h.2.mono h2.size)⟩)
  have H_nAtoms : Hid (∀ W, Below w1.heap.size w1 W → Calls Tryz.prog 56 #[.slice (some ⟨W.heap.size, 0, none⟩) 2 2, .pointer (some ⟨q, 0, none⟩)] (W.alloc (.cells #[.string ⟨#[99, 111, 110, 102, 108, 105, 99, 116, 115]⟩, .string ⟨#[98, 114, 101, 97, 107, 115]⟩] 9)) fun e w' => e = .returned (.bool b_nAtoms) ∧ Below w1.heap.size w1 w') := Lib.hid (fun W hW => by
    have h1 := txts_new W nAtoms 2 2 (0, 0) rfl
    have h2 : Below w1.heap.size w1 (W.alloc (.cells (nAtoms.map Value.string).toArray 9 (0, 0))) := hW.alloc hW.size _
    exact (HIS.out nAtoms b_nAtoms h_nAtoms.symm (by decide) (by decide +kernel) _ _ h1 h2).mono fun e w' h => ⟨h.1, h2.trans (h.2.mono h2.size)⟩)
  have H_nProvides : Hid (∀ W, Below w1.heap.size w1 W → Calls Tryz.prog 56 #[.slice (some ⟨W.heap.size, 0, none⟩) 1 1, .pointer (some ⟨q, 0, none⟩)] (W.alloc (.cells #[.string ⟨#[112, 114, 111, 118, 105, 100, 101, 115]⟩] 9)) fun e w' => e = .returned (.bool b_nProvides) ∧ Below w1.heap.size w1 w') := Lib.hid (fun W hW => by
    have h1 := txts_new W nProvides 1 1 (0, 0) rfl
    have h2 : Below w1.heap.size w1 (W.alloc (.cells (nProvides.map Value.string).toArray 9 (0, 0))) := hW.alloc hW.size _
    exact (HIS.out nProvides b_nProvides h_nProvides.symm (by decide) (by decide +kernel) _ _ h1 h2).mono fun e w' h => ⟨h.1, h2.trans (h.2.mono h2.size)⟩)
  have H_nYes : Hid (∀ W, Below w1.heap.size w1 W → Calls Tryz.prog 56 #[.slice (some ⟨W.heap.size, 0, none⟩) 3 3, .pointer (some ⟨q, 0, none⟩)] (W.alloc (.cells #[.string ⟨#[101, 115, 115, 101, 110, 116, 105, 97, 108]⟩, .string ⟨#[104, 111, 108, 100]⟩, .string ⟨#[99, 111, 110, 102, 105, 103, 117, 114, 101, 100]⟩] 9)) fun e w' => e = .returned (.bool b_nYes) ∧ Below w1.heap.size w1 w') := Lib.hid (fun W hW => by
    have h1 := txts_new W nYes 3 3 (0, 0) rfl
    have h2 : Below w1.heap.size w1 (W.alloc (.cells (nYes.map Value.string).toArray 9 (0, 0))) := hW.alloc hW.size _
    exact (HIS.out nYes b_nYes h_nYes.symm (by decide) (by decide +kernel) _ _ h1 h2).mono fun e w' h => ⟨h.1, h2.trans (h.2.mono h2.size)⟩)
  have H_nCount : Hid (∀ W, Below w1.heap.size w1 W → Calls Tryz.prog 56 #[.slice (some ⟨W.heap.size, 0, none⟩) 1 1, .pointer (some ⟨q, 0, none⟩)] (W.alloc (.cells #[.string ⟨#[112, 114, 105, 111, 114, 105, 116, 121]⟩] 9)) fun e w' => e = .returned (.bool b_nCount) ∧ Below w1.heap.size w1 w') := Lib.hid (fun W hW => by
    have h1 := txts_new W nCount 1 1 (0, 0) rfl
    have h2 : Below w1.heap.size w1 (W.alloc (.cells (nCount.map Value.string).toArray 9 (0, 0))) := hW.alloc hW.size _
    exact (HIS.out nCount b_nCount h_nCount.symm (by decide) (by decide +kernel) _ _ h1 h2).mono fun e w' h => ⟨h.1, h2.trans (h.2.mono h2.size)⟩)
  obtain ⟨R, hR⟩ : ∃ R, R = fieldN nm := ⟨_, rfl⟩
  rw [← hR]
  unfold fieldN at hR
  simp only [← h_nPackage, ← h_nVersion, ← h_nClauses, ← h_nAtoms, ← h_nProvides, ← h_nYes, ← h_nCount] at hR
  have HR := Lib.hid hR
  clear hq1 HIS hR h_nPackage h_nVersion h_nClauses h_nAtoms h_nProvides h_nYes h_nCount
  go_enter Tryz.func36, Tryz.ntmps36
  go_upto_region 1 with fail
  rw [← hw1, ← hq]
  clear hw1 hq
  cases b_nPackage with
  | true =>
    have HE : Hid (R = 0) := Lib.hid (by rw [HR.out]; rfl)
    go_wp2_with (go_at_call 56; refine (H_nPackage.out w1 (Below.refl _ _)).mono ?_; rintro e y0 ⟨rfl, hy0⟩; have HY0 := Lib.hid hy0; clear hy0)
    go_ret
    exact ⟨by rw [HE.out]; rfl, HB1.out.trans (HY0.out.mono HB1.out.size)⟩
  | false =>
  go_upto_region 4 with (go_at_call 56; refine (H_nPackage.out w1 (Below.refl _ _)).mono ?_; rintro e y0 ⟨rfl, hy0⟩; have HY0 := Lib.hid hy0; clear hy0)
  cases b_nVersion with
  | true =>
    have HE : Hid (R = 1) := Lib.hid (by rw [HR.out]; rfl)
    go_wp2_with (go_at_call 56; refine (H_nVersion.out y0 HY0.out).mono ?_; rintro e y1 ⟨rfl, hy1⟩; have HY1 := Lib.hid hy1; clear hy1)
    go_ret
    exact ⟨by rw [HE.out]; rfl, HB1.out.trans (HY1.out.mono HB1.out.size)⟩
  | false =>
  go_upto_region 6 with (go_at_call 56; refine (H_nVersion.out y0 HY0.out).mono ?_; rintro e y1 ⟨rfl, hy1⟩; have HY1 := Lib.hid hy1; clear hy1)
  cases b_nClauses with
  | true =>
    have HE : Hid (R = 2) := Lib.hid (by rw [HR.out]; rfl)
    go_wp2_with (go_at_call 56; refine (H_nClauses.out y1 HY1.out).mono ?_; rintro e y2 ⟨rfl, hy2⟩; have HY2 := Lib.hid hy2; clear hy2)
    go_ret
    exact ⟨by rw [HE.out]; rfl, HB1.out.trans (HY2.out.mono HB1.out.size)⟩
  | false =>
  go_upto_region 8 with (go_at_call 56; refine (H_nClauses.out y1 HY1.out).mono ?_; rintro e y2 ⟨rfl, hy2⟩; have HY2 := Lib.hid hy2; clear hy2)
  cases b_nAtoms with
  | true =>
    have HE : Hid (R = 3) := Lib.hid (by rw [HR.out]; rfl)
    go_wp2_with (go_at_call 56; refine (H_nAtoms.out y2 HY2.out).mono ?_; rintro e y3 ⟨rfl, hy3⟩; have HY3 := Lib.hid hy3; clear hy3)
    go_ret
    exact ⟨by rw [HE.out]; rfl, HB1.out.trans (HY3.out.mono HB1.out.size)⟩
  | false =>
  go_upto_region 10 with (go_at_call 56; refine (H_nAtoms.out y2 HY2.out).mono ?_; rintro e y3 ⟨rfl, hy3⟩; have HY3 := Lib.hid hy3; clear hy3)
  cases b_nProvides with
  | true =>
    have HE : Hid (R = 4) := Lib.hid (by rw [HR.out]; rfl)
    go_wp2_with (go_at_call 56; refine (H_nProvides.out y3 HY3.out).mono ?_; rintro e y4 ⟨rfl, hy4⟩; have HY4 := Lib.hid hy4; clear hy4)
    go_ret
    exact ⟨by rw [HE.out]; rfl, HB1.out.trans (HY4.out.mono HB1.out.size)⟩
  | false =>
  go_upto_region 12 with (go_at_call 56; refine (H_nProvides.out y3 HY3.out).mono ?_; rintro e y4 ⟨rfl, hy4⟩; have HY4 := Lib.hid hy4; clear hy4)
  cases b_nYes with
  | true =>
    have HE : Hid (R = 5) := Lib.hid (by rw [HR.out]; rfl)
    go_wp2_with (go_at_call 56; refine (H_nYes.out y4 HY4.out).mono ?_; rintro e y5 ⟨rfl, hy5⟩; have HY5 := Lib.hid hy5; clear hy5)
    go_ret
    exact ⟨by rw [HE.out]; rfl, HB1.out.trans (HY5.out.mono HB1.out.size)⟩
  | false =>
  go_upto_region 14 with (go_at_call 56; refine (H_nYes.out y4 HY4.out).mono ?_; rintro e y5 ⟨rfl, hy5⟩; have HY5 := Lib.hid hy5; clear hy5)
  cases b_nCount with
  | true =>
    have HE : Hid (R = 6) := Lib.hid (by rw [HR.out]; rfl)
    go_wp2_with (go_at_call 56; refine (H_nCount.out y5 HY5.out).mono ?_; rintro e y6 ⟨rfl, hy6⟩; have HY6 := Lib.hid hy6; clear hy6)
    go_ret
    exact ⟨by rw [HE.out]; rfl, HB1.out.trans (HY6.out.mono HB1.out.size)⟩
  | false =>
  have HE : Hid (R = 7) := Lib.hid (by rw [HR.out]; rfl)
  go_wp2_with (go_at_call 56; refine (H_nCount.out y5 HY5.out).mono ?_; rintro e y6 ⟨rfl, hy6⟩; have HY6 := Lib.hid hy6; clear hy6)
  go_ret
  exact ⟨by rw [HE.out]; rfl, HB1.out.trans (HY6.out.mono HB1.out.size)⟩
end Go.Proofs.YtjkaigfpjebfbaaGreatDoor
