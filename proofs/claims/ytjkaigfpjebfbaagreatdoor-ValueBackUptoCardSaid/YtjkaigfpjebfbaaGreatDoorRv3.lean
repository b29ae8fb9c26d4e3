/- version: epochOf, of. -/
import Derived.Test.YtjkaigfpjebfbaaGreatDoorRv2
namespace Go.Proofs.YtjkaigfpjebfbaaGreatDoor
open Go.RowKit
set_option linter.unusedVariables false

def allF (p : Nat → Bool) (s : ByteArray) : Nat → Nat → Bool
  | 0, _ => true
  | f + 1, i => if i < s.size then p (byteAt s i) && allF p s f (i + 1) else true
def allB (p : Nat → Bool) (s : ByteArray) : Bool := allF p s s.size 0
theorem allF_end (p : Nat → Bool) (s : ByteArray) (f i : Nat) (h : ¬ i < s.size) : allF p s f i = true := by cases f <;> simp [allF, h]
theorem allF_no (p : Nat → Bool) (s : ByteArray) (f i : Nat) (h : i < s.size) (hp : p (byteAt s i) = false) : allF p s (f + 1) i = false := by simp [allF, h, hp]
theorem allF_yes (p : Nat → Bool) (s : ByteArray) (f i : Nat) (h : i < s.size) (hp : p (byteAt s i) = true) : allF p s (f + 1) i = allF p s f (i + 1) := by simp [allF, h, hp]
theorem str_ne {s : ByteArray} (h : 1 ≤ s.size) : s.toList.isEmpty = false := by
  rw [ByteArray.toList_eq]
  cases hx : s.data.toList with
  | nil => rw [show s.size = s.data.toList.length from rfl, hx] at h; exact absurd h (by decide)
  | cons _ _ => rfl
theorem str_nil {s : ByteArray} (h : ¬ 1 ≤ s.size) : s = ⟨#[]⟩ := bl_inj (List.eq_nil_of_length_eq_zero (by rw [bl_len]; omega))
def epB (s : ByteArray) : Bool := decide (1 ≤ s.size) && decide (s.size ≤ 9) && allB digB s
/-- What a version's sign may be: a digit, a letter, one of those beside. -/
def ofB (be : ByteArray) (b : Nat) : Bool := digB b || letB b || decide (0 ≤ idx be b)
set_option maxRecDepth 100000 in
set_option maxHeartbeats 1000000 in
theorem epoch_any (s : ByteArray) (w : World) (hs : s.size ≤ 1048576) :
    Calls Tryz.prog 62 #[.string s] w fun e w' => e = .returned (.bool (epB s)) ∧ Below w.heap.size w w' := by
  by_cases h1 : 1 ≤ s.size
  · by_cases h9 : s.size ≤ 9
    · have HE : Hid (epB s = allF digB s s.size 0) := Lib.hid (by unfold epB; rw [decide_eq_true h1, decide_eq_true h9]; rfl)
      have n9 : ¬ (9 : Int) < (s.size : Int) := by omega
      have n0 := str_ne h1
      go_enter Tryz.func62, Tryz.ntmps62
      go_wp2
      go_loopw [4] (fun _ wr => ∃ (pos fuel : Nat), wr.heap[w.heap.size]? = some (.stringIter s pos) ∧ Below w.heap.size w wr ∧ Hid (allF digB s fuel pos = epB s) ∧ s.size ≤ pos + fuel) (fun _ wr => s.size - wr.iterPos w.heap.size)
      case atStart => exact ⟨0, s.size, World.iter_heap w s 0, (Below.refl _ _).alloc (Nat.le_refl _) _, Lib.hid HE.out.symm, by omega⟩
      case round =>
        obtain ⟨pos, fuel, hit, hbw, HS, hb⟩ := hrel
        have hpos0 := iterPos_of hit
        by_cases hp : pos < s.size
        · have hnx : ∀ ty, (Instr.next (.pointer (some ⟨w.heap.size, 0, none⟩)) true ty).run Tryz.prog wr = _ := fun ty => Lib.run_next_any_at wr w.heap.size s pos ty hit hp
          obtain ⟨fuel, rfl⟩ : ∃ f', fuel = f' + 1 := ⟨fuel - 1, by omega⟩
          have hit2 := Lib.iterAt_heap wr w.heap.size s pos (pos + (Utf8.decode s pos).2) hit
          have hbw2 := Lib.below_iterAt hbw (k := w.heap.size) (Nat.le_refl _) s (pos + (Utf8.decode s pos).2)
          obtain ⟨W1, hW1⟩ : ∃ W1, W1 = wr.iterAt w.heap.size s (pos + (Utf8.decode s pos).2) := ⟨_, rfl⟩
          rw [← hW1] at hnx hit2 hbw2
          have HHit := Lib.hid hit2
          have HBw := Lib.hid hbw2
          have HPos := Lib.hid hpos0
          have hra := rune_at s pos
          have hle := rune_le s pos
          have hno := allF_no digB s fuel pos hp
          have hyes := allF_yes digB s fuel pos hp
          have HNo := Lib.hid hno
          have HYes := Lib.hid hyes
          have HRa := Lib.hid hra
          clear hW1 hit hbw hit2 hbw2 hpos0 hno hyes hra
          obtain ⟨c, hc⟩ : ∃ c, c = (Utf8.decode s pos).1 := ⟨_, rfl⟩
          rw [← hc] at hnx hle
          by_cases hd : 48 ≤ c ∧ c ≤ 57
          · have hb8 : byteAt s pos = c ∧ (Utf8.decode s pos).2 = 1 := by
              rcases HRa.out with ⟨a, e⟩ | ⟨a, b⟩
              · rw [e] at hc; exact ⟨hc.symm, by rw [e]⟩
              · omega
            have HF : Hid (allF digB s fuel (pos + 1) = epB s) := Lib.hid (by rw [← HS.out, HYes.out (decide_eq_true (by rw [hb8.1]; exact hd))])
            rw [hb8.2] at HHit
            have n48 : ¬ (c : Int) < 48 := by omega
            have n57 : ¬ (57 : Int) < (c : Int) := by omega
            clear hd hb8 HNo HYes HRa hc
            go_wp2
            go_roundw
            case rel => exact ⟨pos + 1, fuel, HHit.out, HBw.out, HF, by omega⟩
            case measure =>
              rw [iterPos_of HHit.out, HPos.out]
              omega
          · have hb8 : ¬ (48 ≤ byteAt s pos ∧ byteAt s pos ≤ 57) := by
              rcases HRa.out with ⟨a, e⟩ | ⟨a, b⟩
              · rw [e] at hc
                have hc' : c = byteAt s pos := hc
                rw [← hc']; exact hd
              · omega
            have HF : Hid (epB s = false) := Lib.hid (by rw [← HS.out, HNo.out (decide_eq_false hb8)])
            clear hb8 HNo HYes HRa hc
            by_cases h48 : c < 48
            · have n48 : (c : Int) < 48 := by omega
              clear hd
              go_wp2
              go_ret
              exact ⟨ret_bool HF.out.symm, HBw.out⟩
            · have n48 : ¬ (c : Int) < 48 := by omega
              have n57 : (57 : Int) < (c : Int) := by omega
              clear hd
              go_wp2
              go_ret
              exact ⟨ret_bool HF.out.symm, HBw.out⟩
        · have hnx : ∀ ty, (Instr.next (.pointer (some ⟨w.heap.size, 0, none⟩)) true ty).run Tryz.prog wr = _ := fun ty => Lib.run_next_end_at wr w.heap.size s pos ty hit hp
          have HF : Hid (epB s = true) := Lib.hid (by rw [← HS.out]; exact allF_end digB s fuel pos hp)
          have HBw := Lib.hid hbw
          clear hbw
          go_wp2
          go_ret
          exact ⟨ret_bool HF.out.symm, HBw.out⟩
    · have HE : Hid (epB s = false) := Lib.hid (by unfold epB; rw [decide_eq_false h9]; simp)
      have n9 : (9 : Int) < (s.size : Int) := by omega
      have n0 := str_ne h1
      go_enter Tryz.func62, Tryz.ntmps62
      go_wp2
      go_ret
      exact ⟨ret_bool HE.out.symm, Below.refl _ _⟩
  · have he := str_nil h1
    subst he
    go_enter Tryz.func62, Tryz.ntmps62
    go_wp2
    go_ret
    exact ⟨rfl, Below.refl _ _⟩
theorem enc_low {c : Nat} (h : c < 128) : Utf8.encode (c : Int) = ⟨#[UInt8.ofNat c]⟩ := by
  have hv : Utf8.valid (c : Int) = true := by unfold Utf8.valid; simp; omega
  unfold Utf8.encode
  simp [h, hv]
set_option maxRecDepth 100000 in
set_option maxHeartbeats 1000000 in
theorem of_any (s be : ByteArray) (w : World) (hs : s.size ≤ 1048576) (hbe : ∀ b, 126 < b → idx be b = -1) :
    Calls Tryz.prog 63 #[.string s, .string be] w fun e w' => e = .returned (.bool (allB (ofB be) s)) ∧ Below w.heap.size w w' := by
  have HDG := Lib.hid (fun b W hb => vdigit_any b W hb)
  have HLT := Lib.hid (fun b W hb => letter_any b W hb)
  have HCT := Lib.hid (fun c W => Tryz.strings_Contains_one be c W)
  have HBE := Lib.hid hbe
  clear hbe
  go_enter Tryz.func63, Tryz.ntmps63
  go_wp2
  go_loopw [6] (fun _ wr => ∃ (pos fuel : Nat), wr.heap[w.heap.size]? = some (.stringIter s pos) ∧ Below w.heap.size w wr ∧ Hid (allF (ofB be) s fuel pos = allB (ofB be) s) ∧ s.size ≤ pos + fuel) (fun _ wr => s.size - wr.iterPos w.heap.size)
  case atStart => exact ⟨0, s.size, World.iter_heap w s 0, (Below.refl _ _).alloc (Nat.le_refl _) _, Lib.hid rfl, by omega⟩
  case round =>
    obtain ⟨pos, fuel, hit, hbw, HS, hb⟩ := hrel
    have hpos0 := iterPos_of hit
    by_cases hp : pos < s.size
    · have hnx : ∀ ty, (Instr.next (.pointer (some ⟨w.heap.size, 0, none⟩)) true ty).run Tryz.prog wr = _ := fun ty => Lib.run_next_any_at wr w.heap.size s pos ty hit hp
      obtain ⟨fuel, rfl⟩ : ∃ f', fuel = f' + 1 := ⟨fuel - 1, by omega⟩
      have hit2 := Lib.iterAt_heap wr w.heap.size s pos (pos + (Utf8.decode s pos).2) hit
      have hbw2 := Lib.below_iterAt hbw (k := w.heap.size) (Nat.le_refl _) s (pos + (Utf8.decode s pos).2)
      obtain ⟨W1, hW1⟩ : ∃ W1, W1 = wr.iterAt w.heap.size s (pos + (Utf8.decode s pos).2) := ⟨_, rfl⟩
      rw [← hW1] at hnx hit2 hbw2
      have HHit := Lib.hid hit2
      have HBw := Lib.hid hbw2
      have HPos := Lib.hid hpos0
      have hle := rune_le s pos
      have HNo := Lib.hid (allF_no (ofB be) s fuel pos hp)
      have HYes := Lib.hid (allF_yes (ofB be) s fuel pos hp)
      have HRa := Lib.hid (rune_at s pos)
      clear hW1 hit hbw hit2 hbw2 hpos0
      obtain ⟨c, hc⟩ : ∃ c, c = (Utf8.decode s pos).1 := ⟨_, rfl⟩
      rw [← hc] at hnx hle
      by_cases h126 : c ≤ 126
      · have hb8 : byteAt s pos = c ∧ (Utf8.decode s pos).2 = 1 := by
          rcases HRa.out with ⟨a, e⟩ | ⟨a, b⟩
          · rw [e] at hc; exact ⟨hc.symm, by rw [e]⟩
          · omega
        rw [hb8.2] at HHit
        rw [hb8.1] at HNo HYes
        have n126 : ¬ (126 : Int) < (c : Int) := by omega
        have wc : IntKind.u8.wrap (c : Int) = (c : Int) := by rw [IntKind.wrap_u8]; omega
        have hd := HDG.out c W1 (by omega)
        have hl := HLT.out c W1 (by omega)
        have hct := HCT.out (UInt8.ofNat c) W1
        rw [← enc_low (by omega), indexByte_is, show (UInt8.ofNat c).toNat = c by rw [UInt8.toNat_ofNat']; omega] at hct
        have HOF : Hid (ofB be c = (digB c || letB c || decide (0 ≤ idx be c))) := Lib.hid rfl
        generalize digB c = d at *
        generalize letB c = l at *
        generalize decide (0 ≤ idx be c) = q at *
        have HD := Lib.hid hd
        have HL := Lib.hid hl
        have HC := Lib.hid hct
        clear hc hb8 HRa hd hl hct
        cases d with
        | true =>
          have HF : Hid (allF (ofB be) s fuel (pos + 1) = allB (ofB be) s) := Lib.hid (by rw [← HS.out, HYes.out (by rw [HOF.out]; rfl)])
          clear HNo HYes HOF
          go_wp2_with (first
            | (go_at_call 64; refine HD.out.mono ?_; rintro e w1 ⟨rfl, rfl⟩)
            | (go_at_call 81; refine HL.out.mono ?_; rintro e w1 ⟨rfl, rfl⟩))
          refine ⟨⟨pos + 1, fuel, HHit.out, HBw.out, HF, by omega⟩, ?_⟩
          rw [iterPos_of HHit.out, HPos.out]
          omega
        | false =>
          cases l with
          | true =>
            have HF : Hid (allF (ofB be) s fuel (pos + 1) = allB (ofB be) s) := Lib.hid (by rw [← HS.out, HYes.out (by rw [HOF.out]; rfl)])
            clear HNo HYes HOF
            go_wp2_with (first
              | (go_at_call 64; refine HD.out.mono ?_; rintro e w1 ⟨rfl, rfl⟩)
              | (go_at_call 81; refine HL.out.mono ?_; rintro e w1 ⟨rfl, rfl⟩))
            refine ⟨⟨pos + 1, fuel, HHit.out, HBw.out, HF, by omega⟩, ?_⟩
            rw [iterPos_of HHit.out, HPos.out]
            omega
          | false =>
            cases q with
            | true =>
              have HF : Hid (allF (ofB be) s fuel (pos + 1) = allB (ofB be) s) := Lib.hid (by rw [← HS.out, HYes.out (by rw [HOF.out]; rfl)])
              clear HNo HYes HOF
              go_wp2_with (first
                | (go_at_call 64; refine HD.out.mono ?_; rintro e w1 ⟨rfl, rfl⟩)
                | (go_at_call 81; refine HL.out.mono ?_; rintro e w1 ⟨rfl, rfl⟩)
                | (go_at_call 82; refine HC.out.mono ?_; rintro e w1 ⟨rfl, rfl⟩))
              refine ⟨⟨pos + 1, fuel, HHit.out, HBw.out, HF, by omega⟩, ?_⟩
              rw [iterPos_of HHit.out, HPos.out]
              omega
            | false =>
              have HF : Hid (allB (ofB be) s = false) := Lib.hid (by rw [← HS.out, HNo.out (by rw [HOF.out]; rfl)])
              clear HNo HYes HOF
              go_wp2_with (first
                | (go_at_call 64; refine HD.out.mono ?_; rintro e w1 ⟨rfl, rfl⟩)
                | (go_at_call 81; refine HL.out.mono ?_; rintro e w1 ⟨rfl, rfl⟩)
                | (go_at_call 82; refine HC.out.mono ?_; rintro e w1 ⟨rfl, rfl⟩))
              go_ret
              exact ⟨ret_bool HF.out.symm, HBw.out⟩
      · have hb126 : 126 < byteAt s pos := by
          rcases HRa.out with ⟨a, e⟩ | ⟨a, b⟩
          · rw [e] at hc
            have hc' : c = byteAt s pos := hc
            omega
          · omega
        have HF : Hid (allB (ofB be) s = false) := Lib.hid (by
          rw [← HS.out, HNo.out]
          unfold ofB digB letB
          rw [HBE.out _ hb126, decide_eq_false (show ¬ (48 ≤ byteAt s pos ∧ byteAt s pos ≤ 57) by omega), decide_eq_false (show ¬ (97 ≤ byteAt s pos ∧ byteAt s pos ≤ 122) by omega), decide_eq_false (show ¬ (65 ≤ byteAt s pos ∧ byteAt s pos ≤ 90) by omega)]
          rfl)
        have n126 : (126 : Int) < (c : Int) := by omega
        clear hb126 HNo HYes HRa hc h126
        go_wp2_with fail
        go_ret
        exact ⟨ret_bool HF.out.symm, HBw.out⟩
    · have hnx : ∀ ty, (Instr.next (.pointer (some ⟨w.heap.size, 0, none⟩)) true ty).run Tryz.prog wr = _ := fun ty => Lib.run_next_end_at wr w.heap.size s pos ty hit hp
      have HF : Hid (allB (ofB be) s = true) := Lib.hid (by rw [← HS.out]; exact allF_end _ s fuel pos hp)
      have HBw := Lib.hid hbw
      clear hbw
      go_wp2_with fail
      go_ret
      exact ⟨ret_bool HF.out.symm, HBw.out⟩
end Go.Proofs.YtjkaigfpjebfbaaGreatDoor
