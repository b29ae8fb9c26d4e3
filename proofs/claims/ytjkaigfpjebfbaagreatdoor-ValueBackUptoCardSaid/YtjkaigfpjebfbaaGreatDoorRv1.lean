/- version: small functions: digit, letter, first, last, LastIndexByte. -/
import Derived.Test.YtjkaigfpjebfbaaGreatDoorZA
namespace Go.Proofs.YtjkaigfpjebfbaaGreatDoor
open Go.RowKit
set_option linter.unusedVariables false

def letB (b : Nat) : Bool := decide (97 ≤ b ∧ b ≤ 122) || decide (65 ≤ b ∧ b ≤ 90)
/-- Where a byte stands first, from a place on; -1: nowhere. -/
def idxF (s : ByteArray) (c : Nat) : Nat → Nat → Int
  | 0, _ => -1
  | f + 1, i => if i < s.size then (if byteAt s i = c then (i : Int) else idxF s c f (i + 1)) else -1
def idx (s : ByteArray) (c : Nat) : Int := idxF s c s.size 0
theorem idxF_end (s : ByteArray) (c f i : Nat) (h : ¬ i < s.size) : idxF s c f i = -1 := by cases f <;> simp [idxF, h]
theorem idxF_yes (s : ByteArray) (c f i : Nat) (h : i < s.size) (hc : byteAt s i = c) : idxF s c (f + 1) i = (i : Int) := by simp [idxF, h, hc]
theorem idxF_no (s : ByteArray) (c f i : Nat) (h : i < s.size) (hc : byteAt s i ≠ c) : idxF s c (f + 1) i = idxF s c f (i + 1) := by simp [idxF, h, hc]
/-- Where a byte stands last, ahead of a place. -/
def lasF (s : ByteArray) (c : Nat) : Nat → Int
  | 0 => -1
  | i + 1 => if byteAt s i = c then (i : Int) else lasF s c i
def las (s : ByteArray) (c : Nat) : Int := lasF s c s.size
theorem idxF_range (s : ByteArray) (c : Nat) : ∀ (f i : Nat), idxF s c f i = -1 ∨ ((i : Int) ≤ idxF s c f i ∧ idxF s c f i < s.size)
  | 0, i => .inl rfl
  | f + 1, i => by
    unfold idxF
    split
    · split
      · exact .inr ⟨by omega, by omega⟩
      · rcases idxF_range s c f (i + 1) with h | h
        · exact .inl h
        · exact .inr ⟨by omega, h.2⟩
    · exact .inl rfl
theorem idx_range (s : ByteArray) (c : Nat) : idx s c = -1 ∨ ∃ k : Nat, idx s c = (k : Int) ∧ k < s.size := by
  rcases idxF_range s c s.size 0 with h | h
  · exact .inl h
  · exact .inr ⟨(idx s c).toNat, by unfold idx at *; omega, by unfold idx at *; omega⟩
theorem lasF_range (s : ByteArray) (c : Nat) : ∀ i, lasF s c i = -1 ∨ (0 ≤ lasF s c i ∧ lasF s c i < i)
  | 0 => .inl rfl
  | i + 1 => by
    unfold lasF
    split
    · exact .inr ⟨by omega, by omega⟩
    · rcases lasF_range s c i with h | h
      · exact .inl h
      · exact .inr ⟨h.1, by omega⟩
theorem las_range (s : ByteArray) (c : Nat) : las s c = -1 ∨ ∃ k : Nat, las s c = (k : Int) ∧ k < s.size := by
  rcases lasF_range s c s.size with h | h
  · exact .inl h
  · exact .inr ⟨(las s c).toNat, by unfold las at *; omega, by unfold las at *; omega⟩
/-- The kit's index of a byte is that. -/
theorem indexByte_idx (s : ByteArray) (c : UInt8) : ∀ (f i : Nat), s.size ≤ i + f → (if Lib.indexByte ((bl s).drop i) c = -1 then (-1 : Int) else Lib.indexByte ((bl s).drop i) c + i) = idxF s c.toNat f i
  | 0, i, h => by
    rw [List.drop_of_length_le (by rw [bl_len]; omega)]; rfl
  | f + 1, i, h => by
    by_cases hi : i < s.size
    · have hd : (bl s).drop i = (bl s)[i]'hi :: (bl s).drop (i + 1) := List.drop_eq_getElem_cons hi
      have ih := indexByte_idx s c f (i + 1) (by omega)
      have hb : byteAt s i = ((bl s)[i]'hi).toNat := byteAt_get s i hi
      rw [hd]
      unfold idxF Lib.indexByte
      rw [if_pos hi, hb, ← ih]
      generalize (bl s)[i]'hi = b
      have hge := Lib.indexByte_ge ((bl s).drop (i + 1)) c
      generalize Lib.indexByte ((bl s).drop (i + 1)) c = q at *
      by_cases hbc : b = c
      · subst hbc; simp
      · have h1 : (b == c) = false := by simpa using hbc
        have h2 : ¬ b.toNat = c.toNat := fun h => hbc (UInt8.toNat_inj.1 h)
        rw [h1, if_neg h2]
        simp only [Bool.false_eq_true, if_false]
        by_cases hq : q = -1
        · subst hq; simp
        · have h3 : (q == -1) = false := by simpa using hq
          rw [h3, if_neg hq]
          simp only [Bool.false_eq_true, if_false]
          rw [if_neg (by omega)]
          omega
    · rw [List.drop_of_length_le (by rw [bl_len]; omega), idxF_end s c.toNat _ i hi]; rfl
theorem indexByte_is (s : ByteArray) (c : UInt8) : Lib.indexByte s.data.toList c = idx s c.toNat := by
  have := indexByte_idx s c s.size 0 (by omega)
  rw [List.drop_zero] at this
  unfold idx
  rw [← this]
  show Lib.indexByte (bl s) c = _
  split
  · next h => exact h
  · simp
set_option maxRecDepth 100000 in
theorem vdigit_any (b : Nat) (w : World) (hb : b < 256) : Calls Tryz.prog 64 #[.int .u8 (b : Int)] w fun e w' => e = .returned (.bool (digB b)) ∧ w = w' := by
  by_cases h1 : 48 ≤ b
  · by_cases h2 : b ≤ 57
    · have HE := Lib.hid (show digB b = true from decide_eq_true ⟨h1, h2⟩)
      have q : decide ((b : Int) ≤ 57) = true := by (simp <;> omega)
      go_enter Tryz.func64, Tryz.ntmps64
      go_wp2
      go_ret
      exact ⟨ret_bool HE.out.symm, rfl⟩
    · have HE := Lib.hid (show digB b = false from decide_eq_false (by omega))
      have q : decide ((b : Int) ≤ 57) = false := by (simp <;> omega)
      go_enter Tryz.func64, Tryz.ntmps64
      go_wp2
      go_ret
      exact ⟨ret_bool HE.out.symm, rfl⟩
  · have HE := Lib.hid (show digB b = false from decide_eq_false (by omega))
    go_enter Tryz.func64, Tryz.ntmps64
    go_wp2
    go_ret
    exact ⟨ret_bool HE.out.symm, rfl⟩
theorem let_ways (b : Nat) : (letB b = true ∧ 97 ≤ b ∧ b ≤ 122) ∨ (letB b = true ∧ b < 97 ∧ 65 ≤ b ∧ b ≤ 90) ∨ (letB b = false ∧ 122 < b) ∨ (letB b = false ∧ b < 97 ∧ 90 < b) ∨ (letB b = false ∧ b < 65) := by
  have : letB b = decide ((97 ≤ b ∧ b ≤ 122) ∨ (65 ≤ b ∧ b ≤ 90)) := by unfold letB; rw [Bool.decide_or]
  rw [this]
  simp only [decide_eq_true_eq, decide_eq_false_iff_not]
  omega
set_option maxRecDepth 100000 in
theorem letter_any (b : Nat) (w : World) (hb : b < 256) : Calls Tryz.prog 81 #[.int .u8 (b : Int)] w fun e w' => e = .returned (.bool (letB b)) ∧ w = w' := by
  rcases let_ways b with ⟨h, a1, a2⟩ | ⟨h, a1, a2, a3⟩ | ⟨h, a1⟩ | ⟨h, a1, a2⟩ | ⟨h, a1⟩
  · have HE := Lib.hid h
    have q1 : decide ((97 : Int) ≤ (b : Int)) = true := by (simp <;> omega)
    have q2 : decide ((b : Int) ≤ 122) = true := by (simp <;> omega)
    clear h a1 a2
    go_enter Tryz.func81, Tryz.ntmps81
    go_wp2
    go_ret
    exact ⟨ret_bool HE.out.symm, rfl⟩
  · have HE := Lib.hid h
    have q1 : decide ((97 : Int) ≤ (b : Int)) = false := by (simp <;> omega)
    have q3 : decide ((65 : Int) ≤ (b : Int)) = true := by (simp <;> omega)
    have q4 : decide ((b : Int) ≤ 90) = true := by (simp <;> omega)
    clear h a1 a2 a3
    go_enter Tryz.func81, Tryz.ntmps81
    go_wp2
    go_ret
    exact ⟨ret_bool HE.out.symm, rfl⟩
  · have HE := Lib.hid h
    have q1 : decide ((97 : Int) ≤ (b : Int)) = true := by (simp <;> omega)
    have q2 : decide ((b : Int) ≤ 122) = false := by (simp <;> omega)
    have q3 : decide ((65 : Int) ≤ (b : Int)) = true := by (simp <;> omega)
    have q4 : decide ((b : Int) ≤ 90) = false := by (simp <;> omega)
    clear h a1
    go_enter Tryz.func81, Tryz.ntmps81
    go_wp2
    go_ret
    exact ⟨ret_bool HE.out.symm, rfl⟩
  · have HE := Lib.hid h
    have q1 : decide ((97 : Int) ≤ (b : Int)) = false := by (simp <;> omega)
    have q3 : decide ((65 : Int) ≤ (b : Int)) = true := by (simp <;> omega)
    have q4 : decide ((b : Int) ≤ 90) = false := by (simp <;> omega)
    clear h a1 a2
    go_enter Tryz.func81, Tryz.ntmps81
    go_wp2
    go_ret
    exact ⟨ret_bool HE.out.symm, rfl⟩
  · have HE := Lib.hid h
    have q1 : decide ((97 : Int) ≤ (b : Int)) = false := by (simp <;> omega)
    have q3 : decide ((65 : Int) ≤ (b : Int)) = false := by (simp <;> omega)
    clear h a1
    go_enter Tryz.func81, Tryz.ntmps81
    go_wp2
    go_ret
    exact ⟨ret_bool HE.out.symm, rfl⟩
set_option maxRecDepth 100000 in
theorem rletter_any (b : Nat) (w : World) (hb : b < 256) : Calls Tryz.prog 109 #[.int .u8 (b : Int)] w fun e w' => e = .returned (.bool (letB b)) ∧ w = w' := by
  have HSM := Lib.hid (small_any b w hb)
  rcases let_ways b with ⟨h, a1, a2⟩ | ⟨h, a1, a2, a3⟩ | ⟨h, a1⟩ | ⟨h, a1, a2⟩ | ⟨h, a1⟩
  · have HE := Lib.hid h
    rw [show smB b = true from decide_eq_true ⟨a1, a2⟩] at HSM
    clear h a1 a2
    go_enter Tryz.func109, Tryz.ntmps109
    go_wp2_with (go_at_call 92; refine HSM.out.mono ?_; rintro e w1 ⟨rfl, rfl⟩)
    go_ret
    exact ⟨ret_bool HE.out.symm, rfl⟩
  all_goals
    have HE := Lib.hid h
    rw [show smB b = false from decide_eq_false (by omega)] at HSM
  · have q3 : decide ((65 : Int) ≤ (b : Int)) = true := by (simp <;> omega)
    have q4 : decide ((b : Int) ≤ 90) = true := by (simp <;> omega)
    clear h a1 a2 a3
    go_enter Tryz.func109, Tryz.ntmps109
    go_wp2_with (go_at_call 92; refine HSM.out.mono ?_; rintro e w1 ⟨rfl, rfl⟩)
    go_ret
    exact ⟨ret_bool HE.out.symm, rfl⟩
  · have q3 : decide ((65 : Int) ≤ (b : Int)) = true := by (simp <;> omega)
    have q4 : decide ((b : Int) ≤ 90) = false := by (simp <;> omega)
    clear h a1
    go_enter Tryz.func109, Tryz.ntmps109
    go_wp2_with (go_at_call 92; refine HSM.out.mono ?_; rintro e w1 ⟨rfl, rfl⟩)
    go_ret
    exact ⟨ret_bool HE.out.symm, rfl⟩
  · have q3 : decide ((65 : Int) ≤ (b : Int)) = true := by (simp <;> omega)
    have q4 : decide ((b : Int) ≤ 90) = false := by (simp <;> omega)
    clear h a1 a2
    go_enter Tryz.func109, Tryz.ntmps109
    go_wp2_with (go_at_call 92; refine HSM.out.mono ?_; rintro e w1 ⟨rfl, rfl⟩)
    go_ret
    exact ⟨ret_bool HE.out.symm, rfl⟩
  · have q3 : decide ((65 : Int) ≤ (b : Int)) = false := by (simp <;> omega)
    clear h a1
    go_enter Tryz.func109, Tryz.ntmps109
    go_wp2_with (go_at_call 92; refine HSM.out.mono ?_; rintro e w1 ⟨rfl, rfl⟩)
    go_ret
    exact ⟨ret_bool HE.out.symm, rfl⟩
set_option maxRecDepth 100000 in
theorem last_any (s : ByteArray) (c : Nat) (w : World) (hs : s.size ≤ 9223372036854775807) :
    Calls Tryz.prog 108 #[.string s, .int .u8 (c : Int)] w fun e w' => e = .returned (.int .i64 (las s c)) ∧ w = w' := by
  go_enter Tryz.func108, Tryz.ntmps108
  go_wp2
  go_loop [5] (fun v => ∃ i : Nat, v = .int .i64 ((i : Int) - 1) ∧ i ≤ s.size ∧ Hid (lasF s c i = las s c)) (fun v => (intOf v + 1).toNat)
  case atStart => exact ⟨s.size, rfl, Nat.le_refl _, Lib.hid rfl⟩
  case round =>
    obtain ⟨i, rfl, hi, HL⟩ := hrel
    cases i with
    | zero =>
      have HE : Hid (las s c = -1) := Lib.hid HL.out.symm
      go_wp2
      go_ret
      exact ⟨ret_int HE.out.symm, rfl⟩
    | succ i =>
      have e1 : (((i + 1 : Nat) : Int) - 1) = (i : Int) := by omega
      rw [e1]
      have hp : i < s.size := by omega
      have hx2 : ((s[i]'hp).toNat : Nat) = byteAt s i := (byteAt_get s i hp).symm
      by_cases hc : byteAt s i = c
      · have HE : Hid (las s c = (i : Int)) := Lib.hid (by rw [← HL.out]; simp [lasF, hc])
        have q : ((byteAt s i : Int) == (c : Int)) = true := by (simp <;> omega)
        clear hc
        go_wp2
        go_ret
        exact ⟨ret_int HE.out.symm, rfl⟩
      · have HE : Hid (lasF s c i = las s c) := Lib.hid (by rw [← HL.out]; simp [lasF, hc])
        have q : ((byteAt s i : Int) == (c : Int)) = false := by (simp <;> omega)
        clear hc
        go_wp2
        go_round
        case rel => exact ⟨i, by go_num, by omega, HE⟩
        case measure => simp [intOf]; try omega
set_option maxRecDepth 100000 in
theorem lastIB_any (s : ByteArray) (c : Nat) (w : World) (hs : s.size ≤ 9223372036854775807) :
    Calls Tryz.prog 80 #[.string s, .int .u8 (c : Int)] w fun e w' => e = .returned (.int .i64 (las s c)) ∧ w = w' := by
  go_enter Tryz.func80, Tryz.ntmps80
  go_wp2
  go_loop [5] (fun v => ∃ i : Nat, v = .int .i64 ((i : Int) - 1) ∧ i ≤ s.size ∧ Hid (lasF s c i = las s c)) (fun v => (intOf v + 1).toNat)
  case atStart => exact ⟨s.size, rfl, Nat.le_refl _, Lib.hid rfl⟩
  case round =>
    obtain ⟨i, rfl, hi, HL⟩ := hrel
    cases i with
    | zero =>
      have HE : Hid (las s c = -1) := Lib.hid HL.out.symm
      go_wp2
      go_ret
      exact ⟨ret_int HE.out.symm, rfl⟩
    | succ i =>
      have e1 : (((i + 1 : Nat) : Int) - 1) = (i : Int) := by omega
      rw [e1]
      have hp : i < s.size := by omega
      have hx2 : ((s[i]'hp).toNat : Nat) = byteAt s i := (byteAt_get s i hp).symm
      by_cases hc : byteAt s i = c
      · have HE : Hid (las s c = (i : Int)) := Lib.hid (by rw [← HL.out]; simp [lasF, hc])
        have q : ((byteAt s i : Int) == (c : Int)) = true := by (simp <;> omega)
        clear hc
        go_wp2
        go_ret
        exact ⟨ret_int HE.out.symm, rfl⟩
      · have HE : Hid (lasF s c i = las s c) := Lib.hid (by rw [← HL.out]; simp [lasF, hc])
        have q : ((byteAt s i : Int) == (c : Int)) = false := by (simp <;> omega)
        clear hc
        go_wp2
        go_round
        case rel => exact ⟨i, by go_num, by omega, HE⟩
        case measure => simp [intOf]; try omega
set_option maxRecDepth 100000 in
theorem lastIndexByte_any (s : ByteArray) (c : Nat) (w : World) (hs : s.size ≤ 9223372036854775807) :
    Calls Tryz.prog 61 #[.string s, .int .u8 (c : Int)] w fun e w' => e = .returned (.int .i64 (las s c)) ∧ w = w' := by
  go_enter Tryz.func61, Tryz.ntmps61
  go_wp2_with (go_at_call 80; refine (lastIB_any s c w hs).mono ?_; rintro e w1 ⟨rfl, rfl⟩)
  go_ret
  exact ⟨rfl, rfl⟩
set_option maxRecDepth 100000 in
theorem first_any (s : ByteArray) (c : Nat) (w : World) (hs : s.size ≤ 9223372036854775807) :
    Calls Tryz.prog 107 #[.string s, .int .u8 (c : Int)] w fun e w' => e = .returned (.int .i64 (idx s c)) ∧ w = w' := by
  go_enter Tryz.func107, Tryz.ntmps107
  go_wp2
  go_loop [8] (fun v => ∃ i f : Nat, v = .int .i64 (i : Int) ∧ i ≤ s.size ∧ s.size ≤ i + f ∧ Hid (idxF s c f i = idx s c)) (fun v => s.size - (intOf v).toNat)
  case atStart => exact ⟨0, s.size, rfl, by omega, by omega, Lib.hid rfl⟩
  case round =>
    obtain ⟨i, f, rfl, hi, hf, HL⟩ := hrel
    by_cases hp : i < s.size
    · obtain ⟨f, rfl⟩ : ∃ f', f = f' + 1 := ⟨f - 1, by omega⟩
      have hx2 : ((s[i]'hp).toNat : Nat) = byteAt s i := (byteAt_get s i hp).symm
      by_cases hc : byteAt s i = c
      · have HE : Hid (idx s c = (i : Int)) := Lib.hid (by rw [← HL.out]; exact idxF_yes s c f i hp hc)
        have q : ((byteAt s i : Int) == (c : Int)) = true := by (simp <;> omega)
        clear hc
        go_wp2
        go_ret
        exact ⟨ret_int HE.out.symm, rfl⟩
      · have HE : Hid (idxF s c f (i + 1) = idx s c) := Lib.hid (by rw [← HL.out]; exact (idxF_no s c f i hp hc).symm)
        have q : ((byteAt s i : Int) == (c : Int)) = false := by (simp <;> omega)
        clear hc
        go_wp2
        go_round
        case rel => exact ⟨i + 1, f, by go_num, by omega, by omega, HE⟩
        case measure => simp [intOf]; omega
    · have HE : Hid (idx s c = -1) := Lib.hid (by rw [← HL.out]; exact idxF_end s c f i hp)
      go_wp2
      go_ret
      exact ⟨ret_int HE.out.symm, rfl⟩
end Go.Proofs.YtjkaigfpjebfbaaGreatDoor
