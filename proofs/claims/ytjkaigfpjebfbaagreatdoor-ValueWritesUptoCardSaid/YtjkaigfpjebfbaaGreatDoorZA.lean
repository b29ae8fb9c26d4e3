/- Put together: Texts: the plain law. No program is named here; Names and numbers: the plain law; text.Name, chandlerref4.Name (as in the Text chapter); Two texts side by side: the plain law; A number's decimal string: the plain law; Words: the plain law: Go's spans by runes are the spans by bytes; Trim: the plain law: Go's trimming by runes is the trimming by bytes; Words and trims as rows of bytes: the plain law. -/
import Derived.Test.YtjkaigfpjebfbaaGreatDoorProg
import Derived.Test.YtjkaigfpjebfbaaGreatDoorHeap
import Derived.Lib.DecodeN
import Derived.Lib.RuneCount
import Derived.Lib.FieldsU
import Derived.Lib.QuoteLoop
import Derived.WalkKit
import Derived.WalkSpells
import Derived.Lib.OthersKept
import Derived.Lib.Hide
import Derived.Outline
import Derived.Lib.FieldsP
import Derived.Lib.TrimUEq
import Derived.Shelf.GgClosure.StringsTrimFunc
/- Texts: the plain law. No program is named here. -/
namespace Go.Proofs.YtjkaigfpjebfbaaGreatDoor
open Go.Lib
set_option linter.unusedVariables false

def byteAt (s : ByteArray) (i : Nat) : Nat := (s.get! i).toNat
theorem byteAt_lt (s : ByteArray) (i : Nat) : byteAt s i < 256 := (s.get! i).toNat_lt
theorem byteAt_get (s : ByteArray) (i : Nat) (h : i < s.size) : byteAt s i = (s[i]'h).toNat := by
  cases s with
  | mk bs =>
    have hb : i < bs.size := h
    show (bs[i]!).toNat = (bs[i]'hb).toNat
    rw [getElem!_pos bs i hb]
theorem byteAt_out (s : ByteArray) (i : Nat) (h : ¬ i < s.size) : byteAt s i = 0 := by
  cases s with
  | mk bs =>
    have h' : ¬ i < bs.size := h
    show (bs[i]!).toNat = 0
    rw [getElem!_neg bs i h']; rfl
/-- Is there no good character at a place? -/
def stopP (s : ByteArray) (i : Nat) : Prop := ((Utf8.decode s i).1 = 65533 ∧ (Utf8.decode s i).2 = 1) ∨ ((Utf8.decode s i).1 < 32 ∧ (Utf8.decode s i).1 ≠ 9) ∨ (Utf8.decode s i).1 = 127
instance (s : ByteArray) (i : Nat) : Decidable (stopP s i) := by unfold stopP; infer_instance
def stop (s : ByteArray) (i : Nat) : Bool := decide (stopP s i)
def goodFrom (s : ByteArray) : Nat → Nat → Int
  | 0, _ => -1
  | f + 1, i => if i < s.size then (if stop s i then (i : Int) else goodFrom s f (i + (Utf8.decode s i).2)) else -1
def goodZ (s : ByteArray) : Int := goodFrom s s.size 0
theorem goodFrom_end (s : ByteArray) (f i : Nat) (h : ¬ i < s.size) : goodFrom s f i = -1 := by cases f <;> simp [goodFrom, h]
/-- How wide the character at a place is, by its shortest form; 0: none. -/
def sizeN (n b0 b1 b2 b3 : Nat) : Nat := if (decodeN n b0 b1 b2 b3).1 = 65533 ∧ (decodeN n b0 b1 b2 b3).2 = 1 then 0 else (decodeN n b0 b1 b2 b3).2
def sizeAt (s : ByteArray) (i : Nat) : Nat := sizeN (s.size - i) (byteAt s i) (byteAt s (i + 1)) (byteAt s (i + 2)) (byteAt s (i + 3))
theorem sizeAt_eq (s : ByteArray) (i : Nat) : sizeAt s i = if (Utf8.decode s i).1 = 65533 ∧ (Utf8.decode s i).2 = 1 then 0 else (Utf8.decode s i).2 := by
  unfold sizeAt sizeN
  rw [decode_at]
  rfl
def atB (s : ByteArray) (i lo hi : Nat) : Bool := decide (i < s.size) && decide (lo ≤ byteAt s i) && decide (byteAt s i ≤ hi)
set_option maxHeartbeats 4000000 in
set_option maxRecDepth 100000 in
theorem decodeN_low (n b0 b1 b2 b3 : Nat) (h : (decodeN n b0 b1 b2 b3).1 < 128) : b0 < 128 := by
  unfold decodeN at h
  repeat' split at h
  all_goals (simp only at h; omega)
theorem decodeN_ascii (n b0 b1 b2 b3 : Nat) (h : b0 < 128) : decodeN n b0 b1 b2 b3 = (b0, 1) := by
  unfold decodeN; rw [if_pos h]
/-- The reference's test is the same. -/
theorem stop_ref (s : ByteArray) (i : Nat) (h : i < s.size) : stopP s i ↔ (sizeAt s i = 0 ∨ (byteAt s i < 32 ∧ byteAt s i ≠ 9) ∨ byteAt s i = 127) := by
  have hd : Utf8.decode s i = decodeN (s.size - i) (byteAt s i) (byteAt s (i + 1)) (byteAt s (i + 2)) (byteAt s (i + 3)) := decode_at s i
  have hw : 1 ≤ (Utf8.decode s i).2 := decode_width_pos s i h
  rw [sizeAt_eq]
  unfold stopP
  by_cases hb : byteAt s i < 128
  · have e : Utf8.decode s i = (byteAt s i, 1) := by rw [hd, decodeN_ascii _ _ _ _ _ hb]
    rw [e, if_neg (by simp only; omega)]
    simp only
    omega
  · have h1 : ¬ (Utf8.decode s i).1 < 128 := fun hh => hb (decodeN_low _ _ _ _ _ (hd ▸ hh))
    by_cases hbad : (Utf8.decode s i).1 = 65533 ∧ (Utf8.decode s i).2 = 1
    · rw [if_pos hbad]; simp [hbad.1, hbad.2]
    · rw [if_neg hbad]
      omega
theorem sizeAt_step (s : ByteArray) (i : Nat) (h : stop s i = false) : sizeAt s i = (Utf8.decode s i).2 := by
  rw [sizeAt_eq, if_neg]
  intro h1
  unfold stop at h
  exact of_decide_eq_false h (.inl h1)
set_option maxHeartbeats 4000000 in
set_option maxRecDepth 100000 in
theorem sizeN_slow (n b0 b1 b2 b3 sz lo hi : Nat) (hsz : 2 ≤ sz ∧ sz ≤ 4) (h : slowN n b0 b1 b2 b3 sz lo hi = decodeN n b0 b1 b2 b3) :
    sizeN n b0 b1 b2 b3 = if sz ≤ n ∧ lo ≤ b1 ∧ b1 ≤ hi ∧ (sz ≤ 2 ∨ (128 ≤ b2 ∧ b2 ≤ 191)) ∧ (sz ≤ 3 ∨ (128 ≤ b3 ∧ b3 ≤ 191)) then sz else 0 := by
  unfold sizeN
  rw [← h]
  unfold slowN
  by_cases h1 : n < sz
  · rw [if_pos h1, if_pos ⟨rfl, rfl⟩, if_neg (by omega)]
  · rw [if_neg h1]
    by_cases h2 : b1 < lo ∨ hi < b1
    · rw [if_pos h2, if_pos ⟨rfl, rfl⟩, if_neg (by omega)]
    · rw [if_neg h2]
      by_cases h3 : sz ≤ 2
      · rw [if_pos h3, if_neg (by simp), if_pos (by omega)]
        simp only; omega
      · rw [if_neg h3]
        by_cases h4 : b2 < 128 ∨ 191 < b2
        · rw [if_pos h4, if_pos ⟨rfl, rfl⟩, if_neg (by omega)]
        · rw [if_neg h4]
          by_cases h5 : sz ≤ 3
          · rw [if_pos h5, if_neg (by simp), if_pos (by omega)]
            simp only; omega
          · rw [if_neg h5]
            by_cases h6 : b3 < 128 ∨ 191 < b3
            · rw [if_pos h6, if_pos ⟨rfl, rfl⟩, if_neg (by omega)]
            · rw [if_neg h6, if_neg (by simp), if_pos (by omega)]
              simp only; omega
theorem size_at (s : ByteArray) (sz lo hi : Nat) (hs : 0 < s.size) (hsz : 2 ≤ sz ∧ sz ≤ 4) (hlo : 1 ≤ lo) (h : slowN s.size (byteAt s 0) (byteAt s 1) (byteAt s 2) (byteAt s 3) sz lo hi = decodeN s.size (byteAt s 0) (byteAt s 1) (byteAt s 2) (byteAt s 3)) :
    sizeAt s 0 = if (atB s 1 lo hi && (decide (sz ≤ 2) || atB s 2 128 191) && (decide (sz ≤ 3) || atB s 3 128 191)) = true then sz else 0 := by
  unfold sizeAt
  rw [Nat.sub_zero, Nat.zero_add, Nat.zero_add, Nat.zero_add, sizeN_slow _ _ _ _ _ _ _ _ hsz h]
  have o1 := byteAt_out s 1
  have o2 := byteAt_out s 2
  have o3 := byteAt_out s 3
  unfold atB
  simp only [Bool.and_eq_true, Bool.or_eq_true, decide_eq_true_eq]
  generalize byteAt s 1 = b1 at *
  generalize byteAt s 2 = b2 at *
  generalize byteAt s 3 = b3 at *
  apply ite_congr _ (fun _ => rfl) (fun _ => rfl)
  apply propext
  omega
theorem size_bad (s : ByteArray) (hs : 0 < s.size) (h : (128 ≤ byteAt s 0 ∧ byteAt s 0 < 194) ∨ 245 ≤ byteAt s 0) : sizeAt s 0 = 0 := by
  have h3 := byteAt_lt s 0
  have h4 := byteAt_lt s 1
  have h5 := byteAt_lt s 2
  have h6 := byteAt_lt s 3
  unfold sizeAt sizeN
  rw [Nat.sub_zero, Nat.zero_add, Nat.zero_add, Nat.zero_add, if_pos]
  generalize byteAt s 0 = b0 at *
  generalize byteAt s 1 = b1 at *
  generalize byteAt s 2 = b2 at *
  generalize byteAt s 3 = b3 at *
  have e : decodeN s.size b0 b1 b2 b3 = (65533, 1) := by
    unfold decodeN
    repeat' split
    all_goals first | rfl | (exfalso; omega)
  rw [e]; exact ⟨rfl, rfl⟩
theorem size_ascii (s : ByteArray) (hs : 0 < s.size) (h : byteAt s 0 < 128) : sizeAt s 0 = 1 := by
  unfold sizeAt sizeN
  rw [Nat.sub_zero, decodeN_ascii _ _ _ _ _ h, if_neg]
  simp only; omega
theorem decode_in (s : ByteArray) (i : Nat) (h : i < s.size) : i + (Utf8.decode s i).2 ≤ s.size := by
  rw [decode_at]
  have := decodeN_width_le (s.size - i) (s.get! i).toNat (s.get! (i + 1)).toNat (s.get! (i + 2)).toNat (s.get! (i + 3)).toNat (by omega)
  omega
end Go.Proofs.YtjkaigfpjebfbaaGreatDoor
/- Names and numbers: the plain law. -/
namespace Go.Proofs.YtjkaigfpjebfbaaGreatDoor
open Go.Lib
set_option linter.unusedVariables false

def nameOkP (i b : Nat) : Prop := (97 ≤ b ∧ b ≤ 122) ∨ (48 ≤ b ∧ b ≤ 57) ∨ (0 < i ∧ (b = 43 ∨ b = 45 ∨ b = 46))
instance (i b : Nat) : Decidable (nameOkP i b) := by unfold nameOkP; infer_instance
def nameOk (i b : Nat) : Bool := decide (nameOkP i b)
def nameFrom (s : ByteArray) : Nat → Nat → Bool
  | 0, _ => true
  | f + 1, i => if i < s.size then (nameOk i (byteAt s i) && nameFrom s f (i + 1)) else true
def nameB (s : ByteArray) : Bool := decide (2 ≤ s.size) && decide (s.size ≤ 24) && nameFrom s s.size 0
theorem nameFrom_end (s : ByteArray) (f i : Nat) (h : ¬ i < s.size) : nameFrom s f i = true := by cases f <;> simp [nameFrom, h]
theorem nameFrom_no (s : ByteArray) (f i : Nat) (h : i < s.size) (hn : nameOk i (byteAt s i) = false) : nameFrom s (f + 1) i = false := by simp [nameFrom, h, hn]
theorem nameFrom_yes (s : ByteArray) (f i : Nat) (h : i < s.size) (hn : nameOk i (byteAt s i) = true) : nameFrom s (f + 1) i = nameFrom s f (i + 1) := by simp [nameFrom, h, hn]
def digB (b : Nat) : Bool := decide (48 ≤ b ∧ b ≤ 57)
/-- The decimals from a place on, behind the number acc. -/
def numFrom (s : ByteArray) : Nat → Nat → Nat → Nat × Bool
  | 0, _, acc => (acc, true)
  | f + 1, i, acc => if i < s.size then (if digB (byteAt s i) then numFrom s f (i + 1) (acc * 10 + (byteAt s i - 48)) else (0, false)) else (acc, true)
def numZ (s : ByteArray) : Nat × Bool := if s.size = 0 ∨ 9 < s.size ∨ (1 < s.size ∧ byteAt s 0 = 48) then (0, false) else numFrom s s.size 0 0
theorem numFrom_end (s : ByteArray) (f i acc : Nat) (h : ¬ i < s.size) : numFrom s f i acc = (acc, true) := by cases f <;> simp [numFrom, h]
theorem numFrom_no (s : ByteArray) (f i acc : Nat) (h : i < s.size) (hn : digB (byteAt s i) = false) : numFrom s (f + 1) i acc = (0, false) := by simp [numFrom, h, hn]
theorem numFrom_yes (s : ByteArray) (f i acc : Nat) (h : i < s.size) (hn : digB (byteAt s i) = true) : numFrom s (f + 1) i acc = numFrom s f (i + 1) (acc * 10 + (byteAt s i - 48)) := by simp [numFrom, h, hn]
/-- The rune at a place: the byte, where it is an ASCII one; else nothing that a name or a number has. -/
theorem rune_at (s : ByteArray) (i : Nat) : (byteAt s i < 128 ∧ Utf8.decode s i = (byteAt s i, 1)) ∨ (128 ≤ byteAt s i ∧ 128 ≤ (Utf8.decode s i).1) := by
  have hd : Utf8.decode s i = decodeN (s.size - i) (byteAt s i) (byteAt s (i + 1)) (byteAt s (i + 2)) (byteAt s (i + 3)) := decode_at s i
  by_cases hb : byteAt s i < 128
  · exact .inl ⟨hb, by rw [hd, decodeN_ascii _ _ _ _ _ hb]⟩
  · refine .inr ⟨by omega, ?_⟩
    rcases Nat.lt_or_ge (Utf8.decode s i).1 128 with h | h
    · exact absurd (decodeN_low _ _ _ _ _ (hd ▸ h)) hb
    · exact h
theorem rune_le (s : ByteArray) (i : Nat) : (Utf8.decode s i).1 ≤ 1114111 := by
  have hd : Utf8.decode s i = decodeN (s.size - i) (byteAt s i) (byteAt s (i + 1)) (byteAt s (i + 2)) (byteAt s (i + 3)) := decode_at s i
  rw [hd]
  have := decodeN_valid (s.size - i) (byteAt s i) (byteAt s (i + 1)) (byteAt s (i + 2)) (byteAt s (i + 3)) (byteAt_lt s i)
  omega
/-- A rune of a name. -/
theorem name_rune (s : ByteArray) (i : Nat) : nameOk i (byteAt s i) = decide (nameOkP i (Utf8.decode s i).1) := by
  unfold nameOk
  rcases rune_at s i with ⟨h, e⟩ | ⟨h1, h2⟩
  · rw [e]
  · rw [decide_eq_false, decide_eq_false]
    · unfold nameOkP; omega
    · unfold nameOkP; omega
end Go.Proofs.YtjkaigfpjebfbaaGreatDoor
/- text.Name, chandlerref4.Name (as in the Text chapter). -/
namespace Go.Proofs.YtjkaigfpjebfbaaGreatDoor
open Go.RowKit
set_option linter.unusedVariables false

theorem iterPos_of {w : World} {k : Nat} {s : ByteArray} {p : Nat} (h : w.heap[k]? = some (.stringIter s p)) : w.iterPos k = p := by simp [World.iterPos, h]
theorem lt_of_block {w : World} {k : Nat} {o : Obj} (h : w.heap[k]? = some o) : k < w.heap.size := by
  rcases Nat.lt_or_ge k w.heap.size with h1 | h1
  · exact h1
  · rw [Array.getElem?_eq_none h1] at h; cases h
theorem name_classes (c : Nat) : (97 ≤ c ∧ c ≤ 122) ∨ (48 ≤ c ∧ c ≤ 57) ∨ c = 43 ∨ c = 45 ∨ c = 46 ∨ (c < 48 ∧ c ≠ 43 ∧ c ≠ 45 ∧ c ≠ 46) ∨ (58 ≤ c ∧ c < 97) ∨ 123 ≤ c := by omega
def smB (b : Nat) : Bool := decide (97 ≤ b ∧ b ≤ 122)
theorem small_any (b : Nat) (w : World) (hb : b < 256) : Calls Tryz.prog 92 #[.int .u8 (b : Int)] w fun e w' => e = .returned (.bool (smB b)) ∧ w = w' := by
  by_cases h1 : 97 ≤ b
  · by_cases h2 : b ≤ 122
    · have HE := Lib.hid (show smB b = true from decide_eq_true ⟨h1, h2⟩)
      have q : decide ((b : Int) ≤ 122) = true := by (simp <;> omega)
      go_enter Tryz.func92, Tryz.ntmps92
      go_wp2
      go_ret
      exact ⟨ret_bool HE.out.symm, rfl⟩
    · have HE := Lib.hid (show smB b = false from decide_eq_false (by omega))
      have q : decide ((b : Int) ≤ 122) = false := by (simp <;> omega)
      go_enter Tryz.func92, Tryz.ntmps92
      go_wp2
      go_ret
      exact ⟨ret_bool HE.out.symm, rfl⟩
  · have HE := Lib.hid (show smB b = false from decide_eq_false (by omega))
    go_enter Tryz.func92, Tryz.ntmps92
    go_wp2
    go_ret
    exact ⟨ret_bool HE.out.symm, rfl⟩
theorem digit_any (b : Nat) (w : World) (hb : b < 256) : Calls Tryz.prog 93 #[.int .u8 (b : Int)] w fun e w' => e = .returned (.bool (digB b)) ∧ w = w' := by
  by_cases h1 : 48 ≤ b
  · by_cases h2 : b ≤ 57
    · have HE := Lib.hid (show digB b = true from decide_eq_true ⟨h1, h2⟩)
      have q : decide ((b : Int) ≤ 57) = true := by (simp <;> omega)
      go_enter Tryz.func93, Tryz.ntmps93
      go_wp2
      go_ret
      exact ⟨ret_bool HE.out.symm, rfl⟩
    · have HE := Lib.hid (show digB b = false from decide_eq_false (by omega))
      have q : decide ((b : Int) ≤ 57) = false := by (simp <;> omega)
      go_enter Tryz.func93, Tryz.ntmps93
      go_wp2
      go_ret
      exact ⟨ret_bool HE.out.symm, rfl⟩
  · have HE := Lib.hid (show digB b = false from decide_eq_false (by omega))
    go_enter Tryz.func93, Tryz.ntmps93
    go_wp2
    go_ret
    exact ⟨ret_bool HE.out.symm, rfl⟩
set_option maxRecDepth 100000 in
set_option maxHeartbeats 4000000 in
theorem Name_any (s : ByteArray) (w : World) (hs : s.size ≤ 9223372036854775807) :
    Calls Tryz.prog 38 #[.string s] w fun e w' => e = .returned (.bool (nameB s)) ∧ Below w.heap.size w w' := by
  by_cases hlo : 2 ≤ s.size
  · by_cases hhi : s.size ≤ 24
    · have e : nameB s = nameFrom s s.size 0 := by unfold nameB; simp [hlo, hhi]
      have HE := Lib.hid e
      clear e
      go_enter Tryz.func38, Tryz.ntmps38
      go_wp2
      go_loopw [3] (fun _ wr => ∃ (pos fuel : Nat), wr.heap[w.heap.size]? = some (.stringIter s pos) ∧ Below w.heap.size w wr ∧ Hid (nameFrom s fuel pos = nameB s) ∧ s.size ≤ pos + fuel) (fun _ wr => s.size - wr.iterPos w.heap.size)
      case atStart => exact ⟨0, s.size, World.iter_heap w s 0, (Below.refl _ _).alloc (Nat.le_refl _) _, HE.out.symm, by omega⟩
      case round =>
        obtain ⟨pos, fuel, hit, hbw, HS, hb⟩ := hrel
        have hpos0 := iterPos_of hit
        by_cases hp : pos < s.size
        · have hnx : ∀ ty, (Instr.next (.pointer (some ⟨w.heap.size, 0, none⟩)) true ty).run Tryz.prog wr = _ := fun ty => Lib.run_next_any_at wr w.heap.size s pos ty hit hp
          have hwd := Lib.decode_width_pos s pos hp
          have hin := decode_in s pos hp
          obtain ⟨fuel, rfl⟩ : ∃ f', fuel = f' + 1 := ⟨fuel - 1, by omega⟩
          have hit2 := Lib.iterAt_heap wr w.heap.size s pos (pos + (Utf8.decode s pos).2) hit
          have hbw2 := Lib.below_iterAt hbw (k := w.heap.size) (Nat.le_refl _) s (pos + (Utf8.decode s pos).2)
          obtain ⟨W1, hW1⟩ : ∃ W1, W1 = wr.iterAt w.heap.size s (pos + (Utf8.decode s pos).2) := ⟨_, rfl⟩
          rw [← hW1] at hnx hit2 hbw2
          have HHit := Lib.hid hit2
          have HBw := Lib.hid hbw2
          have hno := nameFrom_no s fuel pos hp
          have hyes := nameFrom_yes s fuel pos hp
          have hra := rune_at s pos
          have hle := rune_le s pos
          rw [name_rune] at hno hyes
          have hone : nameOkP pos (Utf8.decode s pos).1 → (Utf8.decode s pos).2 = 1 := by
            intro h
            rcases hra with ⟨h1, e⟩ | ⟨h1, h2⟩
            · rw [e]
            · unfold nameOkP at h; omega
          have HNo := Lib.hid hno
          have HYes := Lib.hid hyes
          have HOne := Lib.hid hone
          have HPos := Lib.hid hpos0
          clear hW1 hit hbw hit2 hbw2 hpos0 hno hyes hone hra
          obtain ⟨c, hc⟩ : ∃ c, c = (Utf8.decode s pos).1 := ⟨_, rfl⟩
          obtain ⟨n, hn⟩ : ∃ n, n = (Utf8.decode s pos).2 := ⟨_, rfl⟩
          rw [← hc] at hnx hle HNo HYes HOne
          rw [← hn] at hwd hin HHit HOne
          clear hc hn
          rcases name_classes c with h1 | h1 | h1 | h1 | h1 | h1 | h1 | h1
          · have q122 : decide ((c : Int) ≤ 122) = true := by (simp <;> omega)
            have hone := HOne.out (by unfold nameOkP; omega)
            have HF := Lib.hid (HYes.out (decide_eq_true (by unfold nameOkP; omega)))
            rw [hone] at HHit
            clear HNo HYes HOne hone
            go_wp2
            go_roundw
            case rel => exact ⟨pos + 1, fuel, HHit.out, HBw.out, by show _ = _; rw [← HS.out]; exact HF.out.symm, by omega⟩
            case measure =>
              rw [iterPos_of HHit.out, HPos.out]
              omega
          · have q57 : decide ((c : Int) ≤ 57) = true := by (simp <;> omega)
            have hone := HOne.out (by unfold nameOkP; omega)
            have HF := Lib.hid (HYes.out (decide_eq_true (by unfold nameOkP; omega)))
            rw [hone] at HHit
            clear HNo HYes HOne hone
            go_wp2
            go_roundw
            case rel => exact ⟨pos + 1, fuel, HHit.out, HBw.out, by show _ = _; rw [← HS.out]; exact HF.out.symm, by omega⟩
            case measure =>
              rw [iterPos_of HHit.out, HPos.out]
              omega
          · have n43 : ((c : Int) != 43) = false := by (simp <;> omega)
            have m43 : ((c : Int) == 43) = true := by (simp <;> omega)
            have n45 : ((c : Int) != 45) = true := by (simp <;> omega)
            have m45 : ((c : Int) == 45) = false := by (simp <;> omega)
            have n46 : ((c : Int) != 46) = true := by (simp <;> omega)
            have m46 : ((c : Int) == 46) = false := by (simp <;> omega)
            by_cases hz : pos = 0
            · subst hz
              have HF := Lib.hid (HNo.out (decide_eq_false (by unfold nameOkP; omega)))
              clear HNo HYes HOne
              go_wp2
              go_ret
              exact ⟨ret_bool (by rw [← HS.out]; exact HF.out.symm), HBw.out⟩
            · have z : ((pos : Int) == 0) = false := by (simp <;> omega)
              have hone := HOne.out (by unfold nameOkP; omega)
              have HF := Lib.hid (HYes.out (decide_eq_true (by unfold nameOkP; omega)))
              rw [hone] at HHit
              clear HNo HYes HOne hone
              go_wp2
              go_roundw
              case rel => exact ⟨pos + 1, fuel, HHit.out, HBw.out, by show _ = _; rw [← HS.out]; exact HF.out.symm, by omega⟩
              case measure =>
                rw [iterPos_of HHit.out, HPos.out]
                omega
          · have n43 : ((c : Int) != 43) = true := by (simp <;> omega)
            have m43 : ((c : Int) == 43) = false := by (simp <;> omega)
            have n45 : ((c : Int) != 45) = false := by (simp <;> omega)
            have m45 : ((c : Int) == 45) = true := by (simp <;> omega)
            have n46 : ((c : Int) != 46) = true := by (simp <;> omega)
            have m46 : ((c : Int) == 46) = false := by (simp <;> omega)
            by_cases hz : pos = 0
            · subst hz
              have HF := Lib.hid (HNo.out (decide_eq_false (by unfold nameOkP; omega)))
              clear HNo HYes HOne
              go_wp2
              go_ret
              exact ⟨ret_bool (by rw [← HS.out]; exact HF.out.symm), HBw.out⟩
            · have z : ((pos : Int) == 0) = false := by (simp <;> omega)
              have hone := HOne.out (by unfold nameOkP; omega)
              have HF := Lib.hid (HYes.out (decide_eq_true (by unfold nameOkP; omega)))
              rw [hone] at HHit
              clear HNo HYes HOne hone
              go_wp2
              go_roundw
              case rel => exact ⟨pos + 1, fuel, HHit.out, HBw.out, by show _ = _; rw [← HS.out]; exact HF.out.symm, by omega⟩
              case measure =>
                rw [iterPos_of HHit.out, HPos.out]
                omega
          · have n43 : ((c : Int) != 43) = true := by (simp <;> omega)
            have m43 : ((c : Int) == 43) = false := by (simp <;> omega)
            have n45 : ((c : Int) != 45) = true := by (simp <;> omega)
            have m45 : ((c : Int) == 45) = false := by (simp <;> omega)
            have n46 : ((c : Int) != 46) = false := by (simp <;> omega)
            have m46 : ((c : Int) == 46) = true := by (simp <;> omega)
            by_cases hz : pos = 0
            · subst hz
              have HF := Lib.hid (HNo.out (decide_eq_false (by unfold nameOkP; omega)))
              clear HNo HYes HOne
              go_wp2
              go_ret
              exact ⟨ret_bool (by rw [← HS.out]; exact HF.out.symm), HBw.out⟩
            · have z : ((pos : Int) == 0) = false := by (simp <;> omega)
              have hone := HOne.out (by unfold nameOkP; omega)
              have HF := Lib.hid (HYes.out (decide_eq_true (by unfold nameOkP; omega)))
              rw [hone] at HHit
              clear HNo HYes HOne hone
              go_wp2
              go_roundw
              case rel => exact ⟨pos + 1, fuel, HHit.out, HBw.out, by show _ = _; rw [← HS.out]; exact HF.out.symm, by omega⟩
              case measure =>
                rw [iterPos_of HHit.out, HPos.out]
                omega
          · have n43 : ((c : Int) != 43) = true := by (simp <;> omega)
            have m43 : ((c : Int) == 43) = false := by (simp <;> omega)
            have n45 : ((c : Int) != 45) = true := by (simp <;> omega)
            have m45 : ((c : Int) == 45) = false := by (simp <;> omega)
            have n46 : ((c : Int) != 46) = true := by (simp <;> omega)
            have m46 : ((c : Int) == 46) = false := by (simp <;> omega)
            by_cases hz : pos = 0
            · subst hz
              have HF := Lib.hid (HNo.out (decide_eq_false (by unfold nameOkP; omega)))
              clear HNo HYes HOne
              go_wp2
              go_ret
              exact ⟨ret_bool (by rw [← HS.out]; exact HF.out.symm), HBw.out⟩
            · have z : ((pos : Int) == 0) = false := by (simp <;> omega)
              have HF := Lib.hid (HNo.out (decide_eq_false (by unfold nameOkP; omega)))
              clear HNo HYes HOne
              go_wp2
              go_ret
              exact ⟨ret_bool (by rw [← HS.out]; exact HF.out.symm), HBw.out⟩
          · have n43 : ((c : Int) != 43) = true := by (simp <;> omega)
            have m43 : ((c : Int) == 43) = false := by (simp <;> omega)
            have n45 : ((c : Int) != 45) = true := by (simp <;> omega)
            have m45 : ((c : Int) == 45) = false := by (simp <;> omega)
            have n46 : ((c : Int) != 46) = true := by (simp <;> omega)
            have m46 : ((c : Int) == 46) = false := by (simp <;> omega)
            have q57 : decide ((c : Int) ≤ 57) = false := by (simp <;> omega)
            by_cases hz : pos = 0
            · subst hz
              have HF := Lib.hid (HNo.out (decide_eq_false (by unfold nameOkP; omega)))
              clear HNo HYes HOne
              go_wp2
              go_ret
              exact ⟨ret_bool (by rw [← HS.out]; exact HF.out.symm), HBw.out⟩
            · have z : ((pos : Int) == 0) = false := by (simp <;> omega)
              have HF := Lib.hid (HNo.out (decide_eq_false (by unfold nameOkP; omega)))
              clear HNo HYes HOne
              go_wp2
              go_ret
              exact ⟨ret_bool (by rw [← HS.out]; exact HF.out.symm), HBw.out⟩
          · have n43 : ((c : Int) != 43) = true := by (simp <;> omega)
            have m43 : ((c : Int) == 43) = false := by (simp <;> omega)
            have n45 : ((c : Int) != 45) = true := by (simp <;> omega)
            have m45 : ((c : Int) == 45) = false := by (simp <;> omega)
            have n46 : ((c : Int) != 46) = true := by (simp <;> omega)
            have m46 : ((c : Int) == 46) = false := by (simp <;> omega)
            have q57 : decide ((c : Int) ≤ 57) = false := by (simp <;> omega)
            have q122 : decide ((c : Int) ≤ 122) = false := by (simp <;> omega)
            by_cases hz : pos = 0
            · subst hz
              have HF := Lib.hid (HNo.out (decide_eq_false (by unfold nameOkP; omega)))
              clear HNo HYes HOne
              go_wp2
              go_ret
              exact ⟨ret_bool (by rw [← HS.out]; exact HF.out.symm), HBw.out⟩
            · have z : ((pos : Int) == 0) = false := by (simp <;> omega)
              have HF := Lib.hid (HNo.out (decide_eq_false (by unfold nameOkP; omega)))
              clear HNo HYes HOne
              go_wp2
              go_ret
              exact ⟨ret_bool (by rw [← HS.out]; exact HF.out.symm), HBw.out⟩
        · have hnx : ∀ ty, (Instr.next (.pointer (some ⟨w.heap.size, 0, none⟩)) true ty).run Tryz.prog wr = _ := fun ty => Lib.run_next_end_at wr w.heap.size s pos ty hit hp
          have e : nameB s = true := by rw [← HS.out]; exact nameFrom_end s fuel pos hp
          have HE := Lib.hid e
          have HBw := Lib.hid hbw
          clear e hbw
          go_wp2
          go_ret
          exact ⟨ret_bool HE.out.symm, HBw.out⟩
    · have e : nameB s = false := by unfold nameB; simp [hhi]
      have HE := Lib.hid e
      clear e
      go_enter Tryz.func38, Tryz.ntmps38
      go_wp2
      go_ret
      exact ⟨ret_bool HE.out.symm, Below.refl _ _⟩
  · have e : nameB s = false := by unfold nameB; simp [hlo]
    have HE := Lib.hid e
    clear e
    go_enter Tryz.func38, Tryz.ntmps38
    go_wp2
    go_ret
    exact ⟨ret_bool HE.out.symm, Below.refl _ _⟩
set_option maxRecDepth 100000 in
set_option maxHeartbeats 40000000 in
theorem RefName_any (s : ByteArray) (w : World) (hs : s.size ≤ 9223372036854775807) :
    Calls Tryz.prog 74 #[.string s] w fun e w' => e = .returned (.bool (nameB s)) ∧ w = w' := by
  obtain ⟨q, hq⟩ : ∃ q, q = nameFrom s s.size 0 := ⟨_, rfl⟩
  have HQ := Lib.hid hq
  clear hq
  go_enter Tryz.func74, Tryz.ntmps74
  go_wp2
  go_loop [7] (fun v => ∃ (pos fuel : Nat), v = .int .i64 pos ∧ Hid (nameFrom s fuel pos = nameFrom s s.size 0) ∧ pos ≤ s.size ∧ s.size ≤ pos + fuel) (fun v => s.size - (intOf v).toNat)
  case atStart => exact ⟨0, s.size, rfl, rfl, by omega, by omega⟩
  case round =>
    obtain ⟨pos, fuel, rfl, HS, hps, hb⟩ := hrel
    by_cases hp : pos < s.size
    · obtain ⟨fuel, rfl⟩ : ∃ f', fuel = f' + 1 := ⟨fuel - 1, by omega⟩
      have hx2 : ((s[pos]'hp).toNat : Nat) = byteAt s pos := (byteAt_get s pos hp).symm
      have hno := nameFrom_no s fuel pos hp
      have hyes := nameFrom_yes s fuel pos hp
      have hc8 := byteAt_lt s pos
      have HNo := Lib.hid hno
      have HYes := Lib.hid hyes
      clear hno hyes
      obtain ⟨c, hc⟩ : ∃ c, c = byteAt s pos := ⟨_, rfl⟩
      rw [← hc] at hx2 hc8 HNo HYes
      clear hc
      rcases name_classes c with h1 | h1 | h1 | h1 | h1 | h1 | h1 | h1
      · have sm : smB c = true := decide_eq_true h1
        have dg : digB c = false := decide_eq_false (by omega)
        have HF := Lib.hid (HYes.out (decide_eq_true (by unfold nameOkP; omega)))
        clear HNo HYes
        go_wp2_with (first | (go_at_call 92; refine (small_any c _ hc8).mono ?_; rintro e w' ⟨rfl, rfl⟩) | (go_at_call 93; refine (digit_any c _ hc8).mono ?_; rintro e w' ⟨rfl, rfl⟩))
        go_round
        case rel => exact ⟨pos + 1, fuel, by go_num, by show _ = _; rw [← HS.out]; exact HF.out.symm, by omega, by omega⟩
        case measure => simp [intOf]; omega
      · have sm : smB c = false := decide_eq_false (by omega)
        have dg : digB c = true := decide_eq_true h1
        have HF := Lib.hid (HYes.out (decide_eq_true (by unfold nameOkP; omega)))
        clear HNo HYes
        go_wp2_with (first | (go_at_call 92; refine (small_any c _ hc8).mono ?_; rintro e w' ⟨rfl, rfl⟩) | (go_at_call 93; refine (digit_any c _ hc8).mono ?_; rintro e w' ⟨rfl, rfl⟩))
        go_round
        case rel => exact ⟨pos + 1, fuel, by go_num, by show _ = _; rw [← HS.out]; exact HF.out.symm, by omega, by omega⟩
        case measure => simp [intOf]; omega
      · have sm : smB c = false := decide_eq_false (by omega)
        have dg : digB c = false := decide_eq_false (by omega)
        have g1 : 43 ≤ c := by omega
        have g2 : c ≤ 43 := by omega
        clear h1
        have n43 : ((c : Int) != 43) = false := by (simp <;> omega)
        have m43 : ((c : Int) == 43) = true := by (simp <;> omega)
        have n45 : ((c : Int) != 45) = true := by (simp <;> omega)
        have m45 : ((c : Int) == 45) = false := by (simp <;> omega)
        have n46 : ((c : Int) != 46) = true := by (simp <;> omega)
        have m46 : ((c : Int) == 46) = false := by (simp <;> omega)
        by_cases hz : pos = 0
        · subst hz
          have HF := Lib.hid (HNo.out (decide_eq_false (by unfold nameOkP; omega)))
          clear HNo HYes
          go_wp2_with (first | (go_at_call 92; refine (small_any c _ hc8).mono ?_; rintro e w' ⟨rfl, rfl⟩) | (go_at_call 93; refine (digit_any c _ hc8).mono ?_; rintro e w' ⟨rfl, rfl⟩))
          go_ret
          exact ⟨ret_bool (by unfold nameB; rw [← HS.out, HF.out]; simp), rfl⟩
        · have z : ((pos : Int) == 0) = false := by (simp <;> omega)
          have HF := Lib.hid (HYes.out (decide_eq_true (by unfold nameOkP; omega)))
          clear HNo HYes
          go_wp2_with (first | (go_at_call 92; refine (small_any c _ hc8).mono ?_; rintro e w' ⟨rfl, rfl⟩) | (go_at_call 93; refine (digit_any c _ hc8).mono ?_; rintro e w' ⟨rfl, rfl⟩))
          go_round
          case rel => exact ⟨pos + 1, fuel, by go_num, by show _ = _; rw [← HS.out]; exact HF.out.symm, by omega, by omega⟩
          case measure => simp [intOf]; omega
      · have sm : smB c = false := decide_eq_false (by omega)
        have dg : digB c = false := decide_eq_false (by omega)
        have g1 : 45 ≤ c := by omega
        have g2 : c ≤ 45 := by omega
        clear h1
        have n43 : ((c : Int) != 43) = true := by (simp <;> omega)
        have m43 : ((c : Int) == 43) = false := by (simp <;> omega)
        have n45 : ((c : Int) != 45) = false := by (simp <;> omega)
        have m45 : ((c : Int) == 45) = true := by (simp <;> omega)
        have n46 : ((c : Int) != 46) = true := by (simp <;> omega)
        have m46 : ((c : Int) == 46) = false := by (simp <;> omega)
        by_cases hz : pos = 0
        · subst hz
          have HF := Lib.hid (HNo.out (decide_eq_false (by unfold nameOkP; omega)))
          clear HNo HYes
          go_wp2_with (first | (go_at_call 92; refine (small_any c _ hc8).mono ?_; rintro e w' ⟨rfl, rfl⟩) | (go_at_call 93; refine (digit_any c _ hc8).mono ?_; rintro e w' ⟨rfl, rfl⟩))
          go_ret
          exact ⟨ret_bool (by unfold nameB; rw [← HS.out, HF.out]; simp), rfl⟩
        · have z : ((pos : Int) == 0) = false := by (simp <;> omega)
          have HF := Lib.hid (HYes.out (decide_eq_true (by unfold nameOkP; omega)))
          clear HNo HYes
          go_wp2_with (first | (go_at_call 92; refine (small_any c _ hc8).mono ?_; rintro e w' ⟨rfl, rfl⟩) | (go_at_call 93; refine (digit_any c _ hc8).mono ?_; rintro e w' ⟨rfl, rfl⟩))
          go_round
          case rel => exact ⟨pos + 1, fuel, by go_num, by show _ = _; rw [← HS.out]; exact HF.out.symm, by omega, by omega⟩
          case measure => simp [intOf]; omega
      · have sm : smB c = false := decide_eq_false (by omega)
        have dg : digB c = false := decide_eq_false (by omega)
        have g1 : 46 ≤ c := by omega
        have g2 : c ≤ 46 := by omega
        clear h1
        have n43 : ((c : Int) != 43) = true := by (simp <;> omega)
        have m43 : ((c : Int) == 43) = false := by (simp <;> omega)
        have n45 : ((c : Int) != 45) = true := by (simp <;> omega)
        have m45 : ((c : Int) == 45) = false := by (simp <;> omega)
        have n46 : ((c : Int) != 46) = false := by (simp <;> omega)
        have m46 : ((c : Int) == 46) = true := by (simp <;> omega)
        by_cases hz : pos = 0
        · subst hz
          have HF := Lib.hid (HNo.out (decide_eq_false (by unfold nameOkP; omega)))
          clear HNo HYes
          go_wp2_with (first | (go_at_call 92; refine (small_any c _ hc8).mono ?_; rintro e w' ⟨rfl, rfl⟩) | (go_at_call 93; refine (digit_any c _ hc8).mono ?_; rintro e w' ⟨rfl, rfl⟩))
          go_ret
          exact ⟨ret_bool (by unfold nameB; rw [← HS.out, HF.out]; simp), rfl⟩
        · have z : ((pos : Int) == 0) = false := by (simp <;> omega)
          have HF := Lib.hid (HYes.out (decide_eq_true (by unfold nameOkP; omega)))
          clear HNo HYes
          go_wp2_with (first | (go_at_call 92; refine (small_any c _ hc8).mono ?_; rintro e w' ⟨rfl, rfl⟩) | (go_at_call 93; refine (digit_any c _ hc8).mono ?_; rintro e w' ⟨rfl, rfl⟩))
          go_round
          case rel => exact ⟨pos + 1, fuel, by go_num, by show _ = _; rw [← HS.out]; exact HF.out.symm, by omega, by omega⟩
          case measure => simp [intOf]; omega
      · have sm : smB c = false := decide_eq_false (by omega)
        have dg : digB c = false := decide_eq_false (by omega)
        have n43 : ((c : Int) != 43) = true := by (simp <;> omega)
        have m43 : ((c : Int) == 43) = false := by (simp <;> omega)
        have n45 : ((c : Int) != 45) = true := by (simp <;> omega)
        have m45 : ((c : Int) == 45) = false := by (simp <;> omega)
        have n46 : ((c : Int) != 46) = true := by (simp <;> omega)
        have m46 : ((c : Int) == 46) = false := by (simp <;> omega)
        by_cases hz : pos = 0
        · subst hz
          have HF := Lib.hid (HNo.out (decide_eq_false (by unfold nameOkP; omega)))
          clear HNo HYes
          go_wp2_with (first | (go_at_call 92; refine (small_any c _ hc8).mono ?_; rintro e w' ⟨rfl, rfl⟩) | (go_at_call 93; refine (digit_any c _ hc8).mono ?_; rintro e w' ⟨rfl, rfl⟩))
          go_ret
          exact ⟨ret_bool (by unfold nameB; rw [← HS.out, HF.out]; simp), rfl⟩
        · have z : ((pos : Int) == 0) = false := by (simp <;> omega)
          have HF := Lib.hid (HNo.out (decide_eq_false (by unfold nameOkP; omega)))
          clear HNo HYes
          go_wp2_with (first | (go_at_call 92; refine (small_any c _ hc8).mono ?_; rintro e w' ⟨rfl, rfl⟩) | (go_at_call 93; refine (digit_any c _ hc8).mono ?_; rintro e w' ⟨rfl, rfl⟩))
          go_ret
          exact ⟨ret_bool (by unfold nameB; rw [← HS.out, HF.out]; simp), rfl⟩
      · have sm : smB c = false := decide_eq_false (by omega)
        have dg : digB c = false := decide_eq_false (by omega)
        have n43 : ((c : Int) != 43) = true := by (simp <;> omega)
        have m43 : ((c : Int) == 43) = false := by (simp <;> omega)
        have n45 : ((c : Int) != 45) = true := by (simp <;> omega)
        have m45 : ((c : Int) == 45) = false := by (simp <;> omega)
        have n46 : ((c : Int) != 46) = true := by (simp <;> omega)
        have m46 : ((c : Int) == 46) = false := by (simp <;> omega)
        by_cases hz : pos = 0
        · subst hz
          have HF := Lib.hid (HNo.out (decide_eq_false (by unfold nameOkP; omega)))
          clear HNo HYes
          go_wp2_with (first | (go_at_call 92; refine (small_any c _ hc8).mono ?_; rintro e w' ⟨rfl, rfl⟩) | (go_at_call 93; refine (digit_any c _ hc8).mono ?_; rintro e w' ⟨rfl, rfl⟩))
          go_ret
          exact ⟨ret_bool (by unfold nameB; rw [← HS.out, HF.out]; simp), rfl⟩
        · have z : ((pos : Int) == 0) = false := by (simp <;> omega)
          have HF := Lib.hid (HNo.out (decide_eq_false (by unfold nameOkP; omega)))
          clear HNo HYes
          go_wp2_with (first | (go_at_call 92; refine (small_any c _ hc8).mono ?_; rintro e w' ⟨rfl, rfl⟩) | (go_at_call 93; refine (digit_any c _ hc8).mono ?_; rintro e w' ⟨rfl, rfl⟩))
          go_ret
          exact ⟨ret_bool (by unfold nameB; rw [← HS.out, HF.out]; simp), rfl⟩
      · have sm : smB c = false := decide_eq_false (by omega)
        have dg : digB c = false := decide_eq_false (by omega)
        have n43 : ((c : Int) != 43) = true := by (simp <;> omega)
        have m43 : ((c : Int) == 43) = false := by (simp <;> omega)
        have n45 : ((c : Int) != 45) = true := by (simp <;> omega)
        have m45 : ((c : Int) == 45) = false := by (simp <;> omega)
        have n46 : ((c : Int) != 46) = true := by (simp <;> omega)
        have m46 : ((c : Int) == 46) = false := by (simp <;> omega)
        by_cases hz : pos = 0
        · subst hz
          have HF := Lib.hid (HNo.out (decide_eq_false (by unfold nameOkP; omega)))
          clear HNo HYes
          go_wp2_with (first | (go_at_call 92; refine (small_any c _ hc8).mono ?_; rintro e w' ⟨rfl, rfl⟩) | (go_at_call 93; refine (digit_any c _ hc8).mono ?_; rintro e w' ⟨rfl, rfl⟩))
          go_ret
          exact ⟨ret_bool (by unfold nameB; rw [← HS.out, HF.out]; simp), rfl⟩
        · have z : ((pos : Int) == 0) = false := by (simp <;> omega)
          have HF := Lib.hid (HNo.out (decide_eq_false (by unfold nameOkP; omega)))
          clear HNo HYes
          go_wp2_with (first | (go_at_call 92; refine (small_any c _ hc8).mono ?_; rintro e w' ⟨rfl, rfl⟩) | (go_at_call 93; refine (digit_any c _ hc8).mono ?_; rintro e w' ⟨rfl, rfl⟩))
          go_ret
          exact ⟨ret_bool (by unfold nameB; rw [← HS.out, HF.out]; simp), rfl⟩
    · have e : nameFrom s s.size 0 = true := by rw [← HS.out]; exact nameFrom_end s fuel pos hp
      by_cases hlo : 2 ≤ s.size
      · by_cases hhi : s.size ≤ 24
        · have HE := Lib.hid (show nameB s = true by unfold nameB; rw [e]; simp [hlo, hhi])
          have q24 : decide ((s.size : Int) ≤ 24) = true := decide_eq_true (by omega)
          clear e
          go_wp2
          go_ret
          exact ⟨ret_bool HE.out.symm, rfl⟩
        · have HE := Lib.hid (show nameB s = false by unfold nameB; simp [hhi])
          have q24 : decide ((s.size : Int) ≤ 24) = false := decide_eq_false (by omega)
          clear e
          go_wp2
          go_ret
          exact ⟨ret_bool HE.out.symm, rfl⟩
      · have HE := Lib.hid (show nameB s = false by unfold nameB; simp [hlo])
        clear e
        go_wp2
        go_ret
        exact ⟨ret_bool HE.out.symm, rfl⟩
end Go.Proofs.YtjkaigfpjebfbaaGreatDoor
/- Two texts side by side: the plain law. -/
namespace Go.Proofs.YtjkaigfpjebfbaaGreatDoor
open Go.Lib
set_option linter.unusedVariables false

theorem decodeN_more (n n' b0 b1 b2 b3 c1 c2 c3 : Nat) (hn : n ≤ n') (h1 : 1 < n → c1 = b1) (h2 : 2 < n → c2 = b2) (h3 : 3 < n → c3 = b3) (hgood : decodeN n b0 b1 b2 b3 ≠ (65533, 1)) :
    decodeN n' b0 c1 c2 c3 = decodeN n b0 b1 b2 b3 := by
  unfold decodeN at *
  by_cases ha : b0 < 128
  · rw [if_pos ha, if_pos ha]
  · rw [if_neg ha] at hgood ⊢
    rw [if_neg ha]
    by_cases hb : b0 / 32 = 6 ∧ (1 < n ∧ b1 / 64 = 2)
    · obtain rfl := h1 hb.2.1
      rw [if_pos hb, if_pos ⟨hb.1, by omega, hb.2.2⟩]
    · rw [if_neg hb] at hgood ⊢
      have n6 : b0 / 32 ≠ 6 := by
        intro e
        apply hgood
        rw [if_neg (by omega), if_neg (by omega)]
      rw [if_neg (fun h => n6 h.1)]
      by_cases hc : b0 / 16 = 14 ∧ (1 < n ∧ b1 / 64 = 2) ∧ (2 < n ∧ b2 / 64 = 2)
      · obtain rfl := h1 hc.2.1.1
        obtain rfl := h2 hc.2.2.1
        rw [if_pos hc, if_pos ⟨hc.1, ⟨by omega, hc.2.1.2⟩, by omega, hc.2.2.2⟩]
      · rw [if_neg hc] at hgood ⊢
        have n14 : b0 / 16 ≠ 14 := by
          intro e
          apply hgood
          rw [if_neg (by omega)]
        rw [if_neg (fun h => n14 h.1)]
        by_cases hd : b0 / 8 = 30 ∧ (1 < n ∧ b1 / 64 = 2) ∧ (2 < n ∧ b2 / 64 = 2) ∧ (3 < n ∧ b3 / 64 = 2)
        · obtain rfl := h1 hd.2.1.1
          obtain rfl := h2 hd.2.2.1.1
          obtain rfl := h3 hd.2.2.2.1
          rw [if_pos hd, if_pos ⟨hd.1, ⟨by omega, hd.2.1.2⟩, ⟨by omega, hd.2.2.1.2⟩, by omega, hd.2.2.2.2⟩]
        · rw [if_neg hd] at hgood
          exact absurd rfl hgood
theorem app_size (a b : ByteArray) : (a ++ b).size = a.size + b.size := ByteArray.size_append
theorem byteAt_left (a b : ByteArray) (i : Nat) (h : i < a.size) : byteAt (a ++ b) i = byteAt a i := by
  rw [byteAt_get _ _ (by rw [app_size]; omega), byteAt_get _ _ h]
  congr 1
  exact ByteArray.getElem_append_left h
theorem byteAt_right (a b : ByteArray) (j : Nat) : byteAt (a ++ b) (a.size + j) = byteAt b j := by
  by_cases h : j < b.size
  · rw [byteAt_get _ _ (by rw [app_size]; omega), byteAt_get _ _ h]
    congr 1
    rw [ByteArray.getElem_append_right (by omega)]
    congr 1
    omega
  · rw [byteAt_out _ _ (by rw [app_size]; omega), byteAt_out _ _ h]
theorem decode_left (a b : ByteArray) (i : Nat) (h : i < a.size) (hg : Utf8.decode a i ≠ (65533, 1)) : Utf8.decode (a ++ b) i = Utf8.decode a i := by
  rw [decode_at] at hg ⊢
  rw [decode_at a i]
  have e0 := byteAt_left a b i h
  unfold byteAt at e0
  rw [e0]
  refine decodeN_more _ _ _ _ _ _ _ _ _ (by rw [app_size]; omega) (fun hh => ?_) (fun hh => ?_) (fun hh => ?_) hg
  · exact byteAt_left a b (i + 1) (by omega)
  · exact byteAt_left a b (i + 2) (by omega)
  · exact byteAt_left a b (i + 3) (by omega)
theorem decode_right (a b : ByteArray) (j : Nat) : Utf8.decode (a ++ b) (a.size + j) = Utf8.decode b j := by
  rw [decode_at, decode_at b j, app_size]
  have e := fun k => byteAt_right a b k
  unfold byteAt at e
  rw [e j, show a.size + j + 1 = a.size + (j + 1) by omega, e (j + 1), show a.size + j + 2 = a.size + (j + 2) by omega, e (j + 2), show a.size + j + 3 = a.size + (j + 3) by omega, e (j + 3)]
  congr 1
  omega
theorem good_of_go {s : ByteArray} {i : Nat} (h : stop s i = false) : Utf8.decode s i ≠ (65533, 1) := by
  intro e
  unfold stop at h
  exact of_decide_eq_false h (.inl ⟨by rw [e], by rw [e]⟩)
theorem stop_of_eq {s t : ByteArray} {i j : Nat} (h : Utf8.decode s i = Utf8.decode t j) : stop s i = stop t j := by
  unfold stop
  congr 1
  unfold stopP
  rw [h]
theorem goodFrom_fuel (s : ByteArray) : ∀ (f g i : Nat), s.size ≤ i + f → s.size ≤ i + g → goodFrom s f i = goodFrom s g i := by
  intro f
  induction f with
  | zero => intro g i hf hg; rw [goodFrom_end s 0 i (by omega), goodFrom_end s g i (by omega)]
  | succ f ih =>
    intro g i hf hg
    by_cases h : i < s.size
    · obtain ⟨g, rfl⟩ : ∃ g', g = g' + 1 := ⟨g - 1, by omega⟩
      have hw := decode_width_pos s i h
      unfold goodFrom
      rw [if_pos h, if_pos h, ih g _ (by omega) (by omega)]
    · rw [goodFrom_end s _ i h, goodFrom_end s g i h]
theorem goodFrom_ge (s : ByteArray) : ∀ (f i : Nat), goodFrom s f i = -1 ∨ ((i : Int) ≤ goodFrom s f i ∧ goodFrom s f i < s.size) := by
  intro f
  induction f with
  | zero => intro i; exact .inl rfl
  | succ f ih =>
    intro i
    unfold goodFrom
    by_cases h : i < s.size
    · rw [if_pos h]
      cases stop s i
      · rcases ih (i + (Utf8.decode s i).2) with h1 | h1
        · exact .inl (by simpa using h1)
        · refine .inr ?_
          simp only [Bool.false_eq_true, if_false]
          omega
      · refine .inr ?_
        simp only [if_true]
        omega
    · rw [if_neg h]; exact .inl rfl
theorem goodFrom_right (a b : ByteArray) : ∀ (f j : Nat), goodFrom (a ++ b) f (a.size + j) = if goodFrom b f j = -1 then -1 else (a.size : Int) + goodFrom b f j := by
  intro f
  induction f with
  | zero => intro j; rfl
  | succ f ih =>
    intro j
    unfold goodFrom
    rw [app_size]
    by_cases h : j < b.size
    · rw [if_pos (by omega), if_pos h, stop_of_eq (decode_right a b j), decode_right a b j]
      cases stop b j
      · simp only [Bool.false_eq_true, if_false]
        rw [Nat.add_assoc]
        exact ih _
      · simp only [if_true]
        rw [if_neg (by omega)]
        omega
    · rw [if_neg (by omega), if_neg h]; rfl
/-- The first text is good: the second one's first place that is none is that of both. -/
theorem good_app (a b : ByteArray) (h : goodZ a = -1) : goodZ (a ++ b) = if goodZ b = -1 then -1 else (a.size : Int) + goodZ b := by
  have key : ∀ (f i : Nat), i ≤ a.size → a.size ≤ i + f → goodFrom a f i = -1 → goodFrom (a ++ b) (f + b.size) i = goodFrom (a ++ b) b.size a.size := by
    intro f
    induction f with
    | zero =>
      intro i h1 h2 _
      obtain rfl : i = a.size := by omega
      rw [Nat.zero_add]
    | succ f ih =>
      intro i h1 h2 h3
      by_cases hi : i < a.size
      · unfold goodFrom at h3
        rw [if_pos hi] at h3
        cases hst : stop a i with
        | true => rw [hst] at h3; simp only [if_true] at h3; omega
        | false =>
          rw [hst] at h3
          simp only [Bool.false_eq_true, if_false] at h3
          have hd := decode_left a b i hi (good_of_go hst)
          have hw := decode_width_pos a i hi
          have hin := decode_in a i hi
          rw [show f + 1 + b.size = (f + b.size) + 1 by omega]
          rw [goodFrom, if_pos (by rw [app_size]; omega), stop_of_eq hd, hst, hd]
          simp only [Bool.false_eq_true, if_false]
          exact ih _ hin (by omega) h3
      · obtain rfl : i = a.size := by omega
        exact goodFrom_fuel _ _ _ _ (by rw [app_size]; omega) (by rw [app_size]; omega)
  have h1 := key a.size 0 (by omega) (by omega) h
  unfold goodZ
  rw [goodFrom_fuel (a ++ b) _ (a.size + b.size) 0 (by omega) (by rw [app_size]; omega), h1]
  have h2 := goodFrom_right a b b.size 0
  rw [Nat.add_zero] at h2
  exact h2
/-- The first text is none: its place does not move but where what comes behind makes a whole of a piece. -/
theorem bad_app (a b : ByteArray) (x : Nat) (h : goodZ a = (x : Int)) : x < a.size ∧ (goodZ (a ++ b) = (x : Int) ∨ goodZ (a ++ b) = -1 ∨ ((x : Int) < goodZ (a ++ b) ∧ 128 ≤ byteAt a x) ) ∧ (goodZ (a ++ b) = (x : Int) ∨ 128 ≤ byteAt a x) := by
  have key : ∀ (f i : Nat), i ≤ a.size → a.size ≤ i + f → goodFrom a f i = (x : Int) → x < a.size ∧ stop a x = true ∧ ∃ g, (a ++ b).size ≤ x + g ∧ goodFrom (a ++ b) (f + b.size) i = goodFrom (a ++ b) g x := by
    intro f
    induction f with
    | zero => intro i h1 h2 h3; rw [goodFrom] at h3; omega
    | succ f ih =>
      intro i h1 h2 h3
      by_cases hi : i < a.size
      · unfold goodFrom at h3
        rw [if_pos hi] at h3
        cases hst : stop a i with
        | true =>
          rw [hst] at h3
          simp only [if_true] at h3
          obtain rfl : i = x := by omega
          exact ⟨hi, hst, _, by rw [app_size]; omega, rfl⟩
        | false =>
          rw [hst] at h3
          simp only [Bool.false_eq_true, if_false] at h3
          have hd := decode_left a b i hi (good_of_go hst)
          have hw := decode_width_pos a i hi
          have hin := decode_in a i hi
          obtain ⟨k1, k2, g, k3, k4⟩ := ih _ hin (by omega) h3
          refine ⟨k1, k2, g, k3, ?_⟩
          rw [show f + 1 + b.size = (f + b.size) + 1 by omega]
          rw [goodFrom, if_pos (by rw [app_size]; omega), stop_of_eq hd, hst, hd]
          simp only [Bool.false_eq_true, if_false]
          exact k4
      · rw [goodFrom_end a _ i hi] at h3; omega
  obtain ⟨k1, k2, g, k3, k4⟩ := key a.size 0 (by omega) (by omega) h
  have hz : goodZ (a ++ b) = goodFrom (a ++ b) g x := by
    unfold goodZ
    rw [goodFrom_fuel (a ++ b) _ (a.size + b.size) 0 (by omega) (by rw [app_size]; omega), k4]
  rw [hz]
  refine ⟨k1, ?_⟩
  rw [app_size] at k3
  obtain ⟨g, rfl⟩ : ∃ g', g = g' + 1 := ⟨g - 1, by omega⟩
  rw [goodFrom, if_pos (by rw [app_size]; omega)]
  cases hst : stop (a ++ b) x with
  | true => simp
  | false =>
    simp only [Bool.false_eq_true, if_false]
    have hx : 128 ≤ byteAt a x := by
      rcases Nat.lt_or_ge (byteAt a x) 128 with hlt | hge
      · exfalso
        have e1 : Utf8.decode a x = (byteAt a x, 1) := by rw [decode_at]; exact decodeN_ascii _ _ _ _ _ hlt
        have e2 : Utf8.decode (a ++ b) x = (byteAt a x, 1) := by
          rw [decode_at]
          have := byteAt_left a b x k1
          unfold byteAt at this hlt ⊢
          rw [this]
          exact decodeN_ascii _ _ _ _ _ hlt
        rw [stop_of_eq (e2.trans e1.symm), k2] at hst
        cases hst
      · exact hge
    have hw := decode_width_pos (a ++ b) x (by rw [app_size]; omega)
    refine ⟨?_, .inr hx⟩
    rcases goodFrom_ge (a ++ b) g (x + (Utf8.decode (a ++ b) x).2) with h1 | h1
    · exact .inr (.inl h1)
    · exact .inr (.inr ⟨by omega, hx⟩)
end Go.Proofs.YtjkaigfpjebfbaaGreatDoor
/- A number's decimal string: the plain law. -/
namespace Go.Proofs.YtjkaigfpjebfbaaGreatDoor
open Go.Lib
set_option linter.unusedVariables false

def Dec (s : ByteArray) (P r : Nat) : Prop := ∀ f acc, s.size ≤ f → numFrom s f 0 acc = (acc * P + r, true)
theorem dec_nil : Dec ByteArray.empty 1 0 := by
  intro f acc _
  rw [numFrom_end _ _ _ _ (by simp)]
  simp
theorem numFrom_shift (b s : ByteArray) (hb : b.size = 1) : ∀ (f i acc : Nat), numFrom (b ++ s) f (i + 1) acc = numFrom s f i acc
  | 0, i, acc => rfl
  | f + 1, i, acc => by
    have e : byteAt (b ++ s) (i + 1) = byteAt s i := by
      have := byteAt_right b s i
      rw [hb, Nat.add_comm] at this
      exact this
    have z : (b ++ s).size = 1 + s.size := by rw [app_size, hb]
    by_cases h : i < s.size
    · have h' : i + 1 < (b ++ s).size := by omega
      cases hd : digB (byteAt s i) with
      | false => rw [numFrom_no _ _ _ _ h hd, numFrom_no _ _ _ _ h' (by rw [e]; exact hd)]
      | true => rw [numFrom_yes _ _ _ _ h hd, numFrom_yes _ _ _ _ h' (by rw [e]; exact hd), e, numFrom_shift b s hb f (i + 1)]
    · rw [numFrom_end _ _ _ _ h, numFrom_end _ _ _ _ (by omega)]
theorem digB_dig (d : Nat) (hd : d ≤ 9) : digB (48 + d) = true := by
  unfold digB
  simp
  omega
theorem dec_cons (b s : ByteArray) (d P r : Nat) (hb : b.size = 1) (h0 : byteAt b 0 = 48 + d) (hd : d ≤ 9) (h : Dec s P r) : Dec (b ++ s) (10 * P) (d * P + r) := by
  intro f acc hf
  have z : (b ++ s).size = 1 + s.size := by rw [app_size, hb]
  obtain ⟨f, rfl⟩ : ∃ f', f = f' + 1 := ⟨f - 1, by omega⟩
  have e : byteAt (b ++ s) 0 = 48 + d := by rw [byteAt_left _ _ _ (by omega), h0]
  rw [numFrom_yes _ _ _ _ (by omega) (by rw [e]; exact digB_dig d hd), e, numFrom_shift b s hb, h _ _ (by omega)]
  have e1 : 48 + d - 48 = d := by omega
  rw [e1, Nat.add_mul, Nat.mul_assoc, Nat.add_assoc]
structure Inv (n k j : Nat) (s : ByteArray) : Prop where
  size : s.size = j
  val : ∃ r, n = k * 10 ^ j + r ∧ Dec s (10 ^ j) r
  nz : j = 0 ∨ 1 ≤ k
theorem Inv.start (n : Nat) : Inv n n 0 ByteArray.empty := ⟨rfl, ⟨0, by simp, by simpa using dec_nil⟩, .inl rfl⟩
theorem Inv.shift {n k j : Nat} {s : ByteArray} (h : Inv n k j s) (b : ByteArray) (hb : b.size = 1) (h0 : byteAt b 0 = 48 + k % 10) :
    ∃ r, n = (k / 10) * 10 ^ (j + 1) + r ∧ Dec (b ++ s) (10 ^ (j + 1)) r := by
  obtain ⟨r, hn, hd⟩ := h.val
  refine ⟨k % 10 * 10 ^ j + r, ?_, ?_⟩
  · rw [hn, ← Nat.add_assoc]
    congr 1
    rw [Nat.pow_succ, Nat.mul_comm (10 ^ j) 10, ← Nat.mul_assoc, ← Nat.add_mul]
    congr 1
    omega
  · rw [Nat.pow_succ, Nat.mul_comm (10 ^ j) 10]
    exact dec_cons b s (k % 10) _ r hb h0 (by omega) hd
theorem Inv.step {n k j : Nat} {s : ByteArray} (h : Inv n k j s) (b : ByteArray) (hb : b.size = 1) (h0 : byteAt b 0 = 48 + k % 10) (hk : 10 ≤ k) : Inv n (k / 10) (j + 1) (b ++ s) :=
  ⟨by rw [app_size, hb, h.size]; omega, h.shift b hb h0, .inr (by omega)⟩
theorem Inv.short {n k j : Nat} {s : ByteArray} (h : Inv n k j s) (hn : n < 1000000000) : j ≤ 8 := by
  obtain ⟨r, e, _⟩ := h.val
  apply Classical.byContradiction
  intro hj
  have h1 : 1 ≤ k := by rcases h.nz with h | h <;> omega
  have h2 : 10 ^ 9 ≤ 10 ^ j := Nat.pow_le_pow_right (by omega) (by omega)
  have h3 : 1 * 10 ^ j ≤ k * 10 ^ j := Nat.mul_le_mul_right _ h1
  omega
theorem Inv.last {n k j : Nat} {s : ByteArray} (h : Inv n k j s) (b : ByteArray) (hb : b.size = 1) (h0 : byteAt b 0 = 48 + k % 10) (hk : k < 10) (hn : n < 1000000000) :
    numZ (b ++ s) = (n, true) ∧ 1 ≤ (b ++ s).size ∧ (b ++ s).size ≤ 9 := by
  have hj := h.short hn
  have z : (b ++ s).size = 1 + j := by rw [app_size, hb, h.size]
  obtain ⟨r, e, hd⟩ := h.shift b hb h0
  have e0 : k / 10 = 0 := by omega
  rw [e0, Nat.zero_mul, Nat.zero_add] at e
  have e1 : byteAt (b ++ s) 0 = 48 + k % 10 := by rw [byteAt_left _ _ _ (by omega), h0]
  refine ⟨?_, by omega, by omega⟩
  unfold numZ
  rw [if_neg, hd _ _ (Nat.le_refl _), Nat.zero_mul, Nat.zero_add, e]
  rintro (h' | h' | ⟨h1, h2⟩)
  · omega
  · omega
  · have := h.nz
    omega
theorem no_zero (s : ByteArray) (h : 1 ≤ s.size) : numZ (ByteArray.mk #[48] ++ s) = (0, false) := by
  have z : (ByteArray.mk #[48] ++ s).size = 1 + s.size := app_size _ _
  unfold numZ
  rw [if_pos]
  refine .inr (.inr ⟨by omega, ?_⟩)
  rw [byteAt_left _ _ _ (by decide)]
  rfl
theorem no_minus (s : ByteArray) (h : 1 ≤ s.size) : numZ (ByteArray.mk #[45] ++ s) = (0, false) := by
  have z : (ByteArray.mk #[45] ++ s).size = 1 + s.size := app_size _ _
  unfold numZ
  split
  · rfl
  · rw [z, Nat.add_comm]
    exact numFrom_no _ _ _ _ (by omega) (by rw [byteAt_left _ _ _ (by decide)]; rfl)
theorem no_long (s : ByteArray) : numZ (s ++ ByteArray.mk #[48, 49, 50, 51, 52, 53, 54, 55, 56, 57]) = (0, false) := by
  have z : (s ++ ByteArray.mk #[48, 49, 50, 51, 52, 53, 54, 55, 56, 57]).size = s.size + 10 := app_size _ _
  unfold numZ
  rw [if_pos (.inr (.inl (by omega)))]
end Go.Proofs.YtjkaigfpjebfbaaGreatDoor
/- Words: the plain law: Go's spans by runes are the spans by bytes. -/
namespace Go.Proofs.YtjkaigfpjebfbaaGreatDoor
open Go.Lib
set_option linter.unusedVariables false

def wB (c : Nat) : Bool := c == 32 || c == 9
theorem wB_yes {c : Nat} (h : c = 32 ∨ c = 9) : wB c = true := by unfold wB; rcases h with rfl | rfl <;> rfl
theorem wB_no {c : Nat} (h : c ≠ 32 ∧ c ≠ 9) : wB c = false := by unfold wB; simp [h.1, h.2]
theorem wB_high {c : Nat} (h : 128 ≤ c) : wB c = false := wB_no (by omega)
def bspans (s : ByteArray) : Nat → Nat → Option Nat → List (Nat × Nat) → List (Nat × Nat) × Option Nat
  | 0, _, st, acc => (acc, st)
  | f + 1, pos, st, acc =>
    if wB (byteAt s pos) then
      (match st with
       | some a => bspans s f (pos + 1) none (acc ++ [(a, pos)])
       | none => bspans s f (pos + 1) none acc)
    else bspans s f (pos + 1) (some (st.getD pos)) acc
/-- The spans from a place on. -/
def W (s : ByteArray) (pos : Nat) (st : Option Nat) (acc : List (Nat × Nat)) : List (Nat × Nat) × Option Nat := bspans s (s.size - pos) pos st acc
theorem W_end (s : ByteArray) (pos : Nat) (st : Option Nat) (acc : List (Nat × Nat)) (h : s.size ≤ pos) : W s pos st acc = (acc, st) := by
  unfold W
  rw [show s.size - pos = 0 by omega]
  rfl
theorem W_step (s : ByteArray) (pos : Nat) (st : Option Nat) (acc : List (Nat × Nat)) (h : pos < s.size) :
    W s pos st acc = if wB (byteAt s pos) then (match st with
       | some a => W s (pos + 1) none (acc ++ [(a, pos)])
       | none => W s (pos + 1) none acc)
    else W s (pos + 1) (some (st.getD pos)) acc := by
  unfold W
  obtain ⟨f, hf⟩ : ∃ f, s.size - pos = f + 1 := ⟨s.size - pos - 1, by omega⟩
  have hf' : s.size - (pos + 1) = f := by omega
  rw [hf, hf']
  rfl
theorem W_white_none (s : ByteArray) (pos : Nat) (acc : List (Nat × Nat)) (h : pos < s.size) (hw : wB (byteAt s pos) = true) : W s pos none acc = W s (pos + 1) none acc := by
  rw [W_step _ _ _ _ h, if_pos hw]
theorem W_white_some (s : ByteArray) (pos a : Nat) (acc : List (Nat × Nat)) (h : pos < s.size) (hw : wB (byteAt s pos) = true) : W s pos (some a) acc = W s (pos + 1) none (acc ++ [(a, pos)]) := by
  rw [W_step _ _ _ _ h, if_pos hw]
theorem W_ink (s : ByteArray) (pos : Nat) (st : Option Nat) (acc : List (Nat × Nat)) (h : pos < s.size) (hw : wB (byteAt s pos) = false) : W s pos st acc = W s (pos + 1) (some (st.getD pos)) acc := by
  rw [W_step _ _ _ _ h, hw]
  rfl
theorem W_skip (s : ByteArray) (a : Nat) (acc : List (Nat × Nat)) : ∀ (n pos : Nat), (∀ j, j < n → pos + j < s.size ∧ 128 ≤ byteAt s (pos + j)) → W s pos (some a) acc = W s (pos + n) (some a) acc
  | 0, pos, _ => rfl
  | n + 1, pos, h => by
    have h0 := h 0 (by omega)
    rw [Nat.add_zero] at h0
    rw [W_ink _ _ _ _ h0.1 (wB_high h0.2)]
    show W s (pos + 1) (some a) acc = _
    rw [W_skip s a acc n (pos + 1) (fun j hj => by have := h (j + 1) (by omega); rwa [show pos + (j + 1) = pos + 1 + j by omega] at this)]
    congr 1
    omega
set_option maxHeartbeats 4000000 in
set_option maxRecDepth 100000 in
theorem decodeN_tail (n b0 b1 b2 b3 : Nat) : (decodeN n b0 b1 b2 b3).2 ≤ 4 ∧ (1 < (decodeN n b0 b1 b2 b3).2 → 128 ≤ b1) ∧ (2 < (decodeN n b0 b1 b2 b3).2 → 128 ≤ b2) ∧ (3 < (decodeN n b0 b1 b2 b3).2 → 128 ≤ b3) := by
  unfold decodeN
  repeat' split
  all_goals (simp only; omega)
theorem decode_tail (s : ByteArray) (pos j : Nat) (h : j + 1 < (Utf8.decode s pos).2) : 128 ≤ byteAt s (pos + 1 + j) := by
  have hd : Utf8.decode s pos = decodeN (s.size - pos) (byteAt s pos) (byteAt s (pos + 1)) (byteAt s (pos + 2)) (byteAt s (pos + 3)) := decode_at s pos
  obtain ⟨h4, h1, h2, h3⟩ := decodeN_tail (s.size - pos) (byteAt s pos) (byteAt s (pos + 1)) (byteAt s (pos + 2)) (byteAt s (pos + 3))
  rw [← hd] at h4 h1 h2 h3
  have : j = 0 ∨ j = 1 ∨ j = 2 := by omega
  rcases this with rfl | rfl | rfl
  · exact h1 (by omega)
  · exact h2 (by omega)
  · exact h3 (by omega)
theorem spans_W (s : ByteArray) : ∀ (f pos : Nat) (st : Option Nat) (acc : List (Nat × Nat)), s.size ≤ pos + f → spansFromP wB s f pos st acc = W s pos st acc
  | 0, pos, st, acc, h => by rw [W_end _ _ _ _ (by omega)]; rfl
  | f + 1, pos, st, acc, h => by
    by_cases hp : pos < s.size
    · have hw1 := decode_width_pos s pos hp
      have hin := decode_in s pos hp
      unfold spansFromP
      rw [if_pos hp]
      rcases rune_at s pos with ⟨h1, e⟩ | ⟨h1, h2⟩
      · rw [e]
        simp only
        cases hb : wB (byteAt s pos) with
        | true =>
          rw [if_pos rfl]
          cases st with
          | none => rw [W_white_none _ _ _ hp hb]; exact spans_W s f (pos + 1) none acc (by omega)
          | some a => rw [W_white_some _ _ _ _ hp hb]; exact spans_W s f (pos + 1) none _ (by omega)
        | false =>
          rw [if_neg (by decide), W_ink _ _ _ _ hp hb]
          cases st with
          | none => exact spans_W s f (pos + 1) (some pos) acc (by omega)
          | some a => exact spans_W s f (pos + 1) (some a) acc (by omega)
      · have hno : wB (Utf8.decode s pos).1 = false := wB_high h2
        rw [hno, if_neg (by decide), W_ink _ _ _ _ hp (wB_high h1)]
        have key : ∀ a, W s (pos + 1) (some a) acc = W s (pos + (Utf8.decode s pos).2) (some a) acc := fun a => by
          rw [W_skip s a acc ((Utf8.decode s pos).2 - 1) (pos + 1) (fun j hj => ⟨by omega, decode_tail s pos j (by omega)⟩)]
          congr 1
          omega
        cases st with
        | none => exact (spans_W s f _ (some pos) acc (by omega)).trans (key pos).symm
        | some a => exact (spans_W s f _ (some a) acc (by omega)).trans (key a).symm
    · rw [W_end _ _ _ _ (by omega), spansFromP_end _ _ _ _ _ _ hp]
/-- A text's words. -/
def wordsOf (s : ByteArray) : List ByteArray := (closeSpans s (W s 0 none [])).map fun x => s.extract x.1 x.2
theorem fields_words (s : ByteArray) : goFieldsP wB s = wordsOf s := by
  unfold goFieldsP spansOfP wordsOf
  rw [spans_W s s.size 0 none [] (by omega)]
end Go.Proofs.YtjkaigfpjebfbaaGreatDoor
/- Trim: the plain law: Go's trimming by runes is the trimming by bytes. -/
namespace Go.Proofs.YtjkaigfpjebfbaaGreatDoor
open Go.Lib
set_option linter.unusedVariables false

theorem byteAt_list (s : ByteArray) (k : Nat) (h : k < s.size) : (s.data.toList.getD k 0).toNat = byteAt s k := by
  rw [byteAt_get s k h]
  have : k < s.data.toList.length := by simpa using h
  rw [List.getD_eq_getElem?_getD, List.getElem?_eq_getElem this]
  rfl
theorem part_size (s : ByteArray) (i : Nat) (h : i ≤ s.size) : (s.extract 0 i).size = i := by rw [ByteArray.size_extract]; omega
theorem part_list (s : ByteArray) (i : Nat) : (s.extract 0 i).data.toList = s.data.toList.take i := by rw [Lib.extract_data]; simp
theorem part_join (s : ByteArray) (i : Nat) (h : i ≤ s.size) : s.extract 0 i ++ s.extract i s.size = s := by
  apply ByteArray.ext
  apply Array.toList_inj.1
  rw [ByteArray.data_append, Array.toList_append, Lib.extract_data, Lib.extract_data]
  simp only [List.drop_zero, Nat.sub_zero]
  rw [List.take_of_length_le (l := s.data.toList.drop i) (by simp)]
  exact List.take_append_drop i _
theorem part_at (s : ByteArray) (i k : Nat) (h : i ≤ s.size) (hk : k < i) : byteAt (s.extract 0 i) k = byteAt s k := by
  have := byteAt_left (s.extract 0 i) (s.extract i s.size) k (by rw [part_size s i h]; exact hk)
  rw [part_join s i h] at this
  exact this.symm
/-- The last rune ahead of a place. -/
theorem last_rune (s : ByteArray) (i : Nat) (h0 : 0 < i) (hi : i ≤ s.size) :
    (byteAt s (i - 1) < 128 ∧ decodeLastL (s.data.toList.take i) = (byteAt s (i - 1), 1)) ∨
    (128 ≤ byteAt s (i - 1) ∧ 128 ≤ (decodeLastL (s.data.toList.take i)).1 ∧ 1 ≤ (decodeLastL (s.data.toList.take i)).2 ∧ (decodeLastL (s.data.toList.take i)).2 ≤ i ∧
      ((decodeLastL (s.data.toList.take i)).2 = 1 ∨ (Utf8.decode s (i - (decodeLastL (s.data.toList.take i)).2)).2 = (decodeLastL (s.data.toList.take i)).2)) := by
  obtain ⟨t, ht⟩ : ∃ t, t = s.extract 0 i := ⟨_, rfl⟩
  have hts : t.size = i := by rw [ht, part_size s i hi]
  have htl : s.data.toList.take i = t.data.toList := by rw [ht, part_list]
  have htb : byteAt t (i - 1) = byteAt s (i - 1) := by rw [ht, part_at s i (i - 1) hi (by omega)]
  have hlen : t.data.toList.length = i := by rw [← hts]; rfl
  have hne : t.data.toList ≠ [] := by intro e; rw [e] at hlen; simp at hlen; omega
  have hlast : (t.data.toList.getD (t.data.toList.length - 1) 0).toNat = byteAt s (i - 1) := by rw [hlen, byteAt_list t (i - 1) (by omega), htb]
  rw [htl]
  unfold decodeLastL
  rw [if_neg hne, hlast, hlen]
  by_cases hc : byteAt s (i - 1) < 128
  · rw [if_pos hc]
    exact .inl ⟨hc, rfl⟩
  · rw [if_neg hc]
    refine .inr ⟨by omega, ?_⟩
    have hls := lastStart_lt' t.data.toList hne
    rw [hlen] at hls
    obtain ⟨q, hq⟩ : ∃ q, q = lastStart t.data.toList := ⟨_, rfl⟩
    rw [← hq] at hls ⊢
    simp only
    rw [decodeL_drop]
    by_cases he : q + (Utf8.decode t q).2 = i
    · rw [if_pos he]
      have hw := decode_width_pos t q (by omega)
      rcases rune_at t q with ⟨h1, e⟩ | ⟨h1, h2⟩
      · exfalso
        rw [e] at he
        simp only at he
        have : q = i - 1 := by omega
        rw [this, htb] at h1
        exact hc h1
      · refine ⟨h2, hw, by omega, ?_⟩
        by_cases hw1 : (Utf8.decode t q).2 = 1
        · exact .inl hw1
        · refine .inr ?_
          have e := decode_left t (s.extract i s.size) q (by omega) (fun e => hw1 (by rw [e]))
          rw [ht, part_join s i hi, ← ht] at e
          rw [show i - (Utf8.decode t q).2 = q by omega, e]
    · rw [if_neg he]
      exact ⟨by decide, Nat.le_refl _, by show 1 ≤ i; omega, .inl rfl⟩
/-- Where the first byte that is no white stands, from a place on. -/
def loB (s : ByteArray) : Nat → Nat → Nat
  | 0, pos => pos
  | f + 1, pos => if pos < s.size ∧ wB (byteAt s pos) = true then loB s f (pos + 1) else pos
def lo (s : ByteArray) : Nat := loB s s.size 0
/-- One behind the last byte that is no white. -/
def hiB (s : ByteArray) : Nat → Nat
  | 0 => 0
  | i + 1 => if wB (byteAt s i) = true then hiB s i else i + 1
def hi (s : ByteArray) : Nat := hiB s s.size
def trimL (s : ByteArray) : ByteArray := s.extract (lo s) s.size
def trimR (s : ByteArray) : ByteArray := s.extract 0 (hi s)
def trimB (s : ByteArray) : ByteArray := trimR (trimL s)
theorem loB_le (s : ByteArray) : ∀ (f pos : Nat), pos ≤ s.size → loB s f pos ≤ s.size
  | 0, pos, h => h
  | f + 1, pos, h => by
    unfold loB
    split
    · exact loB_le s f (pos + 1) (by omega)
    · exact h
theorem idx_lo (s : ByteArray) : ∀ (f pos : Nat), s.size ≤ pos + f → idxFuncFrom wB false s f pos = if loB s f pos < s.size then (loB s f pos : Int) else -1
  | 0, pos, h => by
    unfold idxFuncFrom loB
    rw [if_neg (by omega)]
  | f + 1, pos, h => by
    unfold idxFuncFrom
    by_cases hp : pos < s.size
    · rw [if_pos hp]
      cases hb : wB (byteAt s pos) with
      | true =>
        have hlow : byteAt s pos < 128 := by
          apply Classical.byContradiction
          intro hh
          rw [wB_high (by omega)] at hb
          exact absurd hb (by decide)
        rcases rune_at s pos with ⟨h1, e⟩ | ⟨h1, h2⟩
        · rw [e]
          simp only
          have e2 : loB s (f + 1) pos = loB s f (pos + 1) := by
            show (if pos < s.size ∧ wB (byteAt s pos) = true then _ else _) = _
            rw [if_pos ⟨hp, hb⟩]
          rw [hb, if_neg (by decide), e2]
          exact idx_lo s f (pos + 1) (by omega)
        · omega
      | false =>
        have : wB (Utf8.decode s pos).1 = false := by
          rcases rune_at s pos with ⟨h1, e⟩ | ⟨h1, h2⟩
          · rw [e]; exact hb
          · exact wB_high h2
        have e2 : loB s (f + 1) pos = pos := by
          show (if pos < s.size ∧ wB (byteAt s pos) = true then _ else _) = _
          rw [if_neg (fun h => by rw [hb] at h; exact absurd h.2 (by decide))]
        rw [if_pos this, e2, if_pos hp]
    · have e2 : loB s (f + 1) pos = pos := by
        show (if pos < s.size ∧ wB (byteAt s pos) = true then _ else _) = _
        rw [if_neg (fun h => hp h.1)]
      rw [if_neg hp, e2, if_neg hp]
theorem left_lo (s : ByteArray) : trimLeftF wB s = trimL s := by
  unfold trimLeftF trimL idxFunc lo
  rw [idx_lo s s.size 0 (by omega)]
  by_cases h : loB s s.size 0 < s.size
  · rw [if_pos h, if_neg (by omega)]
    congr 1
  · rw [if_neg h, if_pos rfl]
    apply ByteArray.ext
    apply Array.toList_inj.1
    rw [Lib.extract_data]
    simp
    omega
theorem hiB_le (s : ByteArray) : ∀ i, hiB s i ≤ i
  | 0 => Nat.le_refl _
  | i + 1 => by
    unfold hiB
    split
    · exact Nat.le_succ_of_le (hiB_le s i)
    · exact Nat.le_refl _
/-- Going back over white: what the last index comes to. -/
theorem last_hi (s : ByteArray) : ∀ (f i : Nat), i ≤ f → i ≤ s.size → (∀ k, i ≤ k → k < s.size → byteAt s k < 128) →
    (hiB s i = 0 ∧ lastIdxFuncFrom wB false s f i = -1) ∨
    (0 < hiB s i ∧ ∃ q : Nat, lastIdxFuncFrom wB false s f i = (q : Int) ∧ q < s.size ∧ q + (Utf8.decode s q).2 = hiB s i)
  | f, 0, _, _, _ => .inl ⟨rfl, lastIdxFuncFrom_zero _ _ _ _⟩
  | 0, i + 1, h, _, _ => by omega
  | f + 1, i + 1, h, hs, hw => by
    unfold lastIdxFuncFrom hiB
    rw [if_pos (show 0 < i + 1 by omega)]
    have hl := last_rune s (i + 1) (by omega) hs
    rw [show i + 1 - 1 = i by omega] at hl
    rcases hl with ⟨h1, e⟩ | ⟨h1, h2, h3, h4, h5⟩
    · rw [e]
      simp only
      cases hb : wB (byteAt s i) with
      | true =>
        rw [if_pos rfl, if_neg (by decide), show i + 1 - 1 = i by omega]
        refine last_hi s f i (by omega) (by omega) (fun k hk hk' => ?_)
        by_cases e' : k = i
        · rw [e']; exact h1
        · exact hw k (by omega) hk'
      | false =>
        rw [if_neg (by decide), if_pos rfl]
        refine .inr ⟨by omega, i, by congr 1, by omega, ?_⟩
        rcases rune_at s i with ⟨_, e'⟩ | ⟨h1', _⟩
        · rw [e']
        · omega
    · rw [if_pos (wB_high h2), if_neg (by rw [wB_high h1]; decide)]
      refine .inr ⟨by omega, _, rfl, by omega, ?_⟩
      rcases h5 with h5 | h5
      · rw [h5, show i + 1 - 1 = i by omega]
        have hin := decode_in s i (by omega)
        have hp := decode_width_pos s i (by omega)
        have : (Utf8.decode s i).2 = 1 := by
          apply Classical.byContradiction
          intro hne
          have ht := decode_tail s i 0 (by omega)
          have := hw (i + 1) (by omega) (by omega)
          rw [Nat.add_zero] at ht
          omega
        rw [this]
      · rw [h5]; omega
theorem right_hi (s : ByteArray) : trimRightF wB s = trimR s := by
  unfold trimRightF trimR
  congr 1
  unfold rightEndF lastIdxFunc hi
  rcases last_hi s s.size s.size (Nat.le_refl _) (Nat.le_refl _) (fun k h h' => by omega) with ⟨h1, h2⟩ | ⟨h1, q, h2, h3, h4⟩
  · rw [h2, if_neg (by decide), h1]
  · rw [h2, if_pos (by omega), show ((q : Int)).toNat = q from rfl]
    have e : decodeGoB (s.extract q s.size) = Utf8.decode s q := by
      unfold decodeGoB
      rw [if_neg (by rw [ByteArray.size_extract]; omega)]
      have := decodeL_drop s q
      rw [← this]
      unfold decodeL
      congr 1
      apply ByteArray.ext
      apply Array.toList_inj.1
      rw [Lib.extract_data]
      exact List.take_of_length_le (by simp)
    rw [e, h4]
theorem trimF_B (s : ByteArray) : trimF wB s = trimB s := by
  unfold trimF trimB
  rw [left_lo, right_hi]
end Go.Proofs.YtjkaigfpjebfbaaGreatDoor
/- Words and trims as rows of bytes: the plain law. -/
namespace Go.Proofs.YtjkaigfpjebfbaaGreatDoor
open Go.Lib
set_option linter.unusedVariables false

def bl (s : ByteArray) : List UInt8 := s.data.toList
theorem bl_app (a b : ByteArray) : bl (a ++ b) = bl a ++ bl b := by unfold bl; rw [ByteArray.data_append, Array.toList_append]
theorem bl_inj {a b : ByteArray} (h : bl a = bl b) : a = b := ByteArray.ext (Array.toList_inj.1 h)
theorem bl_len (s : ByteArray) : (bl s).length = s.size := rfl
theorem bl_get (s : ByteArray) (k : Nat) (h : k < (bl s).length) : ((bl s)[k]).toNat = byteAt s k := by
  rw [byteAt_get s k h]
  rfl
theorem bl_part (s : ByteArray) (a b : Nat) : bl (s.extract a b) = ((bl s).drop a).take (b - a) := Lib.extract_data s a b
def wU (c : UInt8) : Bool := wB c.toNat
/-- The words of a row of bytes, behind the beginning of one. -/
def wl : List UInt8 → List UInt8 → List (List UInt8)
  | [], cur => if cur = [] then [] else [cur]
  | c :: t, cur => if wU c = true then (if cur = [] then wl t [] else cur :: wl t []) else wl t (cur ++ [c])
def White (g : List UInt8) : Prop := ∀ c ∈ g, wU c = true
def Ink (g : List UInt8) : Prop := ∀ c ∈ g, wU c = false
def curOf (s : ByteArray) (pos : Nat) : Option Nat → List UInt8
  | none => []
  | some a => ((bl s).drop a).take (pos - a)
theorem W_wl (s : ByteArray) : ∀ (n pos : Nat) (st : Option Nat) (acc : List (Nat × Nat)), s.size - pos = n → pos ≤ s.size → (∀ a, st = some a → a < pos) →
    (closeSpans s (W s pos st acc)).map (fun x => bl (s.extract x.1 x.2)) = acc.map (fun x => bl (s.extract x.1 x.2)) ++ wl ((bl s).drop pos) (curOf s pos st)
  | 0, pos, st, acc, hn, hp, hst => by
    have e : pos = s.size := by omega
    have hd : (bl s).drop pos = [] := List.drop_of_length_le (by rw [bl_len]; omega)
    rw [W_end _ _ _ _ (by omega), hd]
    cases st with
    | none =>
      show (acc).map _ = _ ++ wl [] []
      simp [wl]
    | some a =>
      have ha := hst a rfl
      have hne : curOf s pos (some a) ≠ [] := by
        intro h
        have h2 : (curOf s pos (some a)).length = 0 := by rw [h]; rfl
        unfold curOf at h2
        rw [List.length_take, List.length_drop, bl_len] at h2
        omega
      show (acc ++ [(a, s.size)]).map _ = _
      rw [List.map_append]
      unfold wl
      rw [if_neg hne]
      show _ ++ [bl (s.extract a s.size)] = _
      rw [bl_part, e]
      rfl
  | n + 1, pos, st, acc, hn, hp, hst => by
    have hlt : pos < s.size := by omega
    have hlt' : pos < (bl s).length := hlt
    have hd : (bl s).drop pos = (bl s)[pos] :: (bl s).drop (pos + 1) := List.drop_eq_getElem_cons hlt'
    have hw : wU (bl s)[pos] = wB (byteAt s pos) := by unfold wU; rw [bl_get]
    rw [hd]
    unfold wl
    rw [hw]
    cases hb : wB (byteAt s pos) with
    | true =>
      rw [if_pos rfl]
      cases st with
      | none =>
        rw [W_white_none _ _ _ hlt hb, W_wl s n (pos + 1) none acc (by omega) (by omega) (fun a h => by cases h)]
        show _ = _ ++ (if ([] : List UInt8) = [] then wl ((bl s).drop (pos + 1)) [] else _)
        rw [if_pos rfl]
        rfl
      | some a =>
        have ha := hst a rfl
        have hne : curOf s pos (some a) ≠ [] := by
          intro h
          have h2 : (curOf s pos (some a)).length = 0 := by rw [h]; rfl
          unfold curOf at h2
          rw [List.length_take, List.length_drop, bl_len] at h2
          omega
        rw [W_white_some _ _ _ _ hlt hb, W_wl s n (pos + 1) none _ (by omega) (by omega) (fun a h => by cases h), if_neg hne, List.map_append]
        show (_ ++ [bl (s.extract a pos)]) ++ _ = _
        rw [bl_part, List.append_assoc]
        rfl
    | false =>
      rw [if_neg (by decide), W_ink _ _ _ _ hlt hb, W_wl s n (pos + 1) _ acc (by omega) (by omega) (fun a h => by
        cases st with
        | none => have h2 : pos = a := Option.some.inj h; omega
        | some b => have h2 : b = a := Option.some.inj h; have h3 := hst b rfl; omega)]
      congr 2
      cases st with
      | none =>
        show ((bl s).drop pos).take (pos + 1 - pos) = [] ++ [_]
        rw [show pos + 1 - pos = 1 by omega, hd]
        rfl
      | some a =>
        have ha := hst a rfl
        show ((bl s).drop a).take (pos + 1 - a) = ((bl s).drop a).take (pos - a) ++ [_]
        have h3 : pos - a < ((bl s).drop a).length := by rw [List.length_drop]; omega
        rw [show pos + 1 - a = (pos - a) + 1 by omega, List.take_succ_eq_append_getElem h3]
        congr 2
        rw [List.getElem_drop]
        congr 1
        omega
theorem words_wl (s : ByteArray) : (wordsOf s).map bl = wl (bl s) [] := by
  have := W_wl s s.size 0 none [] (by omega) (by omega) (fun a h => by cases h)
  unfold wordsOf
  rw [List.map_map]
  exact this
theorem words_eq {s t : ByteArray} (h : wl (bl s) [] = wl (bl t) []) : wordsOf s = wordsOf t := by
  have h1 := words_wl s
  have h2 := words_wl t
  rw [← h, ← h1] at h2
  have key : ∀ (a b : List ByteArray), a.map bl = b.map bl → a = b := by
    intro a
    induction a with
    | nil => intro b hb; cases b with
      | nil => rfl
      | cons x b => cases hb
    | cons y a ih => intro b hb; cases b with
      | nil => cases hb
      | cons x b =>
        rw [List.map_cons, List.map_cons] at hb
        obtain ⟨e1, e2⟩ := List.cons.inj hb
        rw [bl_inj e1, ih b e2]
  exact (key _ _ h2).symm
theorem wl_white_head (t : List UInt8) : ∀ (g : List UInt8), White g → wl (g ++ t) [] = wl t []
  | [], _ => rfl
  | c :: g, h => by
    show (if wU c = true then (if ([] : List UInt8) = [] then wl (g ++ t) [] else _) else _) = _
    rw [if_pos (h c (List.mem_cons_self ..)), if_pos rfl]
    exact wl_white_head t g (fun d hd => h d (List.mem_cons_of_mem _ hd))
theorem wl_white_only (cur : List UInt8) : ∀ (g : List UInt8), White g → wl g cur = wl [] cur
  | [], _ => rfl
  | c :: g, h => by
    have h0 := wl_white_head [] g (fun d hd => h d (List.mem_cons_of_mem _ hd))
    rw [List.append_nil] at h0
    show (if wU c = true then (if cur = [] then wl g [] else cur :: wl g []) else _) = (if cur = [] then [] else [cur])
    rw [if_pos (h c (List.mem_cons_self ..)), h0]
    rfl
theorem wl_white_tail (g : List UInt8) (h : White g) : ∀ (t cur : List UInt8), wl (t ++ g) cur = wl t cur
  | [], cur => wl_white_only cur g h
  | c :: t, cur => by
    show (if wU c = true then (if cur = [] then wl (t ++ g) [] else cur :: wl (t ++ g) []) else wl (t ++ g) (cur ++ [c])) = (if wU c = true then (if cur = [] then wl t [] else cur :: wl t []) else wl t (cur ++ [c]))
    rw [wl_white_tail g h t [], wl_white_tail g h t (cur ++ [c])]
theorem wl_cut (c : UInt8) (hc : wU c = true) (b : List UInt8) : ∀ (a cur : List UInt8), wl (a ++ c :: b) cur = wl a cur ++ wl b []
  | [], cur => by
    show (if wU c = true then (if cur = [] then wl b [] else cur :: wl b []) else _) = (if cur = [] then [] else [cur]) ++ wl b []
    rw [if_pos hc]
    by_cases h : cur = []
    · rw [if_pos h, if_pos h]; rfl
    · rw [if_neg h, if_neg h]; rfl
  | d :: a, cur => by
    show (if wU d = true then (if cur = [] then wl (a ++ c :: b) [] else cur :: wl (a ++ c :: b) []) else wl (a ++ c :: b) (cur ++ [d])) = (if wU d = true then (if cur = [] then wl a [] else cur :: wl a []) else wl a (cur ++ [d])) ++ wl b []
    rw [wl_cut c hc b a [], wl_cut c hc b a (cur ++ [d])]
    by_cases h1 : wU d = true
    · rw [if_pos h1, if_pos h1]
      by_cases h : cur = []
      · rw [if_pos h, if_pos h]
      · rw [if_neg h, if_neg h]; rfl
    · rw [if_neg h1, if_neg h1]
theorem wl_ink : ∀ (x cur : List UInt8), Ink x → wl x cur = if cur ++ x = [] then [] else [cur ++ x]
  | [], cur, _ => by rw [List.append_nil]; rfl
  | c :: x, cur, h => by
    show (if wU c = true then _ else wl x (cur ++ [c])) = _
    rw [if_neg (by rw [h c (List.mem_cons_self ..)]; decide), wl_ink x _ (fun d hd => h d (List.mem_cons_of_mem _ hd)), List.append_assoc]
    rfl
theorem wl_parts : ∀ (t cur : List UInt8), Ink cur → ∀ x ∈ wl t cur, x ≠ [] ∧ Ink x
  | [], cur, hi, x, hx => by
    by_cases h : cur = []
    · have : wl [] cur = [] := by show (if cur = [] then [] else [cur]) = []; rw [if_pos h]
      rw [this] at hx; cases hx
    · have : wl [] cur = [cur] := by show (if cur = [] then [] else [cur]) = [cur]; rw [if_neg h]
      rw [this] at hx
      cases hx with
      | head => exact ⟨h, hi⟩
      | tail _ hx => cases hx
  | c :: t, cur, hi, x, hx => by
    have hn : Ink [] := fun d hd => by cases hd
    change x ∈ (if wU c = true then (if cur = [] then wl t [] else cur :: wl t []) else wl t (cur ++ [c])) at hx
    by_cases h1 : wU c = true
    · rw [if_pos h1] at hx
      by_cases h : cur = []
      · rw [if_pos h] at hx; exact wl_parts t [] hn x hx
      · rw [if_neg h] at hx
        cases hx with
        | head => exact ⟨h, hi⟩
        | tail _ hx => exact wl_parts t [] hn x hx
    · rw [if_neg h1] at hx
      refine wl_parts t _ (fun d hd => ?_) x hx
      rcases List.mem_append.1 hd with hd | hd
      · exact hi d hd
      · cases hd with
        | head => exact Bool.eq_false_iff.2 h1
        | tail _ hx => cases hx
/-- A row with more behind each white. -/
def wd (g : List UInt8) : List UInt8 → List UInt8
  | [] => []
  | c :: t => (c :: (if wU c = true then g else [])) ++ wd g t
theorem wl_wd (g : List UInt8) (hg : White g) : ∀ (t cur : List UInt8), wl (wd g t) cur = wl t cur
  | [], cur => rfl
  | c :: t, cur => by
    show wl (c :: ((if wU c = true then g else []) ++ wd g t)) cur = (if wU c = true then (if cur = [] then wl t [] else cur :: wl t []) else wl t (cur ++ [c]))
    by_cases h1 : wU c = true
    · rw [if_pos h1, if_pos h1]
      show (if wU c = true then (if cur = [] then wl (g ++ wd g t) [] else cur :: wl (g ++ wd g t) []) else _) = _
      rw [if_pos h1, wl_white_head _ _ hg, wl_wd g hg t []]
    · rw [if_neg h1, if_neg h1]
      show (if wU c = true then _ else wl ([] ++ wd g t) (cur ++ [c])) = _
      rw [if_neg h1]
      exact wl_wd g hg t _
theorem wd_snoc (g : List UInt8) (c : UInt8) : ∀ (t : List UInt8), wd g (t ++ [c]) = wd g t ++ (c :: (if wU c = true then g else []))
  | [] => by
    show (c :: _) ++ [] = _
    rw [List.append_nil]; rfl
  | d :: t => by
    show (d :: _) ++ wd g (t ++ [c]) = ((d :: _) ++ wd g t) ++ _
    rw [wd_snoc g c t, List.append_assoc]
/-- A word of a text is its own one word. -/
theorem word_one {s x : ByteArray} (h : x ∈ wordsOf s) : wordsOf x = [x] ∧ bl x ≠ [] ∧ Ink (bl x) := by
  have h1 : bl x ∈ wl (bl s) [] := by rw [← words_wl]; exact List.mem_map_of_mem h
  obtain ⟨hne, hi⟩ := wl_parts (bl s) [] (fun d hd => by cases hd) _ h1
  refine ⟨?_, hne, hi⟩
  have h2 := words_wl x
  rw [wl_ink _ _ hi, List.nil_append, if_neg hne] at h2
  match hw : wordsOf x with
  | [] => rw [hw] at h2; cases h2
  | [y] =>
    rw [hw] at h2
    rw [bl_inj (List.cons.inj h2).1]
  | _ :: _ :: _ => rw [hw] at h2; cases (List.cons.inj h2).2
/-- What a text without white at both ends is. -/
def IsTrim (t m : List UInt8) : Prop := ∃ g1 g2, White g1 ∧ White g2 ∧ t = g1 ++ m ++ g2 ∧ (∀ c r, m = c :: r → wU c = false) ∧ (∀ c r, m = r ++ [c] → wU c = false)
theorem drop_white : ∀ (g t : List UInt8), White g → (∀ c r, t = c :: r → wU c = false) → (g ++ t).dropWhile wU = t
  | [], [], _, _ => rfl
  | [], c :: r, _, h => by rw [List.nil_append, List.dropWhile_cons_of_neg (by rw [h c r rfl]; decide)]
  | c :: g, t, hg, h => by
    rw [List.cons_append, List.dropWhile_cons_of_pos (hg c (List.mem_cons_self ..))]
    exact drop_white g t (fun d hd => hg d (List.mem_cons_of_mem _ hd)) h
theorem IsTrim.one {t m m' : List UInt8} (h : IsTrim t m) (h' : IsTrim t m') : m = m' := by
  obtain ⟨g1, g2, w1, w2, e, hh, hl⟩ := h
  obtain ⟨g1', g2', w1', w2', e', hh', hl'⟩ := h'
  have nil_of : ∀ {m g1 g2 t : List UInt8}, White t → t = g1 ++ m ++ g2 → (∀ c r, m = c :: r → wU c = false) → m = [] := by
    intro m g1 g2 t hw e hh
    cases m with
    | nil => rfl
    | cons c r =>
      have h1 := hh c r rfl
      have h2 := hw c (by rw [e]; simp)
      rw [h1] at h2; cases h2
  have white3 : ∀ {g1 g2 t : List UInt8}, White g1 → White g2 → t = g1 ++ [] ++ g2 → White t := by
    intro g1 g2 t w1 w2 e c hc
    rw [e, List.append_nil] at hc
    rcases List.mem_append.1 hc with hc | hc
    · exact w1 c hc
    · exact w2 c hc
  by_cases hm : m = []
  · rw [hm] at e
    rw [hm, nil_of (white3 w1 w2 e) e' hh']
  · by_cases hm' : m' = []
    · rw [hm'] at e'
      exact absurd (nil_of (white3 w1' w2' e') e hh) hm
    · have front : ∀ {m g : List UInt8}, m ≠ [] → (∀ c r, m = c :: r → wU c = false) → ∀ c r, m ++ g = c :: r → wU c = false := by
        intro m g hne hh c r he
        cases m with
        | nil => exact absurd rfl hne
        | cons d k => rw [List.cons_append] at he; obtain ⟨rfl, _⟩ := List.cons.inj he; exact hh _ _ rfl
      have k1 : m ++ g2 = m' ++ g2' := by
        have a1 := drop_white g1 (m ++ g2) w1 (front hm hh)
        have a2 := drop_white g1' (m' ++ g2') w1' (front hm' hh')
        rw [← List.append_assoc, ← e] at a1
        rw [← List.append_assoc, ← e', a1] at a2
        exact a2
      have k2 : g2.reverse ++ m.reverse = g2'.reverse ++ m'.reverse := by rw [← List.reverse_append, ← List.reverse_append, k1]
      have wr : ∀ {g : List UInt8}, White g → White g.reverse := fun h c hc => h c (List.mem_reverse.1 hc)
      have lr : ∀ {m : List UInt8}, (∀ c r, m = r ++ [c] → wU c = false) → ∀ c r, m.reverse = c :: r → wU c = false := by
        intro m h c r he
        refine h c r.reverse ?_
        have := congrArg List.reverse he
        rwa [List.reverse_reverse, List.reverse_cons] at this
      have b1 := drop_white _ m.reverse (wr w2) (lr hl)
      have b2 := drop_white _ m'.reverse (wr w2') (lr hl')
      rw [k2, b2] at b1
      have := congrArg List.reverse b1
      rw [List.reverse_reverse, List.reverse_reverse] at this
      exact this.symm
theorem lo_facts (s : ByteArray) : ∀ (f pos : Nat), s.size ≤ pos + f → pos ≤ s.size →
    pos ≤ loB s f pos ∧ loB s f pos ≤ s.size ∧ (∀ k, pos ≤ k → k < loB s f pos → wB (byteAt s k) = true) ∧ (loB s f pos < s.size → wB (byteAt s (loB s f pos)) = false)
  | 0, pos, h, hp => ⟨Nat.le_refl _, hp, fun k h1 h2 => by unfold loB at h2; omega, fun h2 => by unfold loB at h2; omega⟩
  | f + 1, pos, h, hp => by
    unfold loB
    by_cases hc : pos < s.size ∧ wB (byteAt s pos) = true
    · rw [if_pos hc]
      obtain ⟨a, b, c, d⟩ := lo_facts s f (pos + 1) (by omega) (by omega)
      refine ⟨by omega, b, fun k h1 h2 => ?_, d⟩
      by_cases e : k = pos
      · rw [e]; exact hc.2
      · exact c k (by omega) h2
    · rw [if_neg hc]
      refine ⟨Nat.le_refl _, hp, fun k h1 h2 => by omega, fun h2 => ?_⟩
      cases hb : wB (byteAt s pos) with
      | false => rfl
      | true => exact absurd ⟨h2, hb⟩ hc
theorem hi_facts (s : ByteArray) : ∀ (i : Nat), (∀ k, hiB s i ≤ k → k < i → wB (byteAt s k) = true) ∧ (0 < hiB s i → wB (byteAt s (hiB s i - 1)) = false)
  | 0 => ⟨fun k h1 h2 => by omega, fun h => by unfold hiB at h; omega⟩
  | i + 1 => by
    unfold hiB
    by_cases hc : wB (byteAt s i) = true
    · rw [if_pos hc]
      obtain ⟨a, b⟩ := hi_facts s i
      refine ⟨fun k h1 h2 => ?_, b⟩
      by_cases e : k = i
      · rw [e]; exact hc
      · exact a k h1 (by omega)
    · rw [if_neg hc]
      exact ⟨fun k h1 h2 => by omega, fun _ => Bool.eq_false_iff.2 hc⟩
theorem white_of (s : ByteArray) (a b : Nat) (h : ∀ k, a ≤ k → k < b → wB (byteAt s k) = true) : White (((bl s).drop a).take (b - a)) := by
  intro c hc
  obtain ⟨k, hk, rfl⟩ := List.mem_iff_getElem.1 hc
  rw [List.length_take, List.length_drop] at hk
  rw [List.getElem_take, List.getElem_drop]
  unfold wU
  rw [bl_get]
  exact h _ (by omega) (by omega)
theorem trimB_is (s : ByteArray) : IsTrim (bl s) (bl (trimB s)) := by
  obtain ⟨_, a, b, c⟩ := lo_facts s s.size 0 (by omega) (by omega)
  have eL : bl (trimL s) = (bl s).drop (lo s) := by
    unfold trimL
    rw [bl_part]
    exact List.take_of_length_le (by rw [List.length_drop, bl_len]; omega)
  obtain ⟨d, e⟩ := hi_facts (trimL s) (trimL s).size
  have hle : hiB (trimL s) (trimL s).size ≤ (trimL s).size := hiB_le _ _
  have eR : bl (trimB s) = (bl (trimL s)).take (hi (trimL s)) := by
    unfold trimB trimR
    rw [bl_part]
    rfl
  refine ⟨(bl s).take (lo s), (bl (trimL s)).drop (hi (trimL s)), ?_, ?_, ?_, ?_, ?_⟩
  · have := white_of s 0 (lo s) (fun k _ h => b k (Nat.zero_le _) h)
    simpa using this
  · have := white_of (trimL s) (hi (trimL s)) (trimL s).size d
    rwa [List.take_of_length_le (by rw [List.length_drop, bl_len]; omega)] at this
  · rw [eR, List.append_assoc, List.take_append_drop, eL, List.take_append_drop]
  · intro x r he
    have h0 : (bl (trimB s))[0]? = some x := by rw [he]; rfl
    rw [eR, List.getElem?_take] at h0
    by_cases l1 : 0 < hi (trimL s)
    · rw [if_pos l1, eL, List.getElem?_drop, Nat.add_zero] at h0
      obtain ⟨l3, e3⟩ := List.getElem?_eq_some_iff.1 h0
      unfold wU
      rw [← e3, bl_get]
      exact c l3
    · rw [if_neg l1] at h0; cases h0
  · intro x r he
    have h0 : (bl (trimB s))[r.length]? = some x := by rw [he]; simp
    have hlen : (bl (trimB s)).length = r.length + 1 := by rw [he]; simp
    have l1 : r.length + 1 = hi (trimL s) := by
      rw [eR, List.length_take, bl_len] at hlen
      unfold hi at hlen ⊢
      omega
    rw [eR, List.getElem?_take, if_pos (by omega)] at h0
    obtain ⟨l3, e3⟩ := List.getElem?_eq_some_iff.1 h0
    unfold wU
    rw [← e3, bl_get]
    have e4 : r.length = hiB (trimL s) (trimL s).size - 1 := by unfold hi at l1; omega
    rw [e4]
    exact e (by unfold hi at l1; omega)
theorem trim_eq {s t : ByteArray} (h : IsTrim (bl s) (bl t)) : trimB s = t := bl_inj ((trimB_is s).one h)
theorem IsTrim.wide {t m g g' : List UInt8} (h : IsTrim t m) (hg : White g) (hg' : White g') : IsTrim (g ++ t ++ g') m := by
  obtain ⟨g1, g2, w1, w2, e, hh, hl⟩ := h
  have wa : ∀ {a b : List UInt8}, White a → White b → White (a ++ b) := fun ha hb c hc => (List.mem_append.1 hc).elim (ha c) (hb c)
  refine ⟨g ++ g1, g2 ++ g', wa hg w1, wa w2 hg', ?_, hh, hl⟩
  rw [e]
  simp only [List.append_assoc]
theorem IsTrim.self {t m : List UInt8} (h : IsTrim t m) : IsTrim m m := by
  obtain ⟨g1, g2, w1, w2, e, hh, hl⟩ := h
  exact ⟨[], [], fun c h => (by cases h), fun c h => (by cases h), by simp, hh, hl⟩
theorem isTrim_ink {x : List UInt8} (h : Ink x) : IsTrim x x :=
  ⟨[], [], fun c h => (by cases h), fun c h => (by cases h), by simp, fun c r e => h c (by rw [e]; simp), fun c r e => h c (by rw [e]; simp)⟩
theorem IsTrim.words {t m : List UInt8} (h : IsTrim t m) : wl m [] = wl t [] := by
  obtain ⟨g1, g2, w1, w2, e, hh, hl⟩ := h
  rw [e, wl_white_tail g2 w2, wl_white_head _ _ w1]
/-- Words with one white between. -/
theorem join_step {s j x : ByteArray} (c : ByteArray) (l : List ByteArray) (hc : ∃ d, bl c = [d] ∧ wU d = true) (hj : wordsOf j = l) (hx : wordsOf x = [x]) : wordsOf (j ++ c ++ x) = l ++ [x] := by
  obtain ⟨d, e, hd⟩ := hc
  have h1 := words_wl (j ++ c ++ x)
  rw [bl_app, bl_app, e, List.append_assoc, List.singleton_append, wl_cut d hd, ← words_wl, ← words_wl, hj, hx, ← List.map_append] at h1
  have key : ∀ (a b : List ByteArray), a.map bl = b.map bl → a = b := by
    intro a
    induction a with
    | nil => intro b hb; cases b with
      | nil => rfl
      | cons x b => cases hb
    | cons y a ih => intro b hb; cases b with
      | nil => cases hb
      | cons x b =>
        rw [List.map_cons, List.map_cons] at hb
        obtain ⟨e1, e2⟩ := List.cons.inj hb
        rw [bl_inj e1, ih b e2]
  exact key _ _ h1
end Go.Proofs.YtjkaigfpjebfbaaGreatDoor
