/- stanza.lower, stanza.Same; chandlerref4.low, Same. -/
import Derived.Test.YtjkaigfpjebfbaaGreatDoorProg
import Derived.Test.YtjkaigfpjebfbaaGreatDoorSt1
import Derived.Test.YtjkaigfpjebfbaaGreatDoorHeap
import Derived.Laws.IdiomStrings
import Derived.Lib.OthersKept
import Derived.Outline
import Derived.WalkKit
import Derived.WalkSpells
namespace Go.Proofs.YtjkaigfpjebfbaaGreatDoor
open Go.RowKit
set_option linter.unusedVariables false

/-- Block q: the bytes of s, those ahead of i in small letters. -/
def LowAt (w : World) (q : Nat) (s : ByteArray) (i : Nat) : Prop :=
  ∃ C : Array Value, w.heap[q]? = some (.cells C 5 (C.size, C.size + 1)) ∧ s.size ≤ C.size ∧ ∀ j, j < s.size → C[j]? = some (.int .u8 (((if j < i then lowU (byteAt s j) else byteAt s j) : Nat) : Int))
theorem LowAt.lt {w : World} {q : Nat} {s : ByteArray} {i : Nat} (h : LowAt w q s i) : q < w.heap.size := by
  obtain ⟨C, h1, _⟩ := h
  rcases Nat.lt_or_ge q w.heap.size with h2 | h2
  · exact h2
  · rw [Array.getElem?_eq_none h2] at h1; cases h1
theorem LowAt.cell {w : World} {q : Nat} {s : ByteArray} {i j : Nat} (h : LowAt w q s i) (hj : j < s.size) : w.cell? ⟨q, j, none⟩ = some (.int .u8 (((if j < i then lowU (byteAt s j) else byteAt s j) : Nat) : Int)) := by
  obtain ⟨C, h1, h2, h3⟩ := h
  rw [cell_of_row w q j C _ _ h1, h3 j hj]
theorem LowAt.frozen {w : World} {q : Nat} {s : ByteArray} {i j : Nat} (h : LowAt w q s i) (hj : j < s.size) : w.frozen? ⟨q, j, none⟩ = false := by
  obtain ⟨C, h1, h2, h3⟩ := h
  simp [World.frozen?, h1]
  omega
theorem LowAt.step {w : World} {q : Nat} {s : ByteArray} {i : Nat} (h : LowAt w q s i) (hi : i < s.size) : LowAt (w.setCell ⟨q, i, none⟩ (.int .u8 ((lowU (byteAt s i) : Nat) : Int))) q s (i + 1) := by
  obtain ⟨C, h1, h2, h3⟩ := h
  refine ⟨C.setIfInBounds i (.int .u8 ((lowU (byteAt s i) : Nat) : Int)), ?_, by rw [Array.size_setIfInBounds]; exact h2, fun j hj => ?_⟩
  · rw [Array.size_setIfInBounds]
    simp [World.setCell, Array.getElem?_modify, h1]
  · rw [Array.getElem?_setIfInBounds]
    by_cases e : i = j
    · subst e
      rw [if_pos rfl, if_pos (by omega), if_pos (by omega)]
    · rw [if_neg e, h3 j hj]
      by_cases hji : j < i
      · rw [if_pos hji, if_pos (by omega)]
      · rw [if_neg hji, if_neg (by omega)]
theorem LowAt.same {w : World} {q : Nat} {s : ByteArray} {i : Nat} (h : LowAt w q s i) (hi : i < s.size) (hl : lowU (byteAt s i) = byteAt s i) : LowAt w q s (i + 1) := by
  obtain ⟨C, h1, h2, h3⟩ := h
  refine ⟨C, h1, h2, fun j hj => ?_⟩
  rw [h3 j hj]
  by_cases hji : j < i
  · rw [if_pos hji, if_pos (by omega)]
  · rw [if_neg hji]
    by_cases e : j = i
    · subst e; rw [if_pos (by omega), hl]
    · rw [if_neg (by omega)]
theorem bytesRow_at (s : ByteArray) (cap j : Nat) (hj : j < s.size) : (bytesRow s cap)[j]? = some (.int .u8 ((byteAt s j : Nat) : Int)) := by
  unfold bytesRow
  rw [Array.getElem?_append_left (by rw [Array.size_map]; exact hj), Array.getElem?_map, byteAt_get s j hj]
  have : s.data[j]? = some (s[j]'hj) := Array.getElem?_eq_getElem hj
  rw [this]
  rfl
theorem grownCap_ge (w : World) (s : ByteArray) (cap : Nat) : s.size ≤ (bytesRow s cap).size := by
  unfold bytesRow
  rw [Array.size_append, Array.size_map]
  show s.data.size ≤ _
  omega
theorem lowBack (w : World) (q cap : Nat) (s : ByteArray) (h : LowAt w q s s.size) : (convert 108 9 (.slice (some ⟨q, 0, none⟩) s.size cap)).run Tryz.prog w = .ok (.string (lowB s)) w := by
  have := run_convert_bytes_back (P := Tryz.prog) w 108 9 5 ⟨q, 0, none⟩ cap (lowL (bl s)) Tryz.underlying108 Tryz.underlying5 Tryz.underlying9 (fun j hj => by
    rw [lowL_len, bl_len] at hj
    have h1 := h.cell hj
    rw [if_pos hj] at h1
    have e : (⟨q, 0, none⟩ : Addr).add j = ⟨q, j, none⟩ := by unfold Addr.add; split <;> simp_all
    rw [e, h1]
    have h2 : (lowL (bl s))[j]'(by rw [lowL_len]; exact hj) = UInt8.ofNat (lowU (byteAt s j)) := by
      have h3 : (lowL (bl s))[j]'(by rw [lowL_len]; exact hj) = UInt8.ofNat (lowU ((bl s)[j]'hj).toNat) := by
        show (List.map _ (bl s))[j]'_ = _
        exact List.getElem_map _
      rw [h3, bl_get s j hj]
    rw [h2, UInt8.toNat_ofNat_of_lt' (lowU_lt (byteAt_lt s j))])
  rw [lowL_len] at this
  exact this
set_option maxRecDepth 100000 in
set_option maxHeartbeats 2000000 in
theorem lower_any (s : ByteArray) (w : World) (hs : s.size ≤ 4294967296) :
    Calls Tryz.prog 78 #[.string s] w fun e w' => e = .returned (.string (lowB s)) ∧ Below w.heap.size w w' := by
  have hc := run_bytes_of_string (P := Tryz.prog) w 9 108 5 s Tryz.underlying9 Tryz.underlying108 Tryz.underlying5
  obtain ⟨cap, hcap⟩ : ∃ cap, cap = grownCap w s.size 0 5 := ⟨_, rfl⟩
  rw [← hcap] at hc
  obtain ⟨w1, hw1⟩ : ∃ w1, w1 = w.drew.alloc (.cells (bytesRow s cap) 5 ((bytesRow s cap).size, (bytesRow s cap).size + 1)) := ⟨_, rfl⟩
  rw [← hw1] at hc
  obtain ⟨q, hq⟩ : ∃ q, q = w.heap.size := ⟨_, rfl⟩
  rw [← hq] at hc ⊢
  have hl : LowAt w1 q s 0 := by
    refine ⟨bytesRow s cap, ?_, grownCap_ge w s cap, fun j hj => ?_⟩
    · rw [hw1, hq]; exact heap_alloc_new w.drew _
    · rw [if_neg (by omega)]; exact bytesRow_at s cap j hj
  have hb1 : Below q w w1 := by rw [hw1, hq]; exact (((Below.refl _ w).drew).alloc (Nat.le_refl _) _)
  have HL := Lib.hid hl
  have HB := Lib.hid hb1
  have HQ := Lib.hid hq
  obtain ⟨n, hn⟩ : ∃ n, n = s.size := ⟨_, rfl⟩
  rw [← hn] at hc hs
  have HN := Lib.hid hn
  clear hl hb1 hw1 hcap hq hn
  go_enter Tryz.func78, Tryz.ntmps78
  go_wp2_with fail
  clear hc
  go_loopw [10] (fun t wr => ∃ i : Nat, t = .int .i64 (i : Int) ∧ i ≤ n ∧ Hid (LowAt wr q s i) ∧ Hid (Below q w wr)) (fun t _ => n - (match t with | .int _ x => x.toNat | _ => 0))
  case atStart => exact ⟨0, rfl, Nat.zero_le _, HL, HB⟩
  case round =>
    obtain ⟨i, rfl, hi, HLI, HBI⟩ := hrel
    clear HL HB
    by_cases hlt : i < n
    · have his : i < s.size := by rw [← HN.out]; exact hlt
      have kc := HLI.out.cell his
      rw [if_neg (by omega)] at kc
      have kf := HLI.out.frozen his
      have hb256 := byteAt_lt s i
      have HBB : Hid (byteAt s i = byteAt s i) := Lib.hid rfl
      obtain ⟨b, hb⟩ : ∃ b, b = byteAt s i := ⟨_, rfl⟩
      rw [← hb] at kc hb256
      have hln : (i : Int) < (n : Int) := by omega
      by_cases h1 : 65 ≤ b
      · by_cases h2 : b ≤ 90
        · have q1 : decide ((65 : Int) ≤ (b : Int)) = true := by (simp <;> omega)
          have q2 : decide ((b : Int) ≤ 90) = true := by (simp <;> omega)
          have e : lowU (byteAt s i) = b + 32 := by rw [← hb]; unfold lowU; rw [if_pos ⟨h1, h2⟩]
          have hst := HLI.out.step his
          rw [e, show (((b + 32 : Nat) : Int)) = (b : Int) + 97 - 65 by omega] at hst
          have HST := Lib.hid hst
          have HB2 : Hid (Below q w (wr.setCell ⟨q, i, none⟩ (.int .u8 ((b : Int) + 97 - 65)))) := Lib.hid (HBI.out.setCell (by rw [HQ.out]; exact Nat.le_refl _) _)
          clear e hst hb his
          go_wp2_with fail
          go_roundw
          case rel => exact ⟨i + 1, by go_num, by omega, HST, HB2⟩
          case measure => simp; omega
        · have e : lowU (byteAt s i) = byteAt s i := by rw [← hb]; unfold lowU; rw [if_neg (by omega)]
          have HST := Lib.hid (HLI.out.same his e)
          have q2 : decide ((b : Int) ≤ 90) = false := by (simp <;> omega)
          clear e hb his
          go_wp2_with fail
          go_roundw
          case rel => exact ⟨i + 1, by go_num, by omega, HST, HBI⟩
          case measure => simp; omega
      · have e : lowU (byteAt s i) = byteAt s i := by rw [← hb]; unfold lowU; rw [if_neg (by omega)]
        have HST := Lib.hid (HLI.out.same his e)
        have q1 : decide ((65 : Int) ≤ (b : Int)) = false := by (simp <;> omega)
        clear e hb his
        go_wp2_with fail
        go_roundw
        case rel => exact ⟨i + 1, by go_num, by omega, HST, HBI⟩
        case measure => simp; omega
    · have hin : i = n := by omega
      have hln : ¬ (i : Int) < (n : Int) := by omega
      obtain ⟨cap', hcap'⟩ : ∃ c', c' = cap := ⟨_, rfl⟩
      have hbk := lowBack wr q cap s (by have := HLI.out; rw [hin, HN.out] at this; exact this)
      rw [← HN.out] at hbk
      clear hin hlt hcap'
      go_wp2_with fail
      go_ret
      exact ⟨rfl, HBI.out⟩
theorem str_eq (a b : ByteArray) : (a.toList == b.toList) = decide (a = b) := by
  by_cases h : a = b
  · subst h; simp
  · rw [decide_eq_false h, beq_eq_false_iff_ne]
    intro e
    apply h
    rw [ByteArray.toList_eq, ByteArray.toList_eq] at e
    obtain ⟨⟨x⟩⟩ := a
    obtain ⟨⟨y⟩⟩ := b
    simp at e
    rw [e]
set_option maxRecDepth 100000 in
theorem SSame_any (a b : ByteArray) (w : World) (ha : a.size ≤ 4294967296) (hb : b.size ≤ 4294967296) :
    Calls Tryz.prog 59 #[.string a, .string b] w fun e w' => e = .returned (.bool (sameN a b)) ∧ Below w.heap.size w w' := by
  have HA := Lib.hid (fun W => lower_any a W ha)
  have HB := Lib.hid (fun W => lower_any b W hb)
  obtain ⟨x, hx⟩ : ∃ x, x = lowB a := ⟨_, rfl⟩
  obtain ⟨y, hy⟩ : ∃ y, y = lowB b := ⟨_, rfl⟩
  have HR : Hid ((x.toList == y.toList) = sameN a b) := Lib.hid (by rw [str_eq, hx, hy]; rfl)
  rw [← hx] at HA
  rw [← hy] at HB
  clear hx hy ha hb
  go_enter Tryz.func59, Tryz.ntmps59
  go_wp2_with fail
  go_at_call 78
  refine (HA.out _).mono ?_
  rintro e w1 ⟨rfl, hb1⟩
  go_wp2_with fail
  go_at_call 78
  refine (HB.out _).mono ?_
  rintro e w2 ⟨rfl, hb2⟩
  go_wp2_with fail
  go_ret
  exact ⟨by rw [← HR.out]; rfl, hb1.trans (hb2.mono hb1.size)⟩
theorem lowL_at (s : ByteArray) (j : Nat) (hj : j < s.size) : (lowL (bl s))[j]'(by rw [lowL_len]; exact hj) = UInt8.ofNat (lowU (byteAt s j)) := by
  have h3 : (lowL (bl s))[j]'(by rw [lowL_len]; exact hj) = UInt8.ofNat (lowU ((bl s)[j]'hj).toNat) := by
    show (List.map _ (bl s))[j]'_ = _
    exact List.getElem_map _
  rw [h3, bl_get s j hj]
theorem sameN_no {a b : ByteArray} {j : Nat} (ha : j < a.size) (hb : j < b.size) (h : lowU (byteAt a j) ≠ lowU (byteAt b j)) : sameN a b = false := by
  refine decide_eq_false fun e => h ?_
  have e1 : lowL (bl a) = lowL (bl b) := by have := congrArg bl e; exact this
  have h1 := lowL_at a j ha
  have h2 := lowL_at b j hb
  have h3 : (lowL (bl a))[j]'(by rw [lowL_len]; exact ha) = (lowL (bl b))[j]'(by rw [lowL_len]; exact hb) := by simp only [e1]
  rw [h1, h2] at h3
  have := congrArg UInt8.toNat h3
  rwa [UInt8.toNat_ofNat_of_lt' (lowU_lt (byteAt_lt a j)), UInt8.toNat_ofNat_of_lt' (lowU_lt (byteAt_lt b j))] at this
theorem sameN_len {a b : ByteArray} (h : a.size ≠ b.size) : sameN a b = false := by
  refine decide_eq_false fun e => h ?_
  have := congrArg ByteArray.size e
  rwa [lowB_size, lowB_size] at this
theorem sameN_yes {a b : ByteArray} (hl : a.size = b.size) (h : ∀ j, j < a.size → lowU (byteAt a j) = lowU (byteAt b j)) : sameN a b = true := by
  refine decide_eq_true (bl_inj ?_)
  show lowL (bl a) = lowL (bl b)
  refine List.ext_getElem (by rw [lowL_len, lowL_len]; exact hl) fun j h1 h2 => ?_
  rw [lowL_len] at h1 h2
  rw [lowL_at a j h1, lowL_at b j h2, h j h1]
end Go.Proofs.YtjkaigfpjebfbaaGreatDoor
