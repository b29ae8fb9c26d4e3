/- Put together: text.Trim, white: they answer what the plain law says; chandlerref4.tail, Trim: they answer what the plain law says; chandlerref4.Trim: the walk; Rows of texts; stanza.lower, stanza.Same; chandlerref4.low, Same. -/
import Derived.Test.YtjkaigfpjebfbaaDoorB1
import Derived.Test.YtjkaigfpjebfbaaDoorB3
import Derived.Test.YtjkaigfpjebfbaaDoorB4
import Derived.Test.YtjkaigfpjebfbaaDoorB2
import Derived.Test.YtjkaigfpjebfbaaDoorProg
import Derived.ProofKit
import Derived.BigQuiet
import Derived.Deep.QuietTactic
import Derived.Laws.IdiomStrings
import Derived.Lib.OthersKept
import Derived.Outline
import Derived.WalkKit
import Derived.WalkSpells
/- text.Trim, white: they answer what the plain law says. -/
namespace Go.Proofs.YtjkaigfpjebfbaaDoor
open Go.RowKit Go.Shelf Go.Lib
set_option linter.unusedVariables false

theorem tabs_later {w w' : World} (h : Lib.Utf8Tabs 0 1 w) (hb : Below w.heap.size w w') : Lib.Utf8Tabs 0 1 w' := Utf8Tabs_below h hb
set_option maxRecDepth 100000 in
set_option maxHeartbeats 2000000 in
theorem white_gives (W : World) (x : Nat) : FnGives Tryd.prog 45 #[] #[encR x] (.bool (wB x)) W := by
  show Calls Tryd.prog 45 #[.int .i32 (x : Int)] W _
  by_cases h1 : x = 32
  · have q1 : ((x : Int) == 32) = true := beq_iff_eq.2 (by omega)
    have HE := Lib.hid (wB_yes (.inl h1))
    clear h1
    go_enter Tryd.func45, Tryd.ntmps45
    go_wp2
    go_ret
    exact ⟨ret_bool HE.out.symm, 0, rfl⟩
  · have q1 : ((x : Int) == 32) = false := beq_eq_false_iff_ne.2 (by omega)
    by_cases h2 : x = 9
    · have q2 : ((x : Int) == 9) = true := beq_iff_eq.2 (by omega)
      have HE := Lib.hid (wB_yes (.inr h2))
      clear h1 h2
      go_enter Tryd.func45, Tryd.ntmps45
      go_wp2
      go_ret
      exact ⟨ret_bool HE.out.symm, 0, rfl⟩
    · have q2 : ((x : Int) == 9) = false := beq_eq_false_iff_ne.2 (by omega)
      have HE := Lib.hid (wB_no ⟨h1, h2⟩)
      clear h1 h2
      go_enter Tryd.func45, Tryd.ntmps45
      go_wp2
      go_ret
      exact ⟨ret_bool HE.out.symm, 0, rfl⟩
theorem white_at (w : World) : PredAt Tryd.prog 45 #[] encR wB w := fun W x _ => white_gives W x
theorem white_enters : ∀ (args : Array Value) (w : World), (callFunc 45 args).run Tryd.prog w = .ok (.enter 45 args) w := enters_of Tryd.func45 (by kernel_rfl) rfl
set_option maxRecDepth 100000 in
set_option maxHeartbeats 2000000 in
theorem Trim_any (s : ByteArray) (w : World) (hs : s.size ≤ 9223372036854775807) (hT : Lib.Utf8Tabs 0 1 w) :
    Calls Tryd.prog 31 #[.string s] w fun e w' => e = .returned (.string (trimB s)) ∧ Below w.heap.size w w' := by
  have h1 := fun W hT => Tryd.strings_TrimFunc 45 #[] white_enters wB s W hs hT (white_at W)
  rw [trimF_B] at h1
  have H1 := Lib.hid h1
  have HT := Lib.hid hT
  clear h1 hT
  go_enter Tryd.func31, Tryd.ntmps31
  go_wp2_with fail
  refine (H1.out _ HT.out).mono ?_
  rintro e w1 ⟨rfl, hb⟩
  go_wp2_with fail
  go_ret
  exact ⟨rfl, hb⟩
theorem refWhite_any (b : Nat) (w : World) (hb : b < 256) : Calls Tryd.prog 27 #[.int .u8 (b : Int)] w fun e w' => e = .returned (.bool (wB b)) ∧ w = w' := by
  by_cases h1 : b = 32
  · have q1 : ((b : Int) == 32) = true := beq_iff_eq.2 (by omega)
    have HE := Lib.hid (wB_yes (.inl h1))
    clear h1
    go_enter Tryd.func27, Tryd.ntmps27
    go_wp2
    go_ret
    exact ⟨ret_bool HE.out.symm, rfl⟩
  · have q1 : ((b : Int) == 32) = false := beq_eq_false_iff_ne.2 (by omega)
    by_cases h2 : b = 9
    · have q2 : ((b : Int) == 9) = true := beq_iff_eq.2 (by omega)
      have HE := Lib.hid (wB_yes (.inr h2))
      clear h1 h2
      go_enter Tryd.func27, Tryd.ntmps27
      go_wp2
      go_ret
      exact ⟨ret_bool HE.out.symm, rfl⟩
    · have q2 : ((b : Int) == 9) = false := beq_eq_false_iff_ne.2 (by omega)
      have HE := Lib.hid (wB_no ⟨h1, h2⟩)
      clear h1 h2
      go_enter Tryd.func27, Tryd.ntmps27
      go_wp2
      go_ret
      exact ⟨ret_bool HE.out.symm, rfl⟩
end Go.Proofs.YtjkaigfpjebfbaaDoor
/- chandlerref4.tail, Trim: they answer what the plain law says. -/
namespace Go.Proofs.YtjkaigfpjebfbaaDoor
open Go.RowKit Go.Shelf Go.Lib
set_option linter.unusedVariables false

theorem hiB_part (s : ByteArray) (i : Nat) (hi : i ≤ s.size) : ∀ k, k ≤ i → hiB (s.extract 0 i) k = hiB s k
  | 0, _ => rfl
  | k + 1, h => by
    unfold hiB
    rw [part_at s i k hi (by omega), hiB_part s i hi k (by omega)]
theorem part_part (s : ByteArray) (i k : Nat) (hi : i ≤ s.size) (hk : k ≤ i) : (s.extract 0 i).extract 0 k = s.extract 0 k := by
  apply ByteArray.ext
  apply Array.toList_inj.1
  rw [part_list, part_list, part_list, List.take_take, Nat.min_eq_left hk]
theorem tail_step (s : ByteArray) (n : Nat) (hn : s.size = n + 1) (h : wB (byteAt s n) = true) : trimR (s.extract 0 n) = trimR s := by
  unfold trimR hi
  rw [part_size s n (by omega), hiB_part s n (by omega) n (Nat.le_refl _), part_part s n _ (by omega) (hiB_le s n), hn]
  congr 1
  show _ = if wB (byteAt s n) = true then _ else _
  rw [if_pos h]
theorem part_all (s : ByteArray) : s.extract 0 s.size = s := by
  apply ByteArray.ext
  apply Array.toList_inj.1
  rw [part_list]
  exact List.take_of_length_le (by simp)
theorem tail_end (s : ByteArray) (n : Nat) (hn : s.size = n + 1) (h : wB (byteAt s n) = false) : trimR s = s := by
  unfold trimR hi
  have e : hiB s s.size = s.size := by
    rw [hn]
    show (if wB (byteAt s n) = true then _ else _) = _
    rw [if_neg (by rw [h]; decide)]
  rw [e, part_all]
theorem tail_nil (s : ByteArray) (hn : s.size = 0) : trimR s = s := by
  unfold trimR hi
  rw [hn]
  show s.extract 0 0 = s
  have := part_all s
  rwa [hn] at this
set_option maxRecDepth 100000 in
set_option maxHeartbeats 4000000 in
theorem tail_any (S : ByteArray) (w : World) (hs : S.size ≤ 9223372036854775807) :
    Calls Tryd.prog 28 #[.string S] w fun e w' => e = .returned (.string (trimR S)) ∧ w = w' := by
  go_enter Tryd.func28, Tryd.ntmps28
  obtain ⟨wo, rfl⟩ : ∃ wo : World, wo = w := ⟨_, rfl⟩
  go_wp2
  go_loopw [0] (fun v wr => ∃ s : ByteArray, v = .string s ∧ wr = wo ∧ Hid (trimR s = trimR S) ∧ s.size ≤ S.size) (fun v _ => match v with | .string s => s.size | _ => 0)
  case atStart => exact ⟨S, rfl, rfl, Lib.hid rfl, Nat.le_refl _⟩
  case round =>
    obtain ⟨s, rfl, rfl, HS, hle⟩ := hrel
    by_cases h0 : s.size = 0
    · have HE := Lib.hid (tail_nil s h0)
      have h00 : ((s.size : Int)) ≤ 0 := by omega
      clear h0
      go_wp2
      go_ret
      exact ⟨by rw [← HS.out, HE.out]; rfl, rfl⟩
    · obtain ⟨n, hn⟩ : ∃ n, s.size = n + 1 := ⟨s.size - 1, by omega⟩
      have hp : (0 : Int) < s.size := by omega
      have hlt : n < s.size := by omega
      cases hb : wB (byteAt s n) with
      | true =>
        have HE := Lib.hid (tail_step s n hn hb)
        have hz := part_size s n (by omega)
        have HW := Lib.hid (byteAt_get s n hlt ▸ hb)
        clear hb h0
        go_wp2_with fail
        refine (refWhite_any (s[n]'hlt).toNat _ (UInt8.toNat_lt _)).mono ?_
        rintro e w1 ⟨rfl, rfl⟩
        rw [HW.out]
        go_wp2
        go_roundw
        case rel => exact ⟨_, rfl, trivial, Lib.hid (HE.out.trans HS.out), by omega⟩
        case measure =>
          show (s.extract 0 n).size < s.size
          omega
      | false =>
        have HE := Lib.hid (tail_end s n hn hb)
        have HW := Lib.hid (byteAt_get s n hlt ▸ hb)
        clear hb h0
        go_wp2_with fail
        refine (refWhite_any (s[n]'hlt).toNat _ (UInt8.toNat_lt _)).mono ?_
        rintro e w1 ⟨rfl, rfl⟩
        rw [HW.out]
        go_wp2
        go_ret
        exact ⟨by rw [← HS.out, HE.out]; rfl, rfl⟩
theorem back_size (s : ByteArray) (n : Nat) (hn : s.size = n + 1) : (s.extract 1 s.size).size = n := by rw [ByteArray.size_extract]; omega
theorem back_at (s : ByteArray) (n : Nat) (hn : s.size = n + 1) (k : Nat) (hk : k < n) : byteAt (s.extract 1 s.size) k = byteAt s (1 + k) := by
  have h := byteAt_right (s.extract 0 1) (s.extract 1 s.size) k
  rw [part_join s 1 (by omega), part_size s 1 (by omega)] at h
  exact h.symm
theorem lo_back (s : ByteArray) (n : Nat) (hn : s.size = n + 1) : ∀ f k, k ≤ n → loB s f (k + 1) = loB (s.extract 1 s.size) f k + 1
  | 0, k, _ => rfl
  | f + 1, k, h => by
    have hz := back_size s n hn
    unfold loB
    by_cases hk : k < n
    · rw [back_at s n hn k hk, Nat.add_comm 1 k]
      by_cases hw : wB (byteAt s (k + 1)) = true
      · rw [if_pos ⟨by omega, hw⟩, if_pos ⟨by omega, hw⟩]
        exact lo_back s n hn f (k + 1) (by omega)
      · rw [if_neg (fun h => hw h.2), if_neg (fun h => hw h.2)]
    · rw [if_neg (fun h => by have := h.1; omega), if_neg (fun h => by have := h.1; omega)]
theorem loB_end (s : ByteArray) (pos : Nat) (h : s.size ≤ pos) : ∀ f, loB s f pos = pos
  | 0 => rfl
  | f + 1 => by unfold loB; rw [if_neg (fun h' => by have := h'.1; omega)]
theorem loB_more (s : ByteArray) : ∀ (f g pos : Nat), s.size ≤ pos + f → s.size ≤ pos + g → loB s f pos = loB s g pos
  | 0, g, pos, h, _ => by rw [loB_end s pos (by omega), loB_end s pos (by omega)]
  | f + 1, 0, pos, _, h => by rw [loB_end s pos (by omega), loB_end s pos (by omega)]
  | f + 1, g + 1, pos, h, h' => by
    unfold loB
    split
    · exact loB_more s f g (pos + 1) (by omega) (by omega)
    · rfl
theorem cut_cut (s : ByteArray) (k : Nat) : (s.extract 1 s.size).extract k (s.extract 1 s.size).size = s.extract (k + 1) s.size := by
  apply ByteArray.ext
  apply Array.toList_inj.1
  rw [Lib.extract_data, Lib.extract_data, Lib.extract_data, ByteArray.size_extract, List.drop_take, List.drop_drop, List.take_take]
  rw [List.take_of_length_le, List.take_of_length_le]
  · rw [Nat.add_comm 1 k]
  · simp
  · simp; omega
theorem head_step (s : ByteArray) (n : Nat) (hn : s.size = n + 1) (h : wB (byteAt s 0) = true) : trimL (s.extract 1 s.size) = trimL s := by
  unfold trimL lo
  rw [cut_cut]
  congr 1
  have e : loB s s.size 0 = loB s n 1 := by
    rw [hn]
    show (if 0 < s.size ∧ wB (byteAt s 0) = true then loB s n (0 + 1) else 0) = _
    rw [if_pos ⟨by omega, h⟩]
  rw [e, lo_back s n hn n 0 (by omega), back_size s n hn]
theorem head_end (s : ByteArray) (n : Nat) (hn : s.size = n + 1) (h : wB (byteAt s 0) = false) : trimL s = s := by
  unfold trimL lo
  have e : loB s s.size 0 = 0 := by
    rw [hn]
    show (if 0 < s.size ∧ wB (byteAt s 0) = true then loB s n (0 + 1) else 0) = _
    rw [if_neg (fun h' => by rw [h] at h'; exact absurd h'.2 (by decide))]
  rw [e, part_all]
theorem head_nil (s : ByteArray) (hn : s.size = 0) : trimL s = s := by
  unfold trimL lo
  have e : loB s s.size 0 = 0 := by rw [hn]; rfl
  rw [e, part_all]
end Go.Proofs.YtjkaigfpjebfbaaDoor
/- chandlerref4.Trim: the walk. -/
namespace Go.Proofs.YtjkaigfpjebfbaaDoor
open Go.RowKit Go.Shelf Go.Lib
set_option linter.unusedVariables false

set_option maxRecDepth 100000 in
set_option maxHeartbeats 400000 in
theorem RefTrim_any (S : ByteArray) (w : World) (hs : S.size ≤ 9223372036854775807) :
    Calls Tryd.prog 21 #[.string S] w fun e w' => e = .returned (.string (trimB S)) ∧ w = w' := by
  go_enter Tryd.func21, Tryd.ntmps21
  obtain ⟨wo, rfl⟩ : ∃ wo : World, wo = w := ⟨_, rfl⟩
  go_wp2
  go_loopw [0] (fun v wr => ∃ s : ByteArray, v = .string s ∧ wr = wo ∧ Hid (trimL s = trimL S) ∧ s.size ≤ S.size) (fun v _ => match v with | .string s => s.size | _ => 0)
  case atStart => exact ⟨S, rfl, rfl, Lib.hid rfl, Nat.le_refl _⟩
  case round =>
    obtain ⟨s, rfl, rfl, HS, hle⟩ := hrel
    have hend : trimL s = s → trimR s = trimB S := fun e => by unfold trimB; rw [← HS.out, e]
    have HEND := Lib.hid hend
    clear hend
    by_cases h0 : s.size = 0
    · have HE := Lib.hid (head_nil s h0)
      have h00 : ((s.size : Int)) ≤ 0 := by omega
      clear h0
      go_wp2_with fail
      refine (tail_any s _ (by omega)).mono ?_
      rintro e w1 ⟨rfl, rfl⟩
      rw [HEND.out HE.out]
      go_wp2
      go_ret
      exact ⟨rfl, rfl⟩
    · obtain ⟨n, hn⟩ : ∃ n, s.size = n + 1 := ⟨s.size - 1, by omega⟩
      have hp : (0 : Int) < s.size := by omega
      have hlt : 0 < s.size := by omega
      have hle1 : 1 ≤ s.size := by omega
      cases hb : wB (byteAt s 0) with
      | true =>
        have HE := Lib.hid (head_step s n hn hb)
        have hz := back_size s n hn
        rw [hn] at hz
        have HE2 : Hid (trimL (s.extract 1 (n + 1)) = trimL S) := Lib.hid (by rw [← hn, HE.out, HS.out])
        have HW := Lib.hid (byteAt_get s 0 hlt ▸ hb)
        have HN := Lib.hid hn
        clear hb h0
        go_wp2_with fail
        refine (refWhite_any (s[0]'hlt).toNat _ (UInt8.toNat_lt _)).mono ?_
        rintro e w1 ⟨rfl, rfl⟩
        rw [HW.out]
        go_wp2
        go_roundw
        case rel =>
          exact ⟨s.extract 1 (n + 1), rfl, trivial, HE2, by omega⟩
        case measure =>
          show (s.extract 1 (n + 1)).size < s.size
          omega
      | false =>
        have HE := Lib.hid (head_end s n hn hb)
        have HW := Lib.hid (byteAt_get s 0 hlt ▸ hb)
        clear hb h0
        go_wp2_with fail
        refine (refWhite_any (s[0]'hlt).toNat _ (UInt8.toNat_lt _)).mono ?_
        rintro e w1 ⟨rfl, rfl⟩
        rw [HW.out]
        go_wp2_with fail
        refine (tail_any s _ (by omega)).mono ?_
        rintro e w1 ⟨rfl, rfl⟩
        rw [HEND.out HE.out]
        go_wp2
        go_ret
        exact ⟨rfl, rfl⟩
end Go.Proofs.YtjkaigfpjebfbaaDoor
/- Rows of texts. -/
namespace Go.Proofs.YtjkaigfpjebfbaaDoor
open Go.RowKit Go.Shelf Go.Lib
set_option linter.unusedVariables false

def TextsAt (w : World) (v : Value) (l : List ByteArray) : Prop :=
  ∃ ao cap, v = .slice ao l.length cap ∧ ∀ j (h : j < l.length), ∃ g, ao = some ⟨g, 0, none⟩ ∧ w.cell? ⟨g, j, none⟩ = some (.string l[j])
theorem TextsAt.of {w : World} {k : Nat} {v : Value} {l : List ByteArray} (h : w.ownsRow k 9 1 v l.length (l.map Value.string)) : TextsAt w v l := by
  rcases h.2 with ⟨rfl, hn⟩ | ⟨g, cap, cur, rfl, _⟩
  · exact ⟨none, 0, by rw [hn], fun j hj => by omega⟩
  · refine ⟨_, cap, rfl, fun j hj => ⟨g, rfl, ?_⟩⟩
    rw [h.cellAt j (by omega)]
    simp [hj]
theorem TextsAt.later {w w' : World} {v : Value} {l : List ByteArray} (h : TextsAt w v l) (hb : Below w.heap.size w w') : TextsAt w' v l := by
  obtain ⟨ao, cap, rfl, hc⟩ := h
  refine ⟨ao, cap, rfl, fun j hj => ?_⟩
  obtain ⟨g, e, hg⟩ := hc j hj
  exact ⟨g, e, by rw [hb.cell (World.block_lt_of_cell? w _ hg)]; exact hg⟩
theorem small_k (m : Int) (c : Nat) (hc : 0 < c) (hc2 : c ≤ 9223372036854775807) : ∃ N : Nat, (IntKind.u64.wrap m).tmod (c : Int) = (N : Int) ∧ N < c := by
  obtain ⟨z, hz⟩ : ∃ z, z = IntKind.u64.wrap m := ⟨_, rfl⟩
  have e : IntKind.u64.wrap m = m % 18446744073709551616 := rfl
  have h0 : 0 ≤ z := by rw [hz, e]; omega
  rw [← hz, Int.tmod_eq_emod_of_nonneg h0]
  have h1 := Int.emod_nonneg z (b := (c : Int)) (by omega)
  have h2 := Int.emod_lt_of_pos z (b := (c : Int)) (by omega)
  exact ⟨(z % (c : Int)).toNat, by omega, by omega⟩
end Go.Proofs.YtjkaigfpjebfbaaDoor
/- stanza.lower, stanza.Same; chandlerref4.low, Same. -/
namespace Go.Proofs.YtjkaigfpjebfbaaDoor
open Go.RowKit
set_option linter.unusedVariables false

/-- Block q: the bytes of s, those ahead of i in small letters. -/
def LowAt (w : World) (q : Nat) (s : ByteArray) (i : Nat) : Prop :=
  ∃ C : Array Value, w.heap[q]? = some (.cells C 5 (C.size, C.size + 1)) ∧ s.size ≤ C.size ∧ ∀ j, j < s.size → C[j]? = some (.int .u8 (((if j < i then lowU (byteAt s j) else byteAt s j) : Nat) : Int))
theorem LowAt.lt {w : World} {q : Nat} {s : ByteArray} {i : Nat} (h : LowAt w q s i) : q < w.heap.size := by
  obtain ⟨C, h1, _⟩ := h
  rcases Nat.lt_or_ge q w.heap.size with h2 | h2
  · exact h2
  · rw [Array.getElem?_eq_none h2] at h1; cases h1
theorem LowAt.cell {w : World} {q : Nat} {s : ByteArray} {i j : Nat} (h : LowAt w q s i) (hj : j < s.size) : w.cell? ⟨q, j, none⟩ = some (.int .u8 (((if j < i then lowU (byteAt s j) else byteAt s j) : Nat) : Int)) := by
  obtain ⟨C, h1, h2, h3⟩ := h
  rw [cell_of_row w q j C _ _ h1, h3 j hj]
theorem LowAt.frozen {w : World} {q : Nat} {s : ByteArray} {i j : Nat} (h : LowAt w q s i) (hj : j < s.size) : w.frozen? ⟨q, j, none⟩ = false := by
  obtain ⟨C, h1, h2, h3⟩ := h
  simp [World.frozen?, h1]
  omega
theorem LowAt.step {w : World} {q : Nat} {s : ByteArray} {i : Nat} (h : LowAt w q s i) (hi : i < s.size) : LowAt (w.setCell ⟨q, i, none⟩ (.int .u8 ((lowU (byteAt s i) : Nat) : Int))) q s (i + 1) := by
  obtain ⟨C, h1, h2, h3⟩ := h
  refine ⟨C.setIfInBounds i (.int .u8 ((lowU (byteAt s i) : Nat) : Int)), ?_, by rw [Array.size_setIfInBounds]; exact h2, fun j hj => ?_⟩
  · rw [Array.size_setIfInBounds]
    simp [World.setCell, Array.getElem?_modify, h1]
  · rw [Array.getElem?_setIfInBounds]
    by_cases e : i = j
    · subst e
      rw [if_pos rfl, if_pos (by omega), if_pos (by omega)]
    · rw [if_neg e, h3 j hj]
      by_cases hji : j < i
      · rw [if_pos hji, if_pos (by omega)]
      · rw [if_neg hji, if_neg (by omega)]
theorem LowAt.same {w : World} {q : Nat} {s : ByteArray} {i : Nat} (h : LowAt w q s i) (hi : i < s.size) (hl : lowU (byteAt s i) = byteAt s i) : LowAt w q s (i + 1) := by
  obtain ⟨C, h1, h2, h3⟩ := h
  refine ⟨C, h1, h2, fun j hj => ?_⟩
  rw [h3 j hj]
  by_cases hji : j < i
  · rw [if_pos hji, if_pos (by omega)]
  · rw [if_neg hji]
    by_cases e : j = i
    · subst e; rw [if_pos (by omega), hl]
    · rw [if_neg (by omega)]
theorem bytesRow_at (s : ByteArray) (cap j : Nat) (hj : j < s.size) : (bytesRow s cap)[j]? = some (.int .u8 ((byteAt s j : Nat) : Int)) := by
  unfold bytesRow
  rw [Array.getElem?_append_left (by rw [Array.size_map]; exact hj), Array.getElem?_map, byteAt_get s j hj]
  have : s.data[j]? = some (s[j]'hj) := Array.getElem?_eq_getElem hj
  rw [this]
  rfl
theorem grownCap_ge (w : World) (s : ByteArray) (cap : Nat) : s.size ≤ (bytesRow s cap).size := by
  unfold bytesRow
  rw [Array.size_append, Array.size_map]
  show s.data.size ≤ _
  omega
theorem lowBack (w : World) (q cap : Nat) (s : ByteArray) (h : LowAt w q s s.size) : (convert 22 9 (.slice (some ⟨q, 0, none⟩) s.size cap)).run Tryd.prog w = .ok (.string (lowB s)) w := by
  have := run_convert_bytes_back (P := Tryd.prog) w 22 9 5 ⟨q, 0, none⟩ cap (lowL (bl s)) Tryd.underlying22 Tryd.underlying5 Tryd.underlying9 (fun j hj => by
    rw [lowL_len, bl_len] at hj
    have h1 := h.cell hj
    rw [if_pos hj] at h1
    have e : (⟨q, 0, none⟩ : Addr).add j = ⟨q, j, none⟩ := by unfold Addr.add; split <;> simp_all
    rw [e, h1]
    have h2 : (lowL (bl s))[j]'(by rw [lowL_len]; exact hj) = UInt8.ofNat (lowU (byteAt s j)) := by
      have h3 : (lowL (bl s))[j]'(by rw [lowL_len]; exact hj) = UInt8.ofNat (lowU ((bl s)[j]'hj).toNat) := by
        show (List.map _ (bl s))[j]'_ = _
        exact List.getElem_map _
      rw [h3, bl_get s j hj]
    rw [h2, UInt8.toNat_ofNat_of_lt' (lowU_lt (byteAt_lt s j))])
  rw [lowL_len] at this
  exact this
set_option maxRecDepth 100000 in
set_option maxHeartbeats 2000000 in
theorem lower_any (s : ByteArray) (w : World) (hs : s.size ≤ 4294967296) :
    Calls Tryd.prog 33 #[.string s] w fun e w' => e = .returned (.string (lowB s)) ∧ Below w.heap.size w w' := by
  have hc := run_bytes_of_string (P := Tryd.prog) w 9 22 5 s Tryd.underlying9 Tryd.underlying22 Tryd.underlying5
  obtain ⟨cap, hcap⟩ : ∃ cap, cap = grownCap w s.size 0 5 := ⟨_, rfl⟩
  rw [← hcap] at hc
  obtain ⟨w1, hw1⟩ : ∃ w1, w1 = w.drew.alloc (.cells (bytesRow s cap) 5 ((bytesRow s cap).size, (bytesRow s cap).size + 1)) := ⟨_, rfl⟩
  rw [← hw1] at hc
  obtain ⟨q, hq⟩ : ∃ q, q = w.heap.size := ⟨_, rfl⟩
  rw [← hq] at hc ⊢
  have hl : LowAt w1 q s 0 := by
    refine ⟨bytesRow s cap, ?_, grownCap_ge w s cap, fun j hj => ?_⟩
    · rw [hw1, hq]; exact heap_alloc_new w.drew _
    · rw [if_neg (by omega)]; exact bytesRow_at s cap j hj
  have hb1 : Below q w w1 := by rw [hw1, hq]; exact (((Below.refl _ w).drew).alloc (Nat.le_refl _) _)
  have HL := Lib.hid hl
  have HB := Lib.hid hb1
  have HQ := Lib.hid hq
  obtain ⟨n, hn⟩ : ∃ n, n = s.size := ⟨_, rfl⟩
  rw [← hn] at hc hs
  have HN := Lib.hid hn
  clear hl hb1 hw1 hcap hq hn
  go_enter Tryd.func33, Tryd.ntmps33
  go_wp2_with fail
  clear hc
  go_loopw [10] (fun t wr => ∃ i : Nat, t = .int .i64 (i : Int) ∧ i ≤ n ∧ Hid (LowAt wr q s i) ∧ Hid (Below q w wr)) (fun t _ => n - (match t with | .int _ x => x.toNat | _ => 0))
  case atStart => exact ⟨0, rfl, Nat.zero_le _, HL, HB⟩
  case round =>
    obtain ⟨i, rfl, hi, HLI, HBI⟩ := hrel
    clear HL HB
    by_cases hlt : i < n
    · have his : i < s.size := by rw [← HN.out]; exact hlt
      have kc := HLI.out.cell his
      rw [if_neg (by omega)] at kc
      have kf := HLI.out.frozen his
      have hb256 := byteAt_lt s i
      have HBB : Hid (byteAt s i = byteAt s i) := Lib.hid rfl
      obtain ⟨b, hb⟩ : ∃ b, b = byteAt s i := ⟨_, rfl⟩
      rw [← hb] at kc hb256
      have hln : (i : Int) < (n : Int) := by omega
      by_cases h1 : 65 ≤ b
      · by_cases h2 : b ≤ 90
        · have q1 : decide ((65 : Int) ≤ (b : Int)) = true := by (simp <;> omega)
          have q2 : decide ((b : Int) ≤ 90) = true := by (simp <;> omega)
          have e : lowU (byteAt s i) = b + 32 := by rw [← hb]; unfold lowU; rw [if_pos ⟨h1, h2⟩]
          have hst := HLI.out.step his
          rw [e, show (((b + 32 : Nat) : Int)) = (b : Int) + 97 - 65 by omega] at hst
          have HST := Lib.hid hst
          have HB2 : Hid (Below q w (wr.setCell ⟨q, i, none⟩ (.int .u8 ((b : Int) + 97 - 65)))) := Lib.hid (HBI.out.setCell (by rw [HQ.out]; exact Nat.le_refl _) _)
          clear e hst hb his
          go_wp2_with fail
          go_roundw
          case rel => exact ⟨i + 1, by go_num, by omega, HST, HB2⟩
          case measure => simp; omega
        · have e : lowU (byteAt s i) = byteAt s i := by rw [← hb]; unfold lowU; rw [if_neg (by omega)]
          have HST := Lib.hid (HLI.out.same his e)
          have q2 : decide ((b : Int) ≤ 90) = false := by (simp <;> omega)
          clear e hb his
          go_wp2_with fail
          go_roundw
          case rel => exact ⟨i + 1, by go_num, by omega, HST, HBI⟩
          case measure => simp; omega
      · have e : lowU (byteAt s i) = byteAt s i := by rw [← hb]; unfold lowU; rw [if_neg (by omega)]
        have HST := Lib.hid (HLI.out.same his e)
        have q1 : decide ((65 : Int) ≤ (b : Int)) = false := by (simp <;> omega)
        clear e hb his
        go_wp2_with fail
        go_roundw
        case rel => exact ⟨i + 1, by go_num, by omega, HST, HBI⟩
        case measure => simp; omega
    · have hin : i = n := by omega
      have hln : ¬ (i : Int) < (n : Int) := by omega
      obtain ⟨cap', hcap'⟩ : ∃ c', c' = cap := ⟨_, rfl⟩
      have hbk := lowBack wr q cap s (by have := HLI.out; rw [hin, HN.out] at this; exact this)
      rw [← HN.out] at hbk
      clear hin hlt hcap'
      go_wp2_with fail
      go_ret
      exact ⟨rfl, HBI.out⟩
theorem str_eq (a b : ByteArray) : (a.toList == b.toList) = decide (a = b) := by
  by_cases h : a = b
  · subst h; simp
  · rw [decide_eq_false h, beq_eq_false_iff_ne]
    intro e
    apply h
    rw [ByteArray.toList_eq, ByteArray.toList_eq] at e
    obtain ⟨⟨x⟩⟩ := a
    obtain ⟨⟨y⟩⟩ := b
    simp at e
    rw [e]
set_option maxRecDepth 100000 in
theorem SSame_any (a b : ByteArray) (w : World) (ha : a.size ≤ 4294967296) (hb : b.size ≤ 4294967296) :
    Calls Tryd.prog 20 #[.string a, .string b] w fun e w' => e = .returned (.bool (sameN a b)) ∧ Below w.heap.size w w' := by
  have HA := Lib.hid (fun W => lower_any a W ha)
  have HB := Lib.hid (fun W => lower_any b W hb)
  obtain ⟨x, hx⟩ : ∃ x, x = lowB a := ⟨_, rfl⟩
  obtain ⟨y, hy⟩ : ∃ y, y = lowB b := ⟨_, rfl⟩
  have HR : Hid ((x.toList == y.toList) = sameN a b) := Lib.hid (by rw [str_eq, hx, hy]; rfl)
  rw [← hx] at HA
  rw [← hy] at HB
  clear hx hy ha hb
  go_enter Tryd.func20, Tryd.ntmps20
  go_wp2_with fail
  go_at_call 33
  refine (HA.out _).mono ?_
  rintro e w1 ⟨rfl, hb1⟩
  go_wp2_with fail
  go_at_call 33
  refine (HB.out _).mono ?_
  rintro e w2 ⟨rfl, hb2⟩
  go_wp2_with fail
  go_ret
  exact ⟨by rw [← HR.out]; rfl, hb1.trans (hb2.mono hb1.size)⟩
theorem refLow_any (b : Nat) (w : World) (hb : b < 256) : Calls Tryd.prog 30 #[.int .u8 (b : Int)] w fun e w' => e = .returned (.int .u8 ((lowU b : Nat) : Int)) ∧ w = w' := by
  by_cases h1 : 65 ≤ b
  · by_cases h2 : b ≤ 90
    · have q1 : decide ((65 : Int) ≤ (b : Int)) = true := by (simp <;> omega)
      have q2 : decide ((b : Int) ≤ 90) = true := by (simp <;> omega)
      have HE := Lib.hid (show ((lowU b : Nat) : Int) = (b : Int) + 32 by unfold lowU; rw [if_pos ⟨h1, h2⟩]; omega)
      go_enter Tryd.func30, Tryd.ntmps30
      go_wp2
      go_ret
      exact ⟨by rw [HE.out]; rfl, rfl⟩
    · have q2 : decide ((b : Int) ≤ 90) = false := by (simp <;> omega)
      have HE := Lib.hid (show lowU b = b by unfold lowU; rw [if_neg (by omega)])
      go_enter Tryd.func30, Tryd.ntmps30
      go_wp2
      go_ret
      exact ⟨by rw [HE.out]; rfl, rfl⟩
  · have q1 : decide ((65 : Int) ≤ (b : Int)) = false := by (simp <;> omega)
    have HE := Lib.hid (show lowU b = b by unfold lowU; rw [if_neg (by omega)])
    go_enter Tryd.func30, Tryd.ntmps30
    go_wp2
    go_ret
    exact ⟨by rw [HE.out]; rfl, rfl⟩
theorem lowL_at (s : ByteArray) (j : Nat) (hj : j < s.size) : (lowL (bl s))[j]'(by rw [lowL_len]; exact hj) = UInt8.ofNat (lowU (byteAt s j)) := by
  have h3 : (lowL (bl s))[j]'(by rw [lowL_len]; exact hj) = UInt8.ofNat (lowU ((bl s)[j]'hj).toNat) := by
    show (List.map _ (bl s))[j]'_ = _
    exact List.getElem_map _
  rw [h3, bl_get s j hj]
theorem sameN_no {a b : ByteArray} {j : Nat} (ha : j < a.size) (hb : j < b.size) (h : lowU (byteAt a j) ≠ lowU (byteAt b j)) : sameN a b = false := by
  refine decide_eq_false fun e => h ?_
  have e1 : lowL (bl a) = lowL (bl b) := by have := congrArg bl e; exact this
  have h1 := lowL_at a j ha
  have h2 := lowL_at b j hb
  have h3 : (lowL (bl a))[j]'(by rw [lowL_len]; exact ha) = (lowL (bl b))[j]'(by rw [lowL_len]; exact hb) := by simp only [e1]
  rw [h1, h2] at h3
  have := congrArg UInt8.toNat h3
  rwa [UInt8.toNat_ofNat_of_lt' (lowU_lt (byteAt_lt a j)), UInt8.toNat_ofNat_of_lt' (lowU_lt (byteAt_lt b j))] at this
theorem sameN_len {a b : ByteArray} (h : a.size ≠ b.size) : sameN a b = false := by
  refine decide_eq_false fun e => h ?_
  have := congrArg ByteArray.size e
  rwa [lowB_size, lowB_size] at this
theorem sameN_yes {a b : ByteArray} (hl : a.size = b.size) (h : ∀ j, j < a.size → lowU (byteAt a j) = lowU (byteAt b j)) : sameN a b = true := by
  refine decide_eq_true (bl_inj ?_)
  show lowL (bl a) = lowL (bl b)
  refine List.ext_getElem (by rw [lowL_len, lowL_len]; exact hl) fun j h1 h2 => ?_
  rw [lowL_len] at h1 h2
  rw [lowL_at a j h1, lowL_at b j h2, h j h1]
end Go.Proofs.YtjkaigfpjebfbaaDoor
