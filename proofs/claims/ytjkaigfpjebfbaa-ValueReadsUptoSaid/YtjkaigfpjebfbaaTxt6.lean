/- Trim: the plain law: Go's trimming by runes is the trimming by bytes. -/
import Derived.Test.YtjkaigfpjebfbaaTxt5
import Derived.Lib.TrimUEq
import Derived.Shelf.GgClosure.StringsTrimFunc
namespace Go.Proofs.Ytjkaigfpjebfbaa
open Go.Lib
set_option linter.unusedVariables false

theorem byteAt_list (s : ByteArray) (k : Nat) (h : k < s.size) : (s.data.toList.getD k 0).toNat = byteAt s k := by
  rw [byteAt_get s k h]
  have : k < s.data.toList.length := by simpa using h
  rw [List.getD_eq_getElem?_getD, List.getElem?_eq_getElem this]
  rfl
theorem part_size (s : ByteArray) (i : Nat) (h : i ≤ s.size) : (s.extract 0 i).size = i := by rw [ByteArray.size_extract]; omega
theorem part_list (s : ByteArray) (i : Nat) : (s.extract 0 i).data.toList = s.data.toList.take i := by rw [Lib.extract_data]; simp
theorem part_join (s : ByteArray) (i : Nat) (h : i ≤ s.size) : s.extract 0 i ++ s.extract i s.size = s := by
  apply ByteArray.ext
  apply Array.toList_inj.1
  rw [ByteArray.data_append, Array.toList_append, Lib.extract_data, Lib.extract_data]
  simp only [List.drop_zero, Nat.sub_zero]
  rw [List.take_of_length_le (l := s.data.toList.drop i) (by simp)]
  exact List.take_append_drop i _
theorem part_at (s : ByteArray) (i k : Nat) (h : i ≤ s.size) (hk : k < i) : byteAt (s.extract 0 i) k = byteAt s k := by
  have := byteAt_left (s.extract 0 i) (s.extract i s.size) k (by rw [part_size s i h]; exact hk)
  rw [part_join s i h] at this
  exact this.symm
/-- The last rune ahead of a place. -/
theorem last_rune (s : ByteArray) (i : Nat) (h0 : 0 < i) (hi : i ≤ s.size) :
    (byteAt s (i - 1) < 128 ∧ decodeLastL (s.data.toList.take i) = (byteAt s (i - 1), 1)) ∨
    (128 ≤ byteAt s (i - 1) ∧ 128 ≤ (decodeLastL (s.data.toList.take i)).1 ∧ 1 ≤ (decodeLastL (s.data.toList.take i)).2 ∧ (decodeLastL (s.data.toList.take i)).2 ≤ i ∧
      ((decodeLastL (s.data.toList.take i)).2 = 1 ∨ (Utf8.decode s (i - (decodeLastL (s.data.toList.take i)).2)).2 = (decodeLastL (s.data.toList.take i)).2)) := by
  obtain ⟨t, ht⟩ : ∃ t, t = s.extract 0 i := ⟨_, rfl⟩
  have hts : t.size = i := by rw [ht, part_size s i hi]
  have htl : s.data.toList.take i = t.data.toList := by rw [ht, part_list]
  have htb : byteAt t (i - 1) = byteAt s (i - 1) := by rw [ht, part_at s i (i - 1) hi (by omega)]
  have hlen : t.data.toList.length = i := by rw [← hts]; rfl
  have hne : t.data.toList ≠ [] := by intro e; rw [e] at hlen; simp at hlen; omega
  have hlast : (t.data.toList.getD (t.data.toList.length - 1) 0).toNat = byteAt s (i - 1) := by rw [hlen, byteAt_list t (i - 1) (by omega), htb]
  rw [htl]
  unfold decodeLastL
  rw [if_neg hne, hlast, hlen]
  by_cases hc : byteAt s (i - 1) < 128
  · rw [if_pos hc]
    exact .inl ⟨hc, rfl⟩
  · rw [if_neg hc]
    refine .inr ⟨by omega, ?_⟩
    have hls := lastStart_lt' t.data.toList hne
    rw [hlen] at hls
    obtain ⟨q, hq⟩ : ∃ q, q = lastStart t.data.toList := ⟨_, rfl⟩
    rw [← hq] at hls ⊢
    simp only
    rw [decodeL_drop]
    by_cases he : q + (Utf8.decode t q).2 = i
    · rw [if_pos he]
      have hw := decode_width_pos t q (by omega)
      rcases rune_at t q with ⟨h1, e⟩ | ⟨h1, h2⟩
      · exfalso
        rw [e] at he
        simp only at he
        have : q = i - 1 := by omega
        rw [this, htb] at h1
        exact hc h1
      · refine ⟨h2, hw, by omega, ?_⟩
        by_cases hw1 : (Utf8.decode t q).2 = 1
        · exact .inl hw1
        · refine .inr ?_
          have e := decode_left t (s.extract i s.size) q (by omega) (fun e => hw1 (by rw [e]))
          rw [ht, part_join s i hi, ← ht] at e
          rw [show i - (Utf8.decode t q).2 = q by omega, e]
    · rw [if_neg he]
      exact ⟨by decide, Nat.le_refl _, by show 1 ≤ i; omega, .inl rfl⟩
/-- Where the first byte that is no white stands, from a place on. -/
def loB (s : ByteArray) : Nat → Nat → Nat
  | 0, pos => pos
  | f + 1, pos => if pos < s.size ∧ wB (byteAt s pos) = true then loB s f (pos + 1) else pos
def lo (s : ByteArray) : Nat := loB s s.size 0
/-- One behind the last byte that is no white. -/
def hiB (s : ByteArray) : Nat → Nat
  | 0 => 0
  | i + 1 => if wB (byteAt s i) = true then hiB s i else i + 1
def hi (s : ByteArray) : Nat := hiB s s.size
def trimL (s : ByteArray) : ByteArray := s.extract (lo s) s.size
def trimR (s : ByteArray) : ByteArray := s.extract 0 (hi s)
def trimB (s : ByteArray) : ByteArray := trimR (trimL s)
theorem loB_le (s : ByteArray) : ∀ (f pos : Nat), pos ≤ s.size → loB s f pos ≤ s.size
  | 0, pos, h => h
  | f + 1, pos, h => by
    unfold loB
    split
    · exact loB_le s f (pos + 1) (by omega)
    · exact h
theorem idx_lo (s : ByteArray) : ∀ (f pos : Nat), s.size ≤ pos + f → idxFuncFrom wB false s f pos = if loB s f pos < s.size then (loB s f pos : Int) else -1
  | 0, pos, h => by
    unfold idxFuncFrom loB
    rw [if_neg (by omega)]
  | f + 1, pos, h => by
    unfold idxFuncFrom
    by_cases hp : pos < s.size
    · rw [if_pos hp]
      cases hb : wB (byteAt s pos) with
      | true =>
        have hlow : byteAt s pos < 128 := by
          apply Classical.byContradiction
          intro hh
          rw [wB_high (by omega)] at hb
          exact absurd hb (by decide)
        rcases rune_at s pos with ⟨h1, e⟩ | ⟨h1, h2⟩
        · rw [e]
          simp only
          have e2 : loB s (f + 1) pos = loB s f (pos + 1) := by
            show (if pos < s.size ∧ wB (byteAt s pos) = true then _ else _) = _
            rw [if_pos ⟨hp, hb⟩]
          rw [hb, if_neg (by decide), e2]
          exact idx_lo s f (pos + 1) (by omega)
        · omega
      | false =>
        have : wB (Utf8.decode s pos).1 = false := by
          rcases rune_at s pos with ⟨h1, e⟩ | ⟨h1, h2⟩
          · rw [e]; exact hb
          · exact wB_high h2
        have e2 : loB s (f + 1) pos = pos := by
          show (if pos < s.size ∧ wB (byteAt s pos) = true then _ else _) = _
          rw [if_neg (fun h => by rw [hb] at h; exact absurd h.2 (by decide))]
        rw [if_pos this, e2, if_pos hp]
    · have e2 : loB s (f + 1) pos = pos := by
        show (if pos < s.size ∧ wB (byteAt s pos) = true then _ else _) = _
        rw [if_neg (fun h => hp h.1)]
      rw [if_neg hp, e2, if_neg hp]
theorem left_lo (s : ByteArray) : trimLeftF wB s = trimL s := by
  unfold trimLeftF trimL idxFunc lo
  rw [idx_lo s s.size 0 (by omega)]
  by_cases h : loB s s.size 0 < s.size
  · rw [if_pos h, if_neg (by omega)]
    congr 1
  · rw [if_neg h, if_pos rfl]
    apply ByteArray.ext
    apply Array.toList_inj.1
    rw [Lib.extract_data]
    simp
    omega
theorem hiB_le (s : ByteArray) : ∀ i, hiB s i ≤ i
  | 0 => Nat.le_refl _
  | i + 1 => by
    unfold hiB
    split
    · exact Nat.le_succ_of_le (hiB_le s i)
    · exact Nat.le_refl _
/-- Going back over white: what the last index comes to. -/
theorem last_hi (s : ByteArray) : ∀ (f i : Nat), i ≤ f → i ≤ s.size → (∀ k, i ≤ k → k < s.size → byteAt s k < 128) →
    (hiB s i = 0 ∧ lastIdxFuncFrom wB false s f i = -1) ∨
    (0 < hiB s i ∧ ∃ q : Nat, lastIdxFuncFrom wB false s f i = (q : Int) ∧ q < s.size ∧ q + (Utf8.decode s q).2 = hiB s i)
  | f, 0, _, _, _ => .inl ⟨rfl, lastIdxFuncFrom_zero _ _ _ _⟩
  | 0, i + 1, h, _, _ => by omega
  | f + 1, i + 1, h, hs, hw => by
    unfold lastIdxFuncFrom hiB
    rw [if_pos (show 0 < i + 1 by omega)]
    have hl := last_rune s (i + 1) (by omega) hs
    rw [show i + 1 - 1 = i by omega] at hl
    rcases hl with ⟨h1, e⟩ | ⟨h1, h2, h3, h4, h5⟩
    · rw [e]
      simp only
      cases hb : wB (byteAt s i) with
      | true =>
        rw [if_pos rfl, if_neg (by decide), show i + 1 - 1 = i by omega]
        refine last_hi s f i (by omega) (by omega) (fun k hk hk' => ?_)
        by_cases e' : k = i
        · rw [e']; exact h1
        · exact hw k (by omega) hk'
      | false =>
        rw [if_neg (by decide), if_pos rfl]
        refine .inr ⟨by omega, i, by congr 1, by omega, ?_⟩
        rcases rune_at s i with ⟨_, e'⟩ | ⟨h1', _⟩
        · rw [e']
        · omega
    · rw [if_pos (wB_high h2), if_neg (by rw [wB_high h1]; decide)]
      refine .inr ⟨by omega, _, rfl, by omega, ?_⟩
      rcases h5 with h5 | h5
      · rw [h5, show i + 1 - 1 = i by omega]
        have hin := decode_in s i (by omega)
        have hp := decode_width_pos s i (by omega)
        have : (Utf8.decode s i).2 = 1 := by
          apply Classical.byContradiction
          intro hne
          have ht := decode_tail s i 0 (by omega)
          have := hw (i + 1) (by omega) (by omega)
          rw [Nat.add_zero] at ht
          omega
        rw [this]
      · rw [h5]; omega
theorem right_hi (s : ByteArray) : trimRightF wB s = trimR s := by
  unfold trimRightF trimR
  congr 1
  unfold rightEndF lastIdxFunc hi
  rcases last_hi s s.size s.size (Nat.le_refl _) (Nat.le_refl _) (fun k h h' => by omega) with ⟨h1, h2⟩ | ⟨h1, q, h2, h3, h4⟩
  · rw [h2, if_neg (by decide), h1]
  · rw [h2, if_pos (by omega), show ((q : Int)).toNat = q from rfl]
    have e : decodeGoB (s.extract q s.size) = Utf8.decode s q := by
      unfold decodeGoB
      rw [if_neg (by rw [ByteArray.size_extract]; omega)]
      have := decodeL_drop s q
      rw [← this]
      unfold decodeL
      congr 1
      apply ByteArray.ext
      apply Array.toList_inj.1
      rw [Lib.extract_data]
      exact List.take_of_length_le (by simp)
    rw [e, h4]
theorem trimF_B (s : ByteArray) : trimF wB s = trimB s := by
  unfold trimF trimB
  rw [left_lo, right_hi]
end Go.Proofs.Ytjkaigfpjebfbaa
