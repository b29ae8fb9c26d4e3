/- Two texts side by side: the plain law. -/
import Derived.Test.YtjkaigfpjebfbaaTxt2
namespace Go.Proofs.Ytjkaigfpjebfbaa
open Go.Lib
set_option linter.unusedVariables false

theorem decodeN_more (n n' b0 b1 b2 b3 c1 c2 c3 : Nat) (hn : n ≤ n') (h1 : 1 < n → c1 = b1) (h2 : 2 < n → c2 = b2) (h3 : 3 < n → c3 = b3) (hgood : decodeN n b0 b1 b2 b3 ≠ (65533, 1)) :
    decodeN n' b0 c1 c2 c3 = decodeN n b0 b1 b2 b3 := by
  unfold decodeN at *
  by_cases ha : b0 < 128
  · rw [if_pos ha, if_pos ha]
  · rw [if_neg ha] at hgood ⊢
    rw [if_neg ha]
    by_cases hb : b0 / 32 = 6 ∧ (1 < n ∧ b1 / 64 = 2)
    · obtain rfl := h1 hb.2.1
      rw [if_pos hb, if_pos ⟨hb.1, by omega, hb.2.2⟩]
    · rw [if_neg hb] at hgood ⊢
      have n6 : b0 / 32 ≠ 6 := by
        intro e
        apply hgood
        rw [if_neg (by omega), if_neg (by omega)]
      rw [if_neg (fun h => n6 h.1)]
      by_cases hc : b0 / 16 = 14 ∧ (1 < n ∧ b1 / 64 = 2) ∧ (2 < n ∧ b2 / 64 = 2)
      · obtain rfl := h1 hc.2.1.1
        obtain rfl := h2 hc.2.2.1
        rw [if_pos hc, if_pos ⟨hc.1, ⟨by omega, hc.2.1.2⟩, by omega, hc.2.2.2⟩]
      · rw [if_neg hc] at hgood ⊢
        have n14 : b0 / 16 ≠ 14 := by
          intro e
          apply hgood
          rw [if_neg (by omega)]
        rw [if_neg (fun h => n14 h.1)]
        by_cases hd : b0 / 8 = 30 ∧ (1 < n ∧ b1 / 64 = 2) ∧ (2 < n ∧ b2 / 64 = 2) ∧ (3 < n ∧ b3 / 64 = 2)
        · obtain rfl := h1 hd.2.1.1
          obtain rfl := h2 hd.2.2.1.1
          obtain rfl := h3 hd.2.2.2.1
          rw [if_pos hd, if_pos ⟨hd.1, ⟨by omega, hd.2.1.2⟩, ⟨by omega, hd.2.2.1.2⟩, by omega, hd.2.2.2.2⟩]
        · rw [if_neg hd] at hgood
          exact absurd rfl hgood
theorem app_size (a b : ByteArray) : (a ++ b).size = a.size + b.size := ByteArray.size_append
theorem byteAt_left (a b : ByteArray) (i : Nat) (h : i < a.size) : byteAt (a ++ b) i = byteAt a i := by
  rw [byteAt_get _ _ (by rw [app_size]; omega), byteAt_get _ _ h]
  congr 1
  exact ByteArray.getElem_append_left h
theorem byteAt_right (a b : ByteArray) (j : Nat) : byteAt (a ++ b) (a.size + j) = byteAt b j := by
  by_cases h : j < b.size
  · rw [byteAt_get _ _ (by rw [app_size]; omega), byteAt_get _ _ h]
    congr 1
    rw [ByteArray.getElem_append_right (by omega)]
    congr 1
    omega
  · rw [byteAt_out _ _ (by rw [app_size]; omega), byteAt_out _ _ h]
theorem decode_left (a b : ByteArray) (i : Nat) (h : i < a.size) (hg : Utf8.decode a i ≠ (65533, 1)) : Utf8.decode (a ++ b) i = Utf8.decode a i := by
  rw [decode_at] at hg ⊢
  rw [decode_at a i]
  have e0 := byteAt_left a b i h
  unfold byteAt at e0
  rw [e0]
  refine decodeN_more _ _ _ _ _ _ _ _ _ (by rw [app_size]; omega) (fun hh => ?_) (fun hh => ?_) (fun hh => ?_) hg
  · exact byteAt_left a b (i + 1) (by omega)
  · exact byteAt_left a b (i + 2) (by omega)
  · exact byteAt_left a b (i + 3) (by omega)
theorem decode_right (a b : ByteArray) (j : Nat) : Utf8.decode (a ++ b) (a.size + j) = Utf8.decode b j := by
  rw [decode_at, decode_at b j, app_size]
  have e := fun k => byteAt_right a b k
  unfold byteAt at e
  rw [e j, show a.size + j + 1 = a.size + (j + 1) by omega, e (j + 1), show a.size + j + 2 = a.size + (j + 2) by omega, e (j + 2), show a.size + j + 3 = a.size + (j + 3) by omega, e (j + 3)]
  congr 1
  omega
theorem good_of_go {s : ByteArray} {i : Nat} (h : stop s i = false) : Utf8.decode s i ≠ (65533, 1) := by
  intro e
  unfold stop at h
  exact of_decide_eq_false h (.inl ⟨by rw [e], by rw [e]⟩)
theorem stop_of_eq {s t : ByteArray} {i j : Nat} (h : Utf8.decode s i = Utf8.decode t j) : stop s i = stop t j := by
  unfold stop
  congr 1
  unfold stopP
  rw [h]
theorem goodFrom_fuel (s : ByteArray) : ∀ (f g i : Nat), s.size ≤ i + f → s.size ≤ i + g → goodFrom s f i = goodFrom s g i := by
  intro f
  induction f with
  | zero => intro g i hf hg; rw [goodFrom_end s 0 i (by omega), goodFrom_end s g i (by omega)]
  | succ f ih =>
    intro g i hf hg
    by_cases h : i < s.size
    · obtain ⟨g, rfl⟩ : ∃ g', g = g' + 1 := ⟨g - 1, by omega⟩
      have hw := decode_width_pos s i h
      unfold goodFrom
      rw [if_pos h, if_pos h, ih g _ (by omega) (by omega)]
    · rw [goodFrom_end s _ i h, goodFrom_end s g i h]
theorem goodFrom_ge (s : ByteArray) : ∀ (f i : Nat), goodFrom s f i = -1 ∨ ((i : Int) ≤ goodFrom s f i ∧ goodFrom s f i < s.size) := by
  intro f
  induction f with
  | zero => intro i; exact .inl rfl
  | succ f ih =>
    intro i
    unfold goodFrom
    by_cases h : i < s.size
    · rw [if_pos h]
      cases stop s i
      · rcases ih (i + (Utf8.decode s i).2) with h1 | h1
        · exact .inl (by simpa using h1)
        · refine .inr ?_
          simp only [Bool.false_eq_true, if_false]
          omega
      · refine .inr ?_
        simp only [if_true]
        omega
    · rw [if_neg h]; exact .inl rfl
theorem goodFrom_right (a b : ByteArray) : ∀ (f j : Nat), goodFrom (a ++ b) f (a.size + j) = if goodFrom b f j = -1 then -1 else (a.size : Int) + goodFrom b f j := by
  intro f
  induction f with
  | zero => intro j; rfl
  | succ f ih =>
    intro j
    unfold goodFrom
    rw [app_size]
    by_cases h : j < b.size
    · rw [if_pos (by omega), if_pos h, stop_of_eq (decode_right a b j), decode_right a b j]
      cases stop b j
      · simp only [Bool.false_eq_true, if_false]
        rw [Nat.add_assoc]
        exact ih _
      · simp only [if_true]
        rw [if_neg (by omega)]
        omega
    · rw [if_neg (by omega), if_neg h]; rfl
/-- The first text is good: the second one's first place that is none is that of both. -/
theorem good_app (a b : ByteArray) (h : goodZ a = -1) : goodZ (a ++ b) = if goodZ b = -1 then -1 else (a.size : Int) + goodZ b := by
  have key : ∀ (f i : Nat), i ≤ a.size → a.size ≤ i + f → goodFrom a f i = -1 → goodFrom (a ++ b) (f + b.size) i = goodFrom (a ++ b) b.size a.size := by
    intro f
    induction f with
    | zero =>
      intro i h1 h2 _
      obtain rfl : i = a.size := by omega
      rw [Nat.zero_add]
    | succ f ih =>
      intro i h1 h2 h3
      by_cases hi : i < a.size
      · unfold goodFrom at h3
        rw [if_pos hi] at h3
        cases hst : stop a i with
        | true => rw [hst] at h3; simp only [if_true] at h3; omega
        | false =>
          rw [hst] at h3
          simp only [Bool.false_eq_true, if_false] at h3
          have hd := decode_left a b i hi (good_of_go hst)
          have hw := decode_width_pos a i hi
          have hin := decode_in a i hi
          rw [show f + 1 + b.size = (f + b.size) + 1 by omega]
          rw [goodFrom, if_pos (by rw [app_size]; omega), stop_of_eq hd, hst, hd]
          simp only [Bool.false_eq_true, if_false]
          exact ih _ hin (by omega) h3
      · obtain rfl : i = a.size := by omega
        exact goodFrom_fuel _ _ _ _ (by rw [app_size]; omega) (by rw [app_size]; omega)
  have h1 := key a.size 0 (by omega) (by omega) h
  unfold goodZ
  rw [goodFrom_fuel (a ++ b) _ (a.size + b.size) 0 (by omega) (by rw [app_size]; omega), h1]
  have h2 := goodFrom_right a b b.size 0
  rw [Nat.add_zero] at h2
  exact h2
/-- The first text is none: its place does not move but where what comes behind makes a whole of a piece. -/
theorem bad_app (a b : ByteArray) (x : Nat) (h : goodZ a = (x : Int)) : x < a.size ∧ (goodZ (a ++ b) = (x : Int) ∨ goodZ (a ++ b) = -1 ∨ ((x : Int) < goodZ (a ++ b) ∧ 128 ≤ byteAt a x) ) ∧ (goodZ (a ++ b) = (x : Int) ∨ 128 ≤ byteAt a x) := by
  have key : ∀ (f i : Nat), i ≤ a.size → a.size ≤ i + f → goodFrom a f i = (x : Int) → x < a.size ∧ stop a x = true ∧ ∃ g, (a ++ b).size ≤ x + g ∧ goodFrom (a ++ b) (f + b.size) i = goodFrom (a ++ b) g x := by
    intro f
    induction f with
    | zero => intro i h1 h2 h3; rw [goodFrom] at h3; omega
    | succ f ih =>
      intro i h1 h2 h3
      by_cases hi : i < a.size
      · unfold goodFrom at h3
        rw [if_pos hi] at h3
        cases hst : stop a i with
        | true =>
          rw [hst] at h3
          simp only [if_true] at h3
          obtain rfl : i = x := by omega
          exact ⟨hi, hst, _, by rw [app_size]; omega, rfl⟩
        | false =>
          rw [hst] at h3
          simp only [Bool.false_eq_true, if_false] at h3
          have hd := decode_left a b i hi (good_of_go hst)
          have hw := decode_width_pos a i hi
          have hin := decode_in a i hi
          obtain ⟨k1, k2, g, k3, k4⟩ := ih _ hin (by omega) h3
          refine ⟨k1, k2, g, k3, ?_⟩
          rw [show f + 1 + b.size = (f + b.size) + 1 by omega]
          rw [goodFrom, if_pos (by rw [app_size]; omega), stop_of_eq hd, hst, hd]
          simp only [Bool.false_eq_true, if_false]
          exact k4
      · rw [goodFrom_end a _ i hi] at h3; omega
  obtain ⟨k1, k2, g, k3, k4⟩ := key a.size 0 (by omega) (by omega) h
  have hz : goodZ (a ++ b) = goodFrom (a ++ b) g x := by
    unfold goodZ
    rw [goodFrom_fuel (a ++ b) _ (a.size + b.size) 0 (by omega) (by rw [app_size]; omega), k4]
  rw [hz]
  refine ⟨k1, ?_⟩
  rw [app_size] at k3
  obtain ⟨g, rfl⟩ : ∃ g', g = g' + 1 := ⟨g - 1, by omega⟩
  rw [goodFrom, if_pos (by rw [app_size]; omega)]
  cases hst : stop (a ++ b) x with
  | true => simp
  | false =>
    simp only [Bool.false_eq_true, if_false]
    have hx : 128 ≤ byteAt a x := by
      rcases Nat.lt_or_ge (byteAt a x) 128 with hlt | hge
      · exfalso
        have e1 : Utf8.decode a x = (byteAt a x, 1) := by rw [decode_at]; exact decodeN_ascii _ _ _ _ _ hlt
        have e2 : Utf8.decode (a ++ b) x = (byteAt a x, 1) := by
          rw [decode_at]
          have := byteAt_left a b x k1
          unfold byteAt at this hlt ⊢
          rw [this]
          exact decodeN_ascii _ _ _ _ _ hlt
        rw [stop_of_eq (e2.trans e1.symm), k2] at hst
        cases hst
      · exact hge
    have hw := decode_width_pos (a ++ b) x (by rw [app_size]; omega)
    refine ⟨?_, .inr hx⟩
    rcases goodFrom_ge (a ++ b) g (x + (Utf8.decode (a ++ b) x).2) with h1 | h1
    · exact .inr (.inl h1)
    · exact .inr (.inr ⟨by omega, hx⟩)
end Go.Proofs.Ytjkaigfpjebfbaa
