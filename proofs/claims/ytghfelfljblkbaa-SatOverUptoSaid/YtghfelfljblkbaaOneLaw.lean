/- CnfOne: the plain law. -/
import Derived.Test.YtghfelfljblkbaaAtM
import Derived.Test.YtghfelfljblkbaaMore
namespace Go.Proofs.Ytghfelfljblkbaa
open Go.RowKit Go.Sort
set_option linter.unusedVariables false

/-- Unlike literals. -/
structure Un (n : Nat) (u : List Int) : Prop where
  in_ : ∀ z ∈ u, 1 ≤ Cf.va z ∧ Cf.va z ≤ n
  pw : u.Pairwise fun x y => Cf.va x ≠ Cf.va y
theorem Un.cons {n : Nat} {a : Int} {u : List Int} (h : Un n (a :: u)) : (1 ≤ Cf.va a ∧ Cf.va a ≤ n) ∧ (∀ b ∈ u, Cf.va a ≠ Cf.va b) ∧ Un n u :=
  ⟨h.in_ a (by simp), (List.pairwise_cons.1 h.pw).1, ⟨fun z hz => h.in_ z (by simp [hz]), (List.pairwise_cons.1 h.pw).2⟩⟩
def cnt (bs : List Bool) (u : List Int) : Nat := (u.filter (hv bs)).length
theorem cnt_any (bs : List Bool) (u : List Int) : u.any (hv bs) = decide (1 ≤ cnt bs u) := by
  unfold cnt
  induction u with
  | nil => rfl
  | cons a r ih =>
    rw [List.any_cons, List.filter_cons]
    cases h : hv bs a with
    | true => simp
    | false => simpa using ih
/-- A clause tidied holds just if one of its literals does. -/
theorem tidy_any {bs : List Bool} {zs r : List Int} (h : Cf.tidy zs = some r) : r.any (hv bs) = zs.any (hv bs) := by
  have hm := (Cf.tidy_good h).mem
  rw [Bool.eq_iff_iff, List.any_eq_true, List.any_eq_true]
  exact ⟨fun ⟨x, hx, h9⟩ => ⟨x, (hm x).1 hx, h9⟩, fun ⟨x, hx, h9⟩ => ⟨x, (hm x).2 hx, h9⟩⟩
theorem hv_neg {bs : List Bool} {a : Int} (h1 : 1 ≤ Cf.va a) (h2 : Cf.va a ≤ 200) : hv bs (-a) = !hv bs a := by
  have hs := sg_hv (bs := bs) (v := Cf.va a) h1 h2
  rcases Cf.va_cases (x := sg bs (Cf.va a)) (y := a) (by rw [sg_va]) with h | h
  · rw [h] at hs
    rw [hs.1, hs.2]; rfl
  · rw [h, Int.neg_neg] at hs
    rw [hs.1, hs.2]; rfl
theorem pair_some {a b : Int} (ha : 1 ≤ Cf.va a) (hb : 1 ≤ Cf.va b) (h : Cf.va a ≠ Cf.va b) : ∃ r, Cf.tidy [-a, -b] = some r := by
  cases ht : Cf.tidy [-a, -b] with
  | some r => exact ⟨r, rfl⟩
  | none =>
    exfalso
    rcases Cf.tidy_bad ht with h0 | ⟨x, hx, y, hy, h1, h2⟩
    · simp only [List.mem_cons, List.not_mem_nil, or_false] at h0
      unfold Cf.va at ha hb
      omega
    · simp only [List.mem_cons, List.not_mem_nil, or_false] at hx hy
      unfold Cf.va at *
      omega
theorem pair_may {n : Nat} {L : List (List Int)} {a b : Int} (hn : n ≤ 200) (ha : 1 ≤ Cf.va a ∧ Cf.va a ≤ n) (hb : 1 ≤ Cf.va b ∧ Cf.va b ≤ n) (hL : L.length < 5000) : mayL n L [-a, -b] = true := by
  have off : ∀ z, 1 ≤ Cf.va z ∧ Cf.va z ≤ n → offL n (-z) = false := fun z hz => by
    unfold offL
    rw [vw_ok (by unfold Cf.va at hz; exact ⟨by omega, by omega⟩), Cf.va_neg]
    rw [Bool.or_eq_false_iff, decide_eq_false_iff_not, decide_eq_false_iff_not]
    unfold Cf.va at *
    omega
  unfold mayL
  rw [decide_eq_true hL, List.any_cons, List.any_cons, List.any_nil, off a ha, off b hb]
  rfl
theorem holds_snoc (bs : List Bool) (L : List (List Int)) (r : List Int) : holdsL bs (L ++ [r]) = (holdsL bs L && r.any (hv bs)) := by
  unfold holdsL
  rw [List.all_append, List.all_cons, List.all_nil, Bool.and_true]
theorem inn_good {n : Nat} {bs : List Bool} {a : Int} (hn : n ≤ 200) (ha : 1 ≤ Cf.va a ∧ Cf.va a ≤ n) : ∀ (u : List Int) (L : List (List Int)), (∀ b ∈ u, (1 ≤ Cf.va b ∧ Cf.va b ≤ n) ∧ Cf.va a ≠ Cf.va b) → L.length + u.length < 5000 →
    (inn n a u L).1 = true ∧ (inn n a u L).2.length = L.length + u.length ∧ holdsL bs (inn n a u L).2 = (holdsL bs L && (!hv bs a || !u.any (hv bs)))
  | [], L, _, _ => ⟨rfl, rfl, by simp [inn]⟩
  | b :: r, L, h, hl => by
    have hb := h b (by simp)
    simp only [List.length_cons] at hl
    obtain ⟨t, ht⟩ := pair_some ha.1 hb.1.1 hb.2
    have hm := pair_may (L := L) hn ha hb.1 (by omega)
    have hadd : addL n L [-a, -b] = L ++ [t] := by unfold addL; rw [hm, ht]; rfl
    have ih := inn_good (bs := bs) hn ha r (L ++ [t]) (fun c hc => h c (by simp [hc])) (by rw [List.length_append]; simp; omega)
    unfold inn
    rw [if_pos hm, hadd]
    refine ⟨ih.1, by rw [ih.2.1, List.length_append]; simp; omega, ?_⟩
    rw [ih.2.2, holds_snoc, tidy_any ht, List.any_cons, List.any_cons, List.any_nil, hv_neg ha.1 (by omega), hv_neg hb.1.1 (by have := hb.1.2; omega), List.any_cons]
    cases hv bs a <;> cases hv bs b <;> cases holdsL bs L <;> simp
theorem cnt_cons (bs : List Bool) (a : Int) (r : List Int) : cnt bs (a :: r) = if hv bs a then cnt bs r + 1 else cnt bs r := by
  unfold cnt
  rw [List.filter_cons]
  split <;> simp
theorem outr_good {n : Nat} {bs : List Bool} (hn : n ≤ 200) : ∀ (u : List Int) (L : List (List Int)), Un n u → u.length ≤ 10 → L.length + u.length * 10 < 5000 →
    (outr n u L).1 = true ∧ holdsL bs (outr n u L).2 = (holdsL bs L && decide (cnt bs u ≤ 1))
  | [], L, _, _, _ => ⟨rfl, by simp [outr, cnt]⟩
  | a :: r, L, h, hl, hb => by
    obtain ⟨ha, hne, hr⟩ := h.cons
    simp only [List.length_cons] at hl hb
    have hi := inn_good (bs := bs) hn ha r L (fun b hb => ⟨hr.in_ b hb, hne b hb⟩) (by omega)
    have ih := outr_good (bs := bs) hn r (inn n a r L).2 hr (by omega) (by rw [hi.2.1]; omega)
    unfold outr
    rw [if_pos hi.1]
    refine ⟨ih.1, ?_⟩
    rw [ih.2, hi.2.2, cnt_any, cnt_cons]
    cases hv bs a with
    | true =>
      rw [if_pos rfl, Bool.and_assoc]
      congr 1
      rw [Bool.eq_iff_iff]
      simp
      omega
    | false => simp
theorem uq_un {n : Nat} : ∀ (u acc : List Int), Un n (acc ++ u) → u.foldl uq acc = acc ++ u
  | [], acc, _ => by simp
  | a :: r, acc, h => by
    have hna : a ∉ acc := fun hm => by
      have := (List.pairwise_append.1 h.pw).2.2 a hm a (by simp)
      exact this rfl
    rw [List.foldl_cons, show uq acc a = acc ++ [a] from if_neg hna]
    have := uq_un r (acc ++ [a]) (by rw [List.append_assoc]; exact h)
    rw [this, List.append_assoc]
    rfl
theorem may_un {n : Nat} {u : List Int} (hn : n ≤ 200) (h : Un n u) : mayL n [] u = true := by
  unfold mayL
  have : u.any (offL n) = false := by
    rw [List.any_eq_false]
    intro z hz
    have hz' := h.in_ z hz
    unfold offL
    rw [vw_ok (by unfold Cf.va at hz'; exact ⟨by omega, by omega⟩)]
    have h1 : decide (z = 0) = false := decide_eq_false (by unfold Cf.va at hz'; omega)
    have h2 : decide ((n : Int) < (Cf.va z : Int)) = false := decide_eq_false (by omega)
    rw [h1, h2]
    decide
  rw [this]; rfl
theorem atL_good {n : Nat} {bs : List Bool} {u : List Int} (hn : n ≤ 200) (h : Un n u) (hl : u.length ≤ 10) : (atL n [] u).1 = true ∧ holdsL bs (atL n [] u).2 = decide (cnt bs u ≤ 1) := by
  unfold atL
  rw [if_pos (may_un hn h), show uqs u = u from uq_un u [] h]
  have := outr_good (bs := bs) hn u [] h hl (by simp; omega)
  exact ⟨this.1, by rw [this.2]; rfl⟩
theorem un_inj {n : Nat} : ∀ {u : List Int}, Un n u → ∀ x ∈ u, ∀ y ∈ u, Cf.va x = Cf.va y → x = y
  | [], _, x, hx, _, _, _ => by cases hx
  | a :: r, h, x, hx, y, hy, he => by
    obtain ⟨_, hne, hr⟩ := h.cons
    by_cases h1 : x = a
    · by_cases h2 : y = a
      · rw [h1, h2]
      · have hy2 : y ∈ r := (List.mem_cons.1 hy).resolve_left h2
        rw [h1] at he
        exact absurd he (hne y hy2)
    · have hx2 : x ∈ r := (List.mem_cons.1 hx).resolve_left h1
      by_cases h2 : y = a
      · rw [h2] at he
        exact absurd he.symm (hne x hx2)
      · exact un_inj hr x hx2 y ((List.mem_cons.1 hy).resolve_left h2) he
theorem may_same {n : Nat} {u zs : List Int} (hn : n ≤ 200) (h : Un n u) (hm : ∀ x, x ∈ zs ↔ x ∈ u) : mayL n [] zs = true := by
  have h1 := may_un hn h
  unfold mayL at h1 ⊢
  rw [show zs.any (offL n) = u.any (offL n) from by
    rw [Bool.eq_iff_iff, List.any_eq_true, List.any_eq_true]
    exact ⟨fun ⟨x, hx, h9⟩ => ⟨x, (hm x).1 hx, h9⟩, fun ⟨x, hx, h9⟩ => ⟨x, (hm x).2 hx, h9⟩⟩]
  exact h1
theorem add_good {n : Nat} {bs : List Bool} {u zs : List Int} (hn : n ≤ 200) (h : Un n u) (hm : ∀ x, x ∈ zs ↔ x ∈ u) : holdsL bs (addL n [] zs) = decide (1 ≤ cnt bs u) := by
  have hs : ∃ r, Cf.tidy zs = some r := by
    cases ht : Cf.tidy zs with
    | some r => exact ⟨r, rfl⟩
    | none =>
      exfalso
      rcases Cf.tidy_bad ht with h0 | ⟨x, hx, y, hy, h1, h2⟩
      · have := (h.in_ 0 ((hm 0).1 h0)).1
        unfold Cf.va at this
        omega
      · exact h2 (un_inj h x ((hm x).1 hx) y ((hm y).1 hy) h1)
  obtain ⟨r, hr⟩ := hs
  have hadd : addL n [] zs = [] ++ [r] := by unfold addL; rw [may_same hn h hm, hr]; rfl
  rw [hadd, holds_snoc, tidy_any hr, ← cnt_any]
  have : zs.any (hv bs) = u.any (hv bs) := by
    rw [Bool.eq_iff_iff, List.any_eq_true, List.any_eq_true]
    exact ⟨fun ⟨x, hx, h9⟩ => ⟨x, (hm x).1 hx, h9⟩, fun ⟨x, hx, h9⟩ => ⟨x, (hm x).2 hx, h9⟩⟩
  rw [this]; rfl
end Go.Proofs.Ytghfelfljblkbaa
