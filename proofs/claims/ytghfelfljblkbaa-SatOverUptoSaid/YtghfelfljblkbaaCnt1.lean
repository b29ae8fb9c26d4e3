/- Count: the plain law. -/
import Derived.Test.YtghfelfljblkbaaSatU
namespace Go.Proofs.Ytghfelfljblkbaa
open Go.RowKit Go.Sort
set_option linter.unusedVariables false
namespace Ct

/-- How many of m numbers from lo on P holds at. -/
def cnt (P : Nat → Bool) (lo : Nat) : Nat → Nat
  | 0 => 0
  | m + 1 => cnt P lo m + (if P (lo + m) then 1 else 0)
theorem cnt_add (P : Nat → Bool) (lo a : Nat) : ∀ b, cnt P lo (a + b) = cnt P lo a + cnt P (lo + a) b
  | 0 => rfl
  | b + 1 => by
    show cnt P lo (a + b) + (if P (lo + (a + b)) then 1 else 0) = _
    rw [cnt_add P lo a b]
    show _ = cnt P lo a + (cnt P (lo + a) b + _)
    rw [show lo + (a + b) = lo + a + b by omega, Nat.add_assoc]
theorem cnt_none {P : Nat → Bool} {lo : Nat} : ∀ {m : Nat}, (∀ i, i < m → P (lo + i) = false) → cnt P lo m = 0
  | 0, _ => rfl
  | m + 1, h => by
    show cnt P lo m + _ = 0
    rw [cnt_none (fun i hi => h i (by omega)), h m (by omega)]; rfl
theorem cnt_congr {P Q : Nat → Bool} {lo : Nat} : ∀ {m : Nat}, (∀ i, i < m → P (lo + i) = Q (lo + i)) → cnt P lo m = cnt Q lo m
  | 0, _ => rfl
  | m + 1, h => by
    show cnt P lo m + _ = cnt Q lo m + _
    rw [cnt_congr (fun i hi => h i (by omega)), h m (by omega)]
theorem cnt_le (P : Nat → Bool) (lo : Nat) : ∀ m, cnt P lo m ≤ m
  | 0 => Nat.le_refl _
  | m + 1 => by
    have := cnt_le P lo m
    show cnt P lo m + _ ≤ m + 1
    split <;> omega
/-- A clause's last variable. -/
def lastV (r : List Int) : Nat := r.foldl (fun m y => max m (Cf.va y)) 0
theorem last_from : ∀ (r : List Int) (m : Nat), m ≤ r.foldl (fun m y => max m (Cf.va y)) m ∧ ∀ y ∈ r, Cf.va y ≤ r.foldl (fun m y => max m (Cf.va y)) m
  | [], m => ⟨Nat.le_refl _, fun y hy => by cases hy⟩
  | x :: r, m => by
    obtain ⟨h1, h2⟩ := last_from r (max m (Cf.va x))
    rw [List.foldl_cons]
    refine ⟨by omega, fun y hy => ?_⟩
    rcases List.mem_cons.1 hy with rfl | h
    · omega
    · exact h2 y h
theorem last_ge {r : List Int} {y : Int} (h : y ∈ r) : Cf.va y ≤ lastV r := (last_from r 0).2 y h
theorem last_upto {n : Nat} : ∀ (r : List Int) (m : Nat), m ≤ n → (∀ y ∈ r, Cf.va y ≤ n) → r.foldl (fun m y => max m (Cf.va y)) m ≤ n
  | [], m, h, _ => h
  | x :: r, m, h, hr => by
    rw [List.foldl_cons]
    exact last_upto r _ (by have := hr x (by simp); omega) (fun y hy => hr y (List.mem_cons_of_mem _ hy))
theorem last_le {n : Nat} {r : List Int} (h : ∀ y ∈ r, Cf.va y ≤ n) : lastV r ≤ n := last_upto r 0 (Nat.zero_le _) h
/-- The clauses whose last variable is k. -/
def doneL (L : List (List Int)) (k : Nat) : List (List Int) := L.filter fun r => lastV r == k
/-- Does a clause hold where the variables are as f says? -/
def holdF (f : Nat → Bool) (r : List Int) : Bool := r.any fun y => f (Cf.va y) == decide (0 < y)
/-- f is as base's bits say, below v. -/
def Agree (v base : Nat) (f : Nat → Bool) : Prop := ∀ j, 1 ≤ j → j < v → f j = vb (v - 1) base (j - 1)
theorem vb_pre {n v d base k i : Nat} (hv : v + d = n + 1) (hk : k / 2 ^ d = base) (hi : i + 1 < v) : vb n k i = vb (v - 1) base i := by
  unfold vb
  have e : n - 1 - i = d + (v - 1 - 1 - i) := by omega
  rw [e, Nat.pow_add, ← Nat.div_div_eq_div_mul, hk]
theorem any_congr {p q : Int → Bool} : ∀ {r : List Int}, (∀ y ∈ r, p y = q y) → r.any p = r.any q
  | [], _ => rfl
  | x :: r, h => by rw [List.any_cons, List.any_cons, h x (by simp), any_congr (fun y hy => h y (List.mem_cons_of_mem _ hy))]
theorem row_pre {n v d base k : Nat} {f : Nat → Bool} {r : List Int} (hn : n ≤ 200) (hv1 : v + d = n + 1) (hk : k / 2 ^ d = base) (ha : Agree v base f) (hr : ∀ y ∈ r, 1 ≤ Cf.va y ∧ Cf.va y ≤ n) (hl : lastV r < v) : r.any (hv (vec n k)) = holdF f r := by
  unfold holdF
  refine any_congr fun y hy => ?_
  obtain ⟨h1, h2⟩ := hr y hy
  have h3 := last_ge hy
  rw [Sr.hv_bit (Sr.vec_len n k) h1 h2 hn, Sr.vec_at (by omega), ha _ h1 (by omega), vb_pre hv1 hk (by omega)]
/-- Do the clauses hold whose last variable is v - 1 or more? -/
def PV (n : Nat) (L : List (List Int)) (v k : Nat) : Bool := L.all fun r => decide (lastV r + 1 < v) || r.any (hv (vec n k))
/-- How many models there are behind v. -/
def NV (n : Nat) (L : List (List Int)) (v base d : Nat) : Nat := cnt (PV n L v) (base * 2 ^ d) (2 ^ d)
theorem in_div {base d i : Nat} (hi : i < 2 ^ d) : (base * 2 ^ d + i) / 2 ^ d = base := by
  rw [Nat.add_comm, Nat.add_mul_div_right _ _ (Nat.two_pow_pos d), Nat.div_eq_of_lt hi, Nat.zero_add]
theorem nv_none {n v d base : Nat} {f : Nat → Bool} {L : List (List Int)} {r : List Int} (hn : n ≤ 200) (hL : Pr.Cl n L) (hv1 : v + d = n + 1) (h1 : 1 ≤ v) (ha : Agree v base f) (hr : r ∈ doneL L (v - 1)) (hf : holdF f r = false) : NV n L v base d = 0 := by
  unfold doneL at hr
  obtain ⟨hm, hl⟩ := List.mem_filter.1 hr
  have hl' : lastV r = v - 1 := eq_of_beq hl
  refine cnt_none fun i hi => ?_
  unfold PV
  rw [List.all_eq_false]
  refine ⟨r, hm, ?_⟩
  rw [row_pre hn hv1 (in_div hi) ha (hL r hm) (by omega), hf, decide_eq_false (by omega)]
  exact Bool.false_ne_true
theorem nv_end {n base : Nat} {f : Nat → Bool} {L : List (List Int)} (hn : n ≤ 200) (hL : Pr.Cl n L) (ha : Agree (n + 1) base f) (hf : ∀ r ∈ doneL L n, holdF f r = true) : NV n L (n + 1) base 0 = 1 := by
  unfold NV
  show cnt _ _ 0 + _ = 1
  have : PV n L (n + 1) (base * 2 ^ 0 + 0) = true := by
    unfold PV
    rw [List.all_eq_true]
    intro r hr
    by_cases hl : lastV r + 1 < n + 1
    · rw [decide_eq_true hl]; rfl
    · have hle := last_le (fun y hy => (hL r hr y hy).2)
      rw [row_pre (v := n + 1) (d := 0) (base := base) hn rfl (by simp) ha (hL r hr) (by omega), hf r (List.mem_filter.2 ⟨hr, by rw [beq_iff_eq]; omega⟩), Bool.or_true]
  rw [this]; rfl
theorem nv_more {n v d base : Nat} {f : Nat → Bool} {L : List (List Int)} (hn : n ≤ 200) (hL : Pr.Cl n L) (hv1 : v + (d + 1) = n + 1) (h1 : 1 ≤ v) (ha : Agree v base f) (hf : ∀ r ∈ doneL L (v - 1), holdF f r = true) : NV n L v base (d + 1) = NV n L (v + 1) (2 * base) d + NV n L (v + 1) (2 * base + 1) d := by
  unfold NV
  have e1 : 2 ^ (d + 1) = 2 ^ d + 2 ^ d := by rw [Nat.pow_succ]; omega
  have e2 : base * 2 ^ (d + 1) = 2 * base * 2 ^ d := by rw [Nat.pow_succ, Nat.mul_comm (2 ^ d) 2, ← Nat.mul_assoc, Nat.mul_comm base 2]
  have e3 : 2 * base * 2 ^ d + 2 ^ d = (2 * base + 1) * 2 ^ d := by rw [Nat.add_mul, Nat.one_mul]
  have hc : cnt (PV n L v) (base * 2 ^ (d + 1)) (2 ^ (d + 1)) = cnt (PV n L (v + 1)) (base * 2 ^ (d + 1)) (2 ^ (d + 1)) := by
    refine cnt_congr fun i hi => ?_
    unfold PV
    rw [Bool.eq_iff_iff, List.all_eq_true, List.all_eq_true]
    have key : ∀ r ∈ L, lastV r = v - 1 → r.any (hv (vec n (base * 2 ^ (d + 1) + i))) = true := fun r hr hl => by
      rw [row_pre hn hv1 (in_div hi) ha (hL r hr) (by omega)]
      exact hf r (List.mem_filter.2 ⟨hr, by rw [beq_iff_eq]; exact hl⟩)
    constructor
    · intro h r hr
      have := h r hr
      rw [Bool.or_eq_true, decide_eq_true_eq] at this ⊢
      rcases this with h9 | h9
      · exact .inl (by omega)
      · exact .inr h9
    · intro h r hr
      have := h r hr
      rw [Bool.or_eq_true, decide_eq_true_eq] at this ⊢
      rcases this with h9 | h9
      · by_cases hl : lastV r = v - 1
        · exact .inr (key r hr hl)
        · exact .inl (by omega)
      · exact .inr h9
  rw [hc, e2, e1, cnt_add, e3]
theorem agree_next {v base : Nat} {f : Nat → Bool} (b : Bool) (h1 : 1 ≤ v) (ha : Agree v base f) : Agree (v + 1) (2 * base + b.toNat) (fun j => if j = v then b else f j) := by
  intro j hj1 hj2
  have hb : b.toNat ≤ 1 := by cases b <;> decide
  simp only
  by_cases e : j = v
  · subst e
    rw [if_pos rfl]
    unfold vb
    rw [show j + 1 - 1 - 1 - (j - 1) = 0 by omega, Nat.pow_zero, Nat.div_one]
    cases b <;> simp <;> omega
  · rw [if_neg e, ha j hj1 (by omega)]
    unfold vb
    have e1 : v + 1 - 1 - 1 - (j - 1) = (v - 1 - 1 - (j - 1)) + 1 := by omega
    rw [e1, Nat.pow_succ, Nat.mul_comm (2 ^ (v - 1 - 1 - (j - 1))) 2, ← Nat.div_div_eq_div_mul, show (2 * base + b.toNat) / 2 = base by omega]
theorem agree_one (f : Nat → Bool) : Agree 1 0 f := fun j h1 h2 => by omega
theorem agree_congr {v base : Nat} {f g : Nat → Bool} (h : Agree v base f) (hg : ∀ j, 1 ≤ j → j < v → g j = f j) : Agree v base g := fun j h1 h2 => by rw [hg j h1 h2]; exact h j h1 h2
theorem nv_all (n : Nat) (L : List (List Int)) : NV n L 1 0 n = cnt (fun k => holdsL (vec n k) L) 0 (2 ^ n) := by
  unfold NV
  rw [Nat.zero_mul]
  refine cnt_congr fun i hi => ?_
  unfold PV holdsL
  rw [Bool.eq_iff_iff, List.all_eq_true, List.all_eq_true]
  refine forall_congr' fun r => forall_congr' fun _ => ?_
  rw [decide_eq_false (by omega), Bool.false_or]
end Ct
end Go.Proofs.Ytghfelfljblkbaa
