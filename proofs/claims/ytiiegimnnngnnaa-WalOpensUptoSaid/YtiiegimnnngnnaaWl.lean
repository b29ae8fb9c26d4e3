/- Records on sectors: the plain law. No program is named here. -/
import Derived.Test.YtiiegimnnngnnaaDk
import Derived.Test.YtiiegimnnngnnaaCrcLaw
namespace Go.Proofs.Ytiiegimnnngnnaa
set_option linter.unusedVariables false
namespace Wl

def need (k : Nat) : Nat := if k ≤ 8192 then (k + 71) / 64 else 0
def be32 (n : Nat) : List Nat := [n / 16777216 % 256, n / 65536 % 256, n / 256 % 256, n % 256]
def raw (b : List Nat) : List Nat := be32 b.length ++ be32 (CrcLaw.sum (be32 b.length ++ b)) ++ b
def bin (b : List Nat) : List Nat := raw b ++ List.replicate (need b.length * 64 - (b.length + 8)) 0
theorem need_ge {k : Nat} (h : k ≤ 8192) : k + 8 ≤ 64 * need k ∧ 0 < need k ∧ need k ≤ 129 := by
  unfold need; rw [if_pos h]; omega
theorem be32_len (n : Nat) : (be32 n).length = 4 := rfl
theorem raw_len (b : List Nat) : (raw b).length = b.length + 8 := by
  unfold raw
  rw [List.length_append, List.length_append, be32_len, be32_len]; omega
theorem bin_len {b : List Nat} (h : b.length ≤ 8192) : (bin b).length = 64 * need b.length := by
  unfold bin
  rw [List.length_append, raw_len, List.length_replicate]
  have := need_ge h
  omega
theorem be32_lt (n : Nat) : ∀ x ∈ be32 n, x < 256 := by
  intro x hx
  simp only [be32, List.mem_cons, List.not_mem_nil, or_false] at hx
  omega
theorem raw_lt {b : List Nat} (h : ∀ x ∈ b, x < 256) : ∀ x ∈ raw b, x < 256 := by
  intro x hx
  unfold raw at hx
  rcases List.mem_append.1 hx with hx | hx
  · rcases List.mem_append.1 hx with hx | hx
    · exact be32_lt _ x hx
    · exact be32_lt _ x hx
  · exact h x hx
theorem bin_lt {b : List Nat} (h : ∀ x ∈ b, x < 256) : ∀ x ∈ bin b, x < 256 := by
  intro x hx
  unfold bin at hx
  rcases List.mem_append.1 hx with hx | hx
  · exact raw_lt h x hx
  · have := List.eq_of_mem_replicate hx; omega

/-- Bytes from a place on. -/
def part (R : Nat → Nat) (i k : Nat) : List Nat := (List.range k).map fun j => R (i + j)
theorem part_len (R : Nat → Nat) (i k : Nat) : (part R i k).length = k := by simp [part]
theorem part_get (R : Nat → Nat) (i k j : Nat) (h : j < k) : (part R i k)[j]? = some (R (i + j)) := by
  unfold part
  rw [List.getElem?_map, List.getElem?_range h]; rfl
theorem part_getD (R : Nat → Nat) (i k j : Nat) (h : j < k) : (part R i k).getD j 0 = R (i + j) := by
  rw [List.getD_eq_getElem?_getD, part_get R i k j h]; rfl
theorem part_congr {R R' : Nat → Nat} {i k : Nat} (h : ∀ j, i ≤ j → j < i + k → R j = R' j) : part R i k = part R' i k := by
  unfold part
  refine List.map_congr_left fun j hj => ?_
  have := List.mem_range.1 hj
  exact h _ (by omega) (by omega)
theorem part_sub (R : Nat → Nat) (i k a c : Nat) (h : a + c ≤ k) : ((part R i k).drop a).take c = part R (i + a) c := by
  apply List.ext_getElem?
  intro j
  rw [List.getElem?_take]
  split
  · rename_i hj
    rw [List.getElem?_drop, part_get _ _ _ _ (by omega), part_get _ _ _ _ hj, Nat.add_assoc]
  · rw [List.getElem?_eq_none (by rw [part_len]; omega)]
theorem part_zero (R : Nat → Nat) (i : Nat) : part R i 0 = [] := rfl
theorem part_app (R : Nat → Nat) (i a b : Nat) : part R i (a + b) = part R i a ++ part R (i + a) b := by
  apply List.ext_getElem?
  intro j
  rcases Nat.lt_or_ge j a with h | h
  · rw [List.getElem?_append_left (by rw [part_len]; exact h), part_get _ _ _ _ (by omega), part_get _ _ _ _ h]
  · rw [List.getElem?_append_right (by rw [part_len]; exact h), part_len]
    rcases Nat.lt_or_ge j (a + b) with h2 | h2
    · rw [part_get _ _ _ _ h2, part_get _ _ _ _ (by omega)]
      congr 2; omega
    · rw [List.getElem?_eq_none (by rw [part_len]; exact h2), List.getElem?_eq_none (by rw [part_len]; omega)]
theorem part_of {R : Nat → Nat} {i : Nat} {l : List Nat} (h : ∀ j, j < l.length → R (i + j) = l.getD j 0) : part R i l.length = l := by
  apply List.ext_getElem?
  intro j
  rcases Nat.lt_or_ge j l.length with hj | hj
  · rw [part_get _ _ _ _ hj, h j hj, List.getD_eq_getElem?_getD, List.getElem?_eq_getElem hj]; rfl
  · rw [List.getElem?_eq_none (by rw [part_len]; exact hj), List.getElem?_eq_none hj]
theorem part_lt {R : Nat → Nat} (h : ∀ k, R k < 256) (i k : Nat) : ∀ x ∈ part R i k, x < 256 := by
  intro x hx
  obtain ⟨j, _, rfl⟩ := List.mem_map.1 hx
  exact h _
def num (R : Nat → Nat) (i : Nat) : Nat := R i * 16777216 + R (i + 1) * 65536 + R (i + 2) * 256 + R (i + 3)
theorem num_of {R : Nat → Nat} {i n : Nat} (h : part R i 4 = be32 n) (hn : n < 4294967296) : num R i = n := by
  have e : [R (i + 0), R (i + 1), R (i + 2), R (i + 3)] = be32 n := h
  simp only [be32, List.cons.injEq, and_true, Nat.add_zero] at e
  unfold num
  omega
theorem num_lt {R : Nat → Nat} (h : ∀ k, R k < 256) (i : Nat) : num R i < 4294967296 := by
  unfold num
  have h0 := h i
  have h1 := h (i + 1)
  have h2 := h (i + 2)
  have h3 := h (i + 3)
  omega
/-- The record at a sector, if there is one that ends ahead of 'to'. -/
def recAt (R : Nat → Nat) (p to : Nat) : Option (List Nat) :=
  if to ≤ p then none
  else if 8192 < num R (64 * p) ∨ to - p < need (num R (64 * p)) then none
  else if bin (part R (64 * p + 8) (num R (64 * p))) = part R (64 * p) (64 * need (num R (64 * p))) then some (part R (64 * p + 8) (num R (64 * p)))
  else none
theorem bin_take4 (b : List Nat) : (bin b).take 4 = be32 b.length := by
  unfold bin raw
  rw [List.append_assoc, List.append_assoc, List.take_append_of_le_length (by rw [be32_len]; exact Nat.le_refl _), List.take_of_length_le (by rw [be32_len]; exact Nat.le_refl _)]
theorem bin_mid (b : List Nat) : ((bin b).drop 8).take b.length = b := by
  unfold bin raw
  have e : (be32 b.length ++ be32 (CrcLaw.sum (be32 b.length ++ b)) ++ b ++ List.replicate (need b.length * 64 - (b.length + 8)) 0).drop 8 = b ++ List.replicate (need b.length * 64 - (b.length + 8)) 0 := rfl
  rw [e, List.take_append_of_le_length (Nat.le_refl _), List.take_of_length_le (Nat.le_refl _)]
theorem recAt_of {R : Nat → Nat} {p to : Nat} {b : List Nat} (h : b.length ≤ 8192) (hp : part R (64 * p) (64 * need b.length) = bin b) (hto : p + need b.length ≤ to) : recAt R p to = some b := by
  have hn := need_ge h
  have e4 : part R (64 * p) 4 = be32 b.length := by
    rw [← bin_take4, ← hp]
    have := part_sub R (64 * p) (64 * need b.length) 0 4 (by omega)
    rw [List.drop_zero] at this
    rw [this]; rfl
  have en : num R (64 * p) = b.length := num_of e4 (by omega)
  have em : part R (64 * p + 8) b.length = b := by
    rw [← part_sub R (64 * p) (64 * need b.length) 8 b.length (by omega), hp, bin_mid]
  unfold recAt
  rw [if_neg (by omega), en, if_neg (by omega), em, if_pos hp.symm]
theorem recAt_some {R : Nat → Nat} {p to : Nat} {b : List Nat} (h : recAt R p to = some b) : b.length ≤ 8192 ∧ part R (64 * p) (64 * need b.length) = bin b ∧ p + need b.length ≤ to := by
  unfold recAt at h
  split at h
  · cases h
  · split at h
    · cases h
    · split at h
      · rename_i h1 h2 h3
        obtain rfl := Option.some.inj h
        rw [part_len]
        exact ⟨by omega, h3.symm, by omega⟩
      · cases h
def mk (R : Nat → Nat) (fr i : Nat) : Bool := decide (i < 512) && (R (64 * fr + i / 8)).testBit (7 - i % 8)
def go (R : Nat → Nat) (to fr : Nat) : Nat → Nat → Nat → Option (List (List Nat) × Nat)
  | 0, _, p => some ([], p)
  | f + 1, i, p => if mk R fr i = true then
      (match recAt R p to with
      | none => none
      | some b => match go R to fr f (i + 1) (p + need b.length) with
        | none => none
        | some q => some (b :: q.1, q.2))
    else some ([], p)
def opens (R : Nat → Nat) (fr to : Nat) : Option (List (List Nat) × Nat) := go R to fr 512 0 (fr + 1)
def Laid (R : Nat → Nat) : Nat → List (List Nat) → Nat → Prop
  | p, [], nx => nx = p
  | p, b :: r, nx => b.length ≤ 8192 ∧ part R (64 * p) (64 * need b.length) = bin b ∧ Laid R (p + need b.length) r nx
theorem Laid.le {R : Nat → Nat} {nx : Nat} : ∀ {rs : List (List Nat)} {p : Nat}, Laid R p rs nx → p + rs.length ≤ nx
  | [], p, h => by have : nx = p := h; simp only [List.length_nil]; omega
  | b :: r, p, h => by
    have h1 := Laid.le h.2.2
    have := need_ge h.1
    rw [List.length_cons]
    omega
theorem Laid.snoc {R : Nat → Nat} {nx : Nat} {b : List Nat} (hb : b.length ≤ 8192) (hp : part R (64 * nx) (64 * need b.length) = bin b) : ∀ {rs : List (List Nat)} {p : Nat}, Laid R p rs nx → Laid R p (rs ++ [b]) (nx + need b.length)
  | [], p, h => by
    obtain rfl : nx = p := h
    exact ⟨hb, hp, rfl⟩
  | c :: r, p, h => ⟨h.1, h.2.1, Laid.snoc hb hp h.2.2⟩
theorem Laid.congr {R R' : Nat → Nat} {nx : Nat} : ∀ {rs : List (List Nat)} {p : Nat}, Laid R p rs nx → (∀ k, 64 * p ≤ k → k < 64 * nx → R k = R' k) → Laid R' p rs nx
  | [], p, h, _ => h
  | b :: r, p, h, e => by
    have h1 := Laid.le h.2.2
    refine ⟨h.1, ?_, Laid.congr h.2.2 fun k hk hk2 => e k (by omega) hk2⟩
    rw [← h.2.1]
    exact (part_congr fun j h1 h2 => e j h1 (by omega)).symm
theorem go_of {R : Nat → Nat} {to fr n nx : Nat} (hm : ∀ j, j < 512 → mk R fr j = decide (j < n)) (hto : nx ≤ to) (hn : n ≤ 512) : ∀ (rs : List (List Nat)) (i p : Nat), Laid R p rs nx → i + rs.length = n → go R to fr (512 - i) i p = some (rs, nx)
  | [], i, p, h, hi => by
    obtain rfl : nx = p := h
    simp only [List.length_nil] at hi
    rcases Nat.lt_or_ge i 512 with h5 | h5
    · obtain ⟨f, hf⟩ : ∃ f, 512 - i = f + 1 := ⟨511 - i, by omega⟩
      rw [hf]
      unfold go
      rw [if_neg (by rw [hm i h5]; simp; omega)]
    · have e : 512 - i = 0 := by omega
      rw [e]; rfl
  | b :: r, i, p, h, hi => by
    simp only [List.length_cons] at hi
    have h1 := Laid.le h.2.2
    obtain ⟨f, hf⟩ : ∃ f, 512 - i = f + 1 := ⟨511 - i, by omega⟩
    have ih := go_of hm hto hn r (i + 1) _ h.2.2 (by omega)
    have e : 512 - (i + 1) = f := by omega
    rw [e] at ih
    rw [hf]
    unfold go
    rw [if_pos (by rw [hm i (by omega)]; simp; omega), recAt_of h.1 h.2.1 (by omega)]
    simp only [ih]
theorem opens_of {R : Nat → Nat} {fr to nx : Nat} {rs : List (List Nat)} (hm : ∀ j, j < 512 → mk R fr j = decide (j < rs.length)) (hto : nx ≤ to) (hn : rs.length ≤ 512) (h : Laid R (fr + 1) rs nx) : opens R fr to = some (rs, nx) :=
  go_of hm hto hn rs 0 _ h (by omega)
theorem mk_congr {R R' : Nat → Nat} {fr i : Nat} (h : ∀ k, k < 64 → R (64 * fr + k) = R' (64 * fr + k)) : mk R fr i = mk R' fr i := by
  unfold mk
  rcases Nat.lt_or_ge i 512 with h5 | h5
  · rw [h (i / 8) (by omega)]
  · simp [Nat.not_lt.2 h5]
/-- A mark more. -/
def setMark (m : Nat → Nat) (n : Nat) : Nat → Nat := fun k => if k = n / 8 then m k ||| 2 ^ (7 - n % 8) else m k
theorem setMark_lt {m : Nat → Nat} (h : ∀ k, m k < 256) (n k : Nat) : setMark m n k < 256 := by
  unfold setMark
  split
  · refine Nat.or_lt_two_pow (n := 8) (h k) ?_
    exact Nat.pow_lt_pow_right (by decide) (by omega)
  · exact h k
theorem mk_set {m : Nat → Nat} {n i : Nat} (hi : i < 512) (hn : n < 512) : mk (setMark m n) 0 i = (mk m 0 i || decide (i = n)) := by
  unfold mk setMark
  rw [Nat.mul_zero, Nat.zero_add]
  by_cases h : i / 8 = n / 8
  · rw [if_pos h, Nat.testBit_or]
    by_cases h2 : i = n
    · subst h2
      rw [Nat.testBit_two_pow_self]; simp [hi]
    · rw [Nat.testBit_two_pow_of_ne (by omega)]; simp [h2]
  · rw [if_neg h]
    have h2 : i ≠ n := fun e => h (by rw [e])
    simp [h2]
theorem mk_set_all {m : Nat → Nat} {n : Nat} (hn : n < 512) (h : ∀ j, j < 512 → mk m 0 j = decide (j < n)) : ∀ j, j < 512 → mk (setMark m n) 0 j = decide (j < n + 1) := by
  intro j hj
  rw [mk_set hj hn, h j hj]
  by_cases h1 : j < n
  · simp [h1]; omega
  · by_cases h2 : j = n
    · simp [h2]
    · have : ¬ j < n + 1 := by omega
      simp [h1, h2, this]
theorem mk_at {R m : Nat → Nat} {fr i : Nat} (h : ∀ k, k < 64 → R (64 * fr + k) = m k) : mk R fr i = mk m 0 i := by
  unfold mk
  rw [Nat.mul_zero, Nat.zero_add]
  rcases Nat.lt_or_ge i 512 with h5 | h5
  · rw [h (i / 8) (by omega)]
  · simp [Nat.not_lt.2 h5]
end Wl
end Go.Proofs.Ytiiegimnnngnnaa
