/- Plain laws of the CRC-32: linear over exclusive or, one to one, in parts. No program is named here. -/
namespace Go.Proofs.Ytiiegimnnngnnaa.CrcLaw

def poly : Nat := 3988292384
def half (n : Nat) : Nat := if n % 2 = 1 then (n / 2) ^^^ 3988292384 else n / 2
def halves : Nat → Nat → Nat
  | 0, n => n
  | k + 1, n => half (halves k n)
def ent (n : Nat) : Nat := halves 8 n
def run (c : Nat) (l : List Nat) : Nat := l.foldl (fun c x => ent (c ^^^ x)) c
def inv (n : Nat) : Nat := n ^^^ 4294967295
def more (s : Nat) (l : List Nat) : Nat := inv (run (inv s) l)
def sum (l : List Nat) : Nat := more 0 l

theorem xor_div2 (a b : Nat) : (a ^^^ b) / 2 = a / 2 ^^^ b / 2 := by
  apply Nat.eq_of_testBit_eq; intro i; simp [Nat.testBit_div_two]
theorem xor_mod2 (a b : Nat) : (a ^^^ b) % 2 = (a % 2 + b % 2) % 2 := by
  have h := Nat.testBit_xor (x := a) (y := b) (i := 0)
  simp only [Nat.testBit_zero] at h
  rcases Nat.mod_two_eq_zero_or_one a with ha | ha <;> rcases Nat.mod_two_eq_zero_or_one b with hb | hb <;>
    rcases Nat.mod_two_eq_zero_or_one (a ^^^ b) with hc | hc <;> simp [ha, hb, hc] at h ⊢

theorem half_xor (a b : Nat) : half (a ^^^ b) = half a ^^^ half b := by
  have hm := xor_mod2 a b
  have hd := xor_div2 a b
  unfold half
  rw [hd]
  rcases Nat.mod_two_eq_zero_or_one a with ha | ha <;> rcases Nat.mod_two_eq_zero_or_one b with hb | hb <;> rw [ha, hb] at hm <;> rw [ha, hb, hm]
  · rfl
  · simp only [Nat.reduceAdd, Nat.reduceMod, if_true]; rw [if_neg (by decide), Nat.xor_assoc]
  · simp only [Nat.reduceAdd, Nat.reduceMod, if_true]; rw [if_neg (by decide), Nat.xor_assoc, Nat.xor_assoc, Nat.xor_comm (b / 2)]
  · simp only [Nat.reduceAdd, Nat.reduceMod, if_true]; rw [if_neg (by decide), Nat.xor_assoc (a / 2), ← Nat.xor_assoc 3988292384, Nat.xor_comm 3988292384 (b / 2), Nat.xor_assoc, Nat.xor_self, Nat.xor_zero]
theorem half_lt {n : Nat} (h : n < 4294967296) : half n < 4294967296 := by
  unfold half
  split
  · exact Nat.xor_lt_two_pow (n := 32) (by omega) (by omega)
  · omega
theorem half_even (n : Nat) : half (2 * n) = n := by unfold half; rw [if_neg (by omega)]; omega
theorem half_zero {n : Nat} (h : n < 4294967296) (h0 : half n = 0) : n = 0 := by
  unfold half at h0
  split at h0
  · exfalso
    have hx : (n / 2 ^^^ 3988292384).testBit 31 = true := by
      rw [Nat.testBit_xor, Nat.testBit_lt_two_pow (x := n / 2) (i := 31) (by omega)]; decide
    rw [h0] at hx; simp at hx
  · omega

theorem halves_xor (k a b : Nat) : halves k (a ^^^ b) = halves k a ^^^ halves k b := by
  induction k with
  | zero => rfl
  | succ k ih => simp only [halves, ih, half_xor]
theorem halves_lt {n : Nat} (h : n < 4294967296) : ∀ k, halves k n < 4294967296
  | 0 => h
  | k + 1 => half_lt (halves_lt h k)
theorem halves_zero {n : Nat} (h : n < 4294967296) : ∀ k, halves k n = 0 → n = 0
  | 0, h0 => h0
  | k + 1, h0 => halves_zero h k (half_zero (halves_lt h k) h0)
theorem halves_succ' (n : Nat) : ∀ k, halves (k + 1) n = halves k (half n)
  | 0 => rfl
  | k + 1 => by rw [halves, halves_succ' n k]; rfl
theorem ent_xor (a b : Nat) : ent (a ^^^ b) = ent a ^^^ ent b := halves_xor 8 a b
theorem ent_lt {n : Nat} (h : n < 4294967296) : ent n < 4294967296 := halves_lt h 8
theorem ent_zero {n : Nat} (h : n < 4294967296) (h0 : ent n = 0) : n = 0 := halves_zero h 8 h0
theorem ent_256 (n : Nat) : ent (256 * n) = n := by
  unfold ent
  rw [show 256 * n = 2 * (2 * (2 * (2 * (2 * (2 * (2 * (2 * n))))))) by omega]
  simp only [half_even, halves]
theorem split256 (n : Nat) : n = (n % 256) ^^^ (256 * (n / 256)) := by
  apply Nat.eq_of_testBit_eq; intro i
  rw [Nat.testBit_xor, show (256 : Nat) = 2 ^ 8 from rfl, Nat.testBit_mod_two_pow, Nat.testBit_two_pow_mul, Nat.testBit_div_two_pow]
  by_cases h : i < 8
  · simp [h, show ¬ 8 ≤ i by omega]
  · simp [h, show 8 ≤ i by omega, show i - 8 + 8 = i by omega]
theorem ent_split (n : Nat) : ent n = ent (n % 256) ^^^ (n / 256) := by
  conv => lhs; rw [split256 n]
  rw [ent_xor, ent_256]
theorem xor_div256 {a x : Nat} (hx : x < 256) : (a ^^^ x) / 256 = a / 256 := by
  apply Nat.eq_of_testBit_eq; intro i
  rw [show (256 : Nat) = 2 ^ 8 from rfl, Nat.testBit_div_two_pow, Nat.testBit_div_two_pow, Nat.testBit_xor]
  rw [Nat.testBit_lt_two_pow (x := x) (Nat.lt_of_lt_of_le (show x < 2 ^ 8 from hx) (Nat.pow_le_pow_right (by decide) (by omega)))]
  simp
theorem xor_mod256 (a x : Nat) : (a ^^^ x) % 256 = (a % 256) ^^^ (x % 256) := Nat.xor_mod_two_pow (n := 8)
/-- The program's step, and the reference's. -/
theorem step_prog {c x : Nat} (hx : x < 256) : ent ((c ^^^ x) % 256) ^^^ (c / 256) = ent (c ^^^ x) := by
  rw [ent_split (c ^^^ x), xor_div256 hx]
theorem step_ref {c x : Nat} (hx : x < 256) : ent ((c % 256) ^^^ x) ^^^ (c / 256) = ent (c ^^^ x) := by
  have h := step_prog (c := c) hx
  rwa [xor_mod256, Nat.mod_eq_of_lt hx] at h
theorem run_snoc (c : Nat) (l : List Nat) (x : Nat) : run c (l ++ [x]) = ent (run c l ^^^ x) := by simp only [run, List.foldl_append, List.foldl_cons, List.foldl_nil]
theorem run_append (c : Nat) (l m : List Nat) : run c (l ++ m) = run (run c l) m := by simp only [run, List.foldl_append]
theorem run_cons (c x : Nat) (l : List Nat) : run c (x :: l) = run (ent (c ^^^ x)) l := by simp only [run, List.foldl_cons]
theorem run_lt {c : Nat} (hc : c < 4294967296) : ∀ (l : List Nat), (∀ x ∈ l, x < 256) → run c l < 4294967296 := by
  intro l
  induction l generalizing c with
  | nil => intro _; exact hc
  | cons x l ih =>
    intro h
    rw [run_cons]
    have hx := h x (by simp)
    exact ih (ent_lt (Nat.xor_lt_two_pow (n := 32) hc (by omega))) (fun y hy => h y (by simp [hy]))
theorem inv_lt {n : Nat} (h : n < 4294967296) : inv n < 4294967296 := Nat.xor_lt_two_pow (n := 32) h (by omega)
theorem inv_inv (n : Nat) : inv (inv n) = n := by unfold inv; rw [Nat.xor_assoc, Nat.xor_self, Nat.xor_zero]
theorem inv_inj {a b : Nat} (h : inv a = inv b) : a = b := by have := congrArg inv h; simpa [inv_inv] using this
theorem more_lt {s : Nat} (hs : s < 4294967296) (l : List Nat) (h : ∀ x ∈ l, x < 256) : more s l < 4294967296 := inv_lt (run_lt (inv_lt hs) l h)
theorem more_append (s : Nat) (l m : List Nat) : more (more s l) m = more s (l ++ m) := by unfold more; rw [inv_inv, run_append]
theorem run_nil (c : Nat) : run c [] = c := rfl
theorem more_nil (s : Nat) : more s [] = s := by unfold more; rw [run_nil, inv_inv]

theorem xor_eq_zero {a b : Nat} (h : a ^^^ b = 0) : a = b := by
  have h2 : (a ^^^ b) ^^^ b = 0 ^^^ b := by rw [h]
  rwa [Nat.xor_assoc, Nat.xor_self, Nat.xor_zero, Nat.zero_xor] at h2
theorem ent_inj {a b : Nat} (ha : a < 4294967296) (hb : b < 4294967296) (h : ent a = ent b) : a = b :=
  xor_eq_zero (ent_zero (Nat.xor_lt_two_pow (n := 32) ha hb) (by rw [ent_xor, h, Nat.xor_self]))
theorem xor_right_inj {a b x : Nat} (h : a ^^^ x = b ^^^ x) : a = b := by
  have := congrArg (· ^^^ x) h
  simpa [Nat.xor_assoc] using this
theorem run_inj : ∀ (l : List Nat) {c d : Nat}, c < 4294967296 → d < 4294967296 → (∀ x ∈ l, x < 256) → run c l = run d l → c = d
  | [], _, _, _, _, _, h => h
  | x :: l, c, d, hc, hd, hl, h => by
    rw [run_cons, run_cons] at h
    have hx : x < 4294967296 := by have := hl x (by simp); omega
    exact xor_right_inj (ent_inj (Nat.xor_lt_two_pow (n := 32) hc hx) (Nat.xor_lt_two_pow (n := 32) hd hx)
      (run_inj l (ent_lt (Nat.xor_lt_two_pow (n := 32) hc hx)) (ent_lt (Nat.xor_lt_two_pow (n := 32) hd hx)) (fun y hy => hl y (by simp [hy])) h))

/-! Sums of rows that are added up. -/
def xors (a b : List Nat) : List Nat := List.zipWith (· ^^^ ·) a b
theorem run_xors : ∀ (a b : List Nat) (c d : Nat), a.length = b.length → run (c ^^^ d) (xors a b) = run c a ^^^ run d b
  | [], [], _, _, _ => rfl
  | x :: a, y :: b, c, d, h => by
    simp only [xors, List.zipWith_cons_cons, run_cons]
    rw [show c ^^^ d ^^^ (x ^^^ y) = (c ^^^ x) ^^^ (d ^^^ y) by rw [Nat.xor_assoc, ← Nat.xor_assoc d, Nat.xor_comm d x, Nat.xor_assoc, ← Nat.xor_assoc]]
    rw [ent_xor]
    exact run_xors a b _ _ (by simpa using h)
theorem inv3 (x y z : Nat) : inv (x ^^^ y ^^^ z) = inv x ^^^ inv y ^^^ inv z := by
  unfold inv
  apply Nat.eq_of_testBit_eq; intro i
  simp only [Nat.testBit_xor]
  generalize Nat.testBit 4294967295 i = f
  cases x.testBit i <;> cases y.testBit i <;> cases z.testBit i <;> cases f <;> rfl
theorem sum_xors3 (a b c : List Nat) (h1 : a.length = b.length) (h2 : b.length = c.length) : sum (xors (xors a b) c) = sum a ^^^ sum b ^^^ sum c := by
  have e : run (inv 0) (xors (xors a b) c) = run (inv 0) a ^^^ run (inv 0) b ^^^ run (inv 0) c := by
    have hF : inv 0 = inv 0 ^^^ inv 0 ^^^ inv 0 := by rw [Nat.xor_self, Nat.zero_xor]
    conv => lhs; rw [hF]
    rw [run_xors _ _ _ _ (by simp [xors]; omega), run_xors _ _ _ _ h1]
  show inv (run (inv 0) (xors (xors a b) c)) = inv (run (inv 0) a) ^^^ inv (run (inv 0) b) ^^^ inv (run (inv 0) c)
  rw [e, inv3]

/-! Rows that differ within four bytes side by side. -/
def le : List Nat → Nat
  | [] => 0
  | x :: l => x + 256 * le l
theorem le_inj : ∀ (a b : List Nat), a.length = b.length → (∀ x ∈ a, x < 256) → (∀ x ∈ b, x < 256) → le a = le b → a = b
  | [], [], _, _, _, _ => rfl
  | x :: a, y :: b, hl, ha, hb, h => by
    have hx := ha x (by simp)
    have hy := hb y (by simp)
    simp only [le] at h
    have e1 : x = y := by omega
    have e2 : le a = le b := by omega
    rw [e1, le_inj a b (by simpa using hl) (fun z hz => ha z (by simp [hz])) (fun z hz => hb z (by simp [hz])) e2]
theorem le_lt : ∀ (a : List Nat), (∀ x ∈ a, x < 256) → le a < 256 ^ a.length
  | [], _ => by simp [le]
  | x :: a, h => by
    have := le_lt a (fun z hz => h z (by simp [hz]))
    have hx := h x (by simp)
    simp only [le, List.length_cons, Nat.pow_succ]
    omega
theorem le_lt32 (a : List Nat) (hl : a.length ≤ 4) (h : ∀ x ∈ a, x < 256) : le a < 4294967296 := by
  have h1 := le_lt a h
  have h2 : 256 ^ a.length ≤ 256 ^ 4 := Nat.pow_le_pow_right (by decide) hl
  have h3 : (256 : Nat) ^ 4 = 4294967296 := by decide
  omega
def ents : Nat → Nat → Nat
  | 0, n => n
  | k + 1, n => ents k (ent n)
theorem ents_inj : ∀ (k : Nat) {a b : Nat}, a < 4294967296 → b < 4294967296 → ents k a = ents k b → a = b
  | 0, _, _, _, _, h => h
  | k + 1, _, _, ha, hb, h => ent_inj ha hb (ents_inj k (ent_lt ha) (ent_lt hb) h)
theorem le_xor {x m : Nat} (hx : x < 256) : x + 256 * m = x ^^^ (256 * m) := by
  have h := split256 (x + 256 * m)
  rwa [show (x + 256 * m) % 256 = x by omega, show (x + 256 * m) / 256 = m by omega] at h
theorem run_le : ∀ (l : List Nat) (c : Nat), (∀ x ∈ l, x < 256) → run c l = ents l.length (c ^^^ le l)
  | [], c, _ => by simp [run, ents, le]
  | x :: l, c, h => by
    have hx := h x (by simp)
    rw [run_cons, run_le l _ (fun z hz => h z (by simp [hz]))]
    simp only [List.length_cons, ents, le]
    rw [le_xor hx, ← Nat.xor_assoc, ent_xor (c ^^^ x), ent_256]
theorem run_tells {c : Nat} (hc : c < 4294967296) (a b : List Nat) (hl : a.length = b.length) (h4 : a.length ≤ 4) (ha : ∀ x ∈ a, x < 256) (hb : ∀ x ∈ b, x < 256) (h : run c a = run c b) : a = b := by
  rw [run_le a c ha, run_le b c hb, ← hl] at h
  have la := le_lt32 a h4 ha
  have lb := le_lt32 b (by omega) hb
  have e := ents_inj _ (Nat.xor_lt_two_pow (n := 32) hc la) (Nat.xor_lt_two_pow (n := 32) hc lb) h
  rw [Nat.xor_comm c, Nat.xor_comm c] at e
  exact le_inj a b hl ha hb (xor_right_inj e)
theorem sum_tells (p a b r : List Nat) (hl : a.length = b.length) (h4 : a.length ≤ 4) (hp : ∀ x ∈ p, x < 256) (ha : ∀ x ∈ a, x < 256) (hb : ∀ x ∈ b, x < 256) (hr : ∀ x ∈ r, x < 256) (h : sum (p ++ a ++ r) = sum (p ++ b ++ r)) : a = b := by
  simp only [sum, more] at h
  have h := inv_inj h
  rw [run_append, run_append, run_append, run_append] at h
  have hi : inv 0 < 4294967296 := by decide
  have h0 := run_lt hi p hp
  exact run_tells h0 a b hl h4 ha hb (run_inj r (run_lt h0 a ha) (run_lt h0 b hb) hr h)
end Go.Proofs.Ytiiegimnnngnnaa.CrcLaw
