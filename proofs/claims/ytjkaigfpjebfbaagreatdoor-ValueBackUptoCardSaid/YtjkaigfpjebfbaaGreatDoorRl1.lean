/- Relation: the plain law: words, atoms, clauses; the reference reads the same. -/
import Derived.Below
namespace Go.Proofs.YtjkaigfpjebfbaaGreatDoor
set_option linter.unusedVariables false
namespace Rl
abbrev Bs := List UInt8
/-- The class of a byte: 0 a word's, 1 white, 2 a mark, 3 a sign. -/
def cls (b : UInt8) : Nat := if b = 32 ∨ b = 9 then 1 else if b = 40 ∨ b = 41 ∨ b = 44 ∨ b = 124 then 2 else if b = 60 ∨ b = 62 ∨ b = 61 then 3 else 0
/-- The words, the one under way being cur, of class was. -/
def tk : Bs → Bs → Nat → List Bs
  | [], cur, was => if was ≠ 1 ∧ cur ≠ [] then [cur] else []
  | b :: r, cur, was => if cls b ≠ was ∨ cls b = 2 then (if was ≠ 1 ∧ cur ≠ [] then cur :: tk r [b] (cls b) else tk r [b] (cls b)) else tk r (cur ++ [b]) was
theorem tk_cons (b : UInt8) (r cur : Bs) (was : Nat) : tk (b :: r) cur was = if cls b ≠ was ∨ cls b = 2 then (if was ≠ 1 ∧ cur ≠ [] then cur :: tk r [b] (cls b) else tk r [b] (cls b)) else tk r (cur ++ [b]) was := rfl
def toks (l : Bs) : List Bs := tk l [] 1
def wh (b : UInt8) : Bool := cls b == 1
def ink (b : UInt8) : Bool := cls b == 0 || cls b == 3
theorem tk_white (l cur : Bs) : tk l cur 1 = toks l := by
  unfold toks
  induction l generalizing cur with
  | nil => simp [tk]
  | cons b r ih =>
    unfold tk
    by_cases h : cls b ≠ 1 ∨ cls b = 2
    · rw [if_pos h, if_pos h]; simp
    · rw [if_neg h, if_neg h, ih (cur ++ [b]), ih ([] ++ [b])]
theorem toks_nil : toks [] = [] := rfl
theorem toks_white {b : UInt8} {r : Bs} (h : cls b = 1) : toks (b :: r) = toks r := by
  show tk (b :: r) [] 1 = _
  unfold tk
  rw [if_neg (by omega), tk_white]
theorem toks_ink {b : UInt8} {r : Bs} (h : cls b ≠ 1) : toks (b :: r) = tk r [b] (cls b) := by
  show tk (b :: r) [] 1 = _
  rw [tk_cons, if_pos (.inl h), if_neg (by omega)]
theorem tk_mark (l cur : Bs) (hc : cur ≠ []) : tk l cur 2 = cur :: toks l := by
  cases l with
  | nil => simp [tk, toks, hc]
  | cons b r =>
    unfold tk
    rw [if_pos (by omega), if_pos ⟨by omega, hc⟩]
    by_cases h : cls b = 1
    · rw [toks_white h, h, tk_white]
    · rw [toks_ink h]
theorem tk_one (c : Nat) (h1 : c ≠ 1) (h2 : c ≠ 2) : ∀ (l cur : Bs), cur ≠ [] → tk l cur c = (cur ++ l.takeWhile fun b => cls b == c) :: toks (l.dropWhile fun b => cls b == c)
  | [], cur, hc => by simp [tk, toks, hc, h1]
  | b :: r, cur, hc => by
    unfold tk
    by_cases h : cls b = c
    · rw [if_neg (by omega), tk_one c h1 h2 r _ (by simp)]
      simp [h]
    · rw [if_pos (.inl h), if_pos ⟨h1, hc⟩]
      have e : (cls b == c) = false := by simpa using h
      rw [List.takeWhile_cons, List.dropWhile_cons, e]
      simp only [Bool.false_eq_true, if_false, List.append_nil]
      by_cases h3 : cls b = 1
      · rw [toks_white h3, h3, tk_white]
      · rw [toks_ink h3]
theorem toks_skip (l : Bs) : toks (l.dropWhile wh) = toks l := by
  induction l with
  | nil => rfl
  | cons b r ih =>
    rw [List.dropWhile_cons]
    by_cases h : cls b = 1
    · have : wh b = true := by simp [wh, h]
      rw [if_pos this, ih, toks_white h]
    · have : wh b = false := by simpa [wh] using h
      rw [this]; simp
theorem toks_mark {b : UInt8} {r : Bs} (h : cls b = 2) : toks (b :: r) = [b] :: toks r := by
  rw [toks_ink (by omega), h, tk_mark _ _ (by simp)]
theorem toks_run {b : UInt8} {r : Bs} {c : Nat} (h : cls b = c) (h1 : c ≠ 1) (h2 : c ≠ 2) : toks (b :: r) = ((b :: r).takeWhile fun b => cls b == c) :: toks ((b :: r).dropWhile fun b => cls b == c) := by
  rw [toks_ink (by omega), h, tk_one c h1 h2 _ _ (by simp), List.takeWhile_cons, List.dropWhile_cons, if_pos (by simpa using h), if_pos (by simpa using h)]
  rfl
/-- An atom: its name, its relation, its version. -/
structure Atm where
  name : Bs
  rel : Nat
  ver : Bs
deriving DecidableEq
def relOf (t : Bs) : Nat := if t = [60, 60] then 1 else if t = [60, 61] then 2 else if t = [61] then 3 else if t = [62, 61] then 4 else if t = [62, 62] then 5 else 0
def sgn : Nat → Bs
  | 1 => [60, 60]
  | 2 => [60, 61]
  | 3 => [61]
  | 4 => [62, 61]
  | 5 => [62, 62]
  | _ => []
def isT (t : Bs) : List Bs → Option (List Bs)
  | [] => none
  | x :: r => if x = t then some r else none
def wordT : List Bs → Bs × List Bs
  | [] => ([], [])
  | x :: r => (x, r)
section
variable (nm ver : Bs → Bool)
def mayA (a : Atm) : Bool := nm a.name && (if a.rel = 0 then decide (a.ver = []) else decide (a.rel ≤ 5) && ver a.ver)
/-- An atom where it may be. -/
def may1 (a : Atm) : Option Atm := if mayA nm ver a then some a else none
/-- The program's part in brackets. -/
def parP (n : Bs) (T2 : List Bs) : Option Atm × List Bs :=
  if relOf (wordT T2).1 = 0 then (none, (wordT (wordT T2).2).2) else
  match isT [41] (wordT (wordT T2).2).2 with
  | none => (none, (wordT (wordT T2).2).2)
  | some T5 => (may1 nm ver ⟨n, relOf (wordT T2).1, (wordT (wordT T2).2).1⟩, T5)
/-- The program's atom: of words. -/
def atomP (T : List Bs) : Option Atm × List Bs :=
  match isT [40] (wordT T).2 with
  | none => (may1 nm ver ⟨(wordT T).1, 0, []⟩, (wordT T).2)
  | some T2 => parP nm ver (wordT T).1 T2
/-- Which relation's sign a text begins with. -/
def relP (l : Bs) : Nat := if l.take 2 = [60, 60] then 1 else if l.take 2 = [60, 61] then 2 else if l.take 1 = [61] then 3 else if l.take 2 = [62, 61] then 4 else if l.take 2 = [62, 62] then 5 else 0
def skw (l : Bs) : Bs := l.dropWhile wh
/-- The reference's part in brackets: the relation, the version, what is behind. -/
def parR (l : Bs) : Option (Nat × Bs × Bs) :=
  if relP (skw l) = 0 ∨ ver ((skw ((skw l).drop (sgn (relP (skw l))).length)).takeWhile ink) = false then none else
  match skw ((skw ((skw l).drop (sgn (relP (skw l))).length)).dropWhile ink) with
  | [] => none
  | c :: q => if c = 41 then some (relP (skw l), (skw ((skw l).drop (sgn (relP (skw l))).length)).takeWhile ink, q) else none
/-- The reference's atom: of a text. -/
def atomR (l : Bs) : Option (Atm × Bs) :=
  if nm ((skw l).takeWhile ink) then
    match skw ((skw l).dropWhile ink) with
    | [] => some (⟨(skw l).takeWhile ink, 0, []⟩, [])
    | b :: r => if b = 40 then (match parR ver r with | none => none | some (k, v, q) => some (⟨(skw l).takeWhile ink, k, v⟩, q)) else some (⟨(skw l).takeWhile ink, 0, []⟩, b :: r)
  else none
end
/-- What names and versions are: words alone, and some. -/
structure Plain (p : Bs → Bool) : Prop where
  ne : p [] = false
  word : ∀ t, p t = true → ∀ b ∈ t, cls b = 0
theorem wh_false {b : UInt8} (h : cls b ≠ 1) : wh b = false := by simpa [wh] using h
theorem cls_ways (b : UInt8) : cls b = 0 ∨ cls b = 1 ∨ cls b = 2 ∨ cls b = 3 := by
  unfold cls
  split
  · simp
  · split
    · simp
    · split <;> simp
theorem skw_head {l r : Bs} {b : UInt8} (h : skw l = b :: r) : cls b ≠ 1 := by
  have := List.head?_dropWhile_not wh l
  unfold skw at h
  rw [h] at this
  simpa [wh] using this
theorem toks_skw (l : Bs) : toks (skw l) = toks l := toks_skip l
theorem isT_mark {m : UInt8} (hm : cls m = 2) (l : Bs) : isT [m] (toks l) = match skw l with | [] => none | b :: r => if b = m then some (toks r) else none := by
  rw [← toks_skw l]
  cases h : skw l with
  | nil => rfl
  | cons b r =>
    have hb := skw_head h
    show _ = if b = m then some (toks r) else none
    by_cases h2 : cls b = 2
    · rw [toks_mark h2]
      show (if [b] = [m] then _ else _) = _
      by_cases e : b = m
      · rw [if_pos (by rw [e]), if_pos e]
      · rw [if_neg (by simpa using e), if_neg e]
    · rw [toks_run rfl hb h2]
      have e : b ≠ m := fun e => h2 (by rw [e]; exact hm)
      show (if _ = [m] then _ else _) = _
      rw [if_neg e, if_neg]
      rw [List.takeWhile_cons, if_pos (by simp)]
      intro h9
      injection h9 with h9 _
      exact e h9
/-- Is a list of words one that begins with a sign? -/
def Sgn (T : List Bs) : Prop := ∃ x t R, T = (x :: t) :: R ∧ cls x = 3
theorem Sgn.isT {T : List Bs} (h : Sgn T) {m : UInt8} (hm : cls m = 2) : isT [m] T = none := by
  obtain ⟨x, t, R, rfl, hx⟩ := h
  show (if x :: t = [m] then _ else _) = _
  rw [if_neg]
  intro h
  injection h with h _
  rw [h] at hx
  omega
theorem sgn_toks {x : UInt8} {r : Bs} (h : cls x = 3) : Sgn (toks (x :: r)) := by
  rw [toks_run h (by omega) (by omega), List.takeWhile_cons, if_pos (by simpa using h)]
  exact ⟨x, _, _, rfl, h⟩
theorem take_all {p : UInt8 → Bool} : ∀ (l : Bs), ∀ b ∈ l.takeWhile p, p b = true
  | [], b, h => by cases h
  | x :: l, b, h => by
    rw [List.takeWhile_cons] at h
    split at h
    · next hx =>
      rcases List.mem_cons.1 h with rfl | h
      · exact hx
      · exact take_all l b h
    · cases h
theorem drop_head {p : UInt8 → Bool} {l r : Bs} {b : UInt8} (h : l.dropWhile p = b :: r) : p b = false := by
  have := List.head?_dropWhile_not p l
  rw [h] at this
  simpa using this
/-- A run of words alone that ends where no sign stands is the whole run. -/
theorem run_same : ∀ (l : Bs), (∀ x r, l.dropWhile (fun b => cls b == 0) = x :: r → cls x ≠ 3) → l.takeWhile ink = l.takeWhile (fun b => cls b == 0) ∧ l.dropWhile ink = l.dropWhile (fun b => cls b == 0)
  | [], _ => ⟨rfl, rfl⟩
  | b :: l, h => by
    rw [List.takeWhile_cons, List.takeWhile_cons, List.dropWhile_cons, List.dropWhile_cons]
    by_cases h0 : cls b = 0
    · have e1 : ink b = true := by simp [ink, h0]
      have e2 : (cls b == 0) = true := by simp [h0]
      rw [List.dropWhile_cons, e2, if_pos rfl] at h
      have := run_same l h
      rw [e1, e2, if_pos rfl, if_pos rfl, if_pos rfl, if_pos rfl, this.1, this.2]
      exact ⟨rfl, rfl⟩
    · have e2 : (cls b == 0) = false := by simpa using h0
      rw [List.dropWhile_cons, e2, if_neg Bool.false_ne_true] at h
      have h3 := h b l rfl
      have e1 : ink b = false := by simp [ink, h0, h3]
      rw [e1, e2]
      simp
theorem run_other : ∀ (l : Bs), l.takeWhile ink ≠ l.takeWhile (fun b => cls b == 0) → ∃ x r, l.dropWhile (fun b => cls b == 0) = x :: r ∧ cls x = 3 := by
  intro l h
  cases hd : l.dropWhile (fun b => cls b == 0) with
  | nil => exact absurd (run_same l (fun x r h9 => by rw [hd] at h9; cases h9)).1 h
  | cons x r =>
    by_cases h3 : cls x = 3
    · exact ⟨x, r, rfl, h3⟩
    · exact absurd (run_same l (fun x' r' h9 => by rw [hd] at h9; injection h9 with h9 _; rw [← h9]; exact h3)).1 h
theorem word_plain {p : Bs → Bool} (hp : Plain p) {l : Bs} (h : p ((skw l).takeWhile ink) = true) : toks l = (skw l).takeWhile ink :: toks ((skw l).dropWhile ink) := by
  rw [← toks_skw l]
  cases hs : skw l with
  | nil => rw [hs] at h; rw [show List.takeWhile ink [] = [] from rfl, hp.ne] at h; cases h
  | cons b r =>
    rw [hs] at h
    have hb := skw_head hs
    have hw := hp.word _ h
    have h0 : cls b = 0 := by
      rcases cls_ways b with hc | hc | hc | hc
      · exact hc
      · exact absurd hc hb
      · have : ink b = false := by simp [ink, hc]
        rw [List.takeWhile_cons, this] at h
        simp only [Bool.false_eq_true, if_false] at h
        rw [hp.ne] at h; cases h
      · have : ink b = true := by simp [ink, hc]
        rw [List.takeWhile_cons, if_pos this] at hw
        exact hw b (by simp)
    have hrun := run_same (b :: r) (fun x q hx h3 => by
      -- x is a sign that stands in the run
      have hmem : ∀ (l : Bs), l.dropWhile (fun b => cls b == 0) = x :: q → x ∈ l.takeWhile ink := by
        intro l
        induction l with
        | nil => intro h9; cases h9
        | cons y l ih =>
          intro h9
          rw [List.dropWhile_cons] at h9
          rw [List.takeWhile_cons]
          split at h9
          · next hy =>
            have : ink y = true := by unfold ink; rw [hy]; rfl
            rw [if_pos this]
            exact List.mem_cons_of_mem _ (ih h9)
          · injection h9 with h9 _
            have : ink y = true := by rw [h9]; simp [ink, h3]
            rw [if_pos this, h9]
            exact List.mem_cons_self
      have := hw x (hmem _ hx)
      omega)
    rw [toks_run h0 (by omega) (by omega), hrun.1, hrun.2]
theorem word_not {p : Bs → Bool} (hp : Plain p) {l : Bs} (h : p ((skw l).takeWhile ink) = false) : p (wordT (toks l)).1 = false ∨ Sgn (wordT (toks l)).2 := by
  rw [← toks_skw l]
  cases hs : skw l with
  | nil => exact .inl hp.ne
  | cons b r =>
    rw [hs] at h
    have hb := skw_head hs
    have hno : ∀ t, cls b ≠ 0 → p (b :: t) = false := fun t h0 => by
      cases h9 : p (b :: t) with
      | false => rfl
      | true => exact absurd (hp.word _ h9 b (by simp)) h0
    rcases cls_ways b with hc | hc | hc | hc
    · rw [toks_run hc (by omega) (by omega)]
      show p (List.takeWhile _ _) = false ∨ Sgn (toks _)
      by_cases he : (b :: r).takeWhile ink = (b :: r).takeWhile (fun b => cls b == 0)
      · rw [← he]; exact .inl h
      · obtain ⟨x, q, hx, h3⟩ := run_other _ he
        rw [hx]
        exact .inr (sgn_toks h3)
    · exact absurd hc hb
    · rw [toks_mark hc]
      exact .inl (hno [] (by omega))
    · rw [toks_run hc (by omega) (by omega), List.takeWhile_cons, if_pos (by simpa using hc)]
      exact .inl (hno _ (by omega))
section
variable {nm ver : Bs → Bool}
theorem relP_some {q : Bs} {k : Nat} (h : relP q = k) (hk : k ≠ 0) : 1 ≤ k ∧ k ≤ 5 ∧ q = sgn k ++ q.drop (sgn k).length := by
  subst h
  unfold relP at *
  have two : ∀ a b : UInt8, q.take 2 = [a, b] → q = [a, b] ++ q.drop 2 := fun a b h => by rw [← h, List.take_append_drop]
  have one : ∀ a : UInt8, q.take 1 = [a] → q = [a] ++ q.drop 1 := fun a h => by rw [← h, List.take_append_drop]
  split
  · next h => exact ⟨by decide, by decide, two _ _ h⟩
  · split
    · next h => exact ⟨by decide, by decide, two _ _ h⟩
    · split
      · next h => exact ⟨by decide, by decide, one _ h⟩
      · split
        · next h => exact ⟨by decide, by decide, two _ _ h⟩
        · split
          · next h => exact ⟨by decide, by decide, two _ _ h⟩
          · next h1 h2 h3 h4 h5 =>
            rw [if_neg h1, if_neg h2, if_neg h3, if_neg h4, if_neg h5] at hk
            exact absurd rfl hk
theorem sgn_cls : ∀ k, 1 ≤ k → k ≤ 5 → (∀ b ∈ sgn k, cls b = 3) ∧ relOf (sgn k) = k ∧ sgn k ≠ [] := by
  intro k h1 h2
  have : k = 1 ∨ k = 2 ∨ k = 3 ∨ k = 4 ∨ k = 5 := by omega
  rcases this with rfl | rfl | rfl | rfl | rfl <;> decide
theorem relOf_sgn {t : Bs} {k : Nat} (h : relOf t = k) (hk : k ≠ 0) : t = sgn k ∧ 1 ≤ k ∧ k ≤ 5 := by
  subst h
  unfold relOf at *
  split
  · next h => exact ⟨h, by decide, by decide⟩
  · split
    · next h => exact ⟨h, by decide, by decide⟩
    · split
      · next h => exact ⟨h, by decide, by decide⟩
      · split
        · next h => exact ⟨h, by decide, by decide⟩
        · split
          · next h => exact ⟨h, by decide, by decide⟩
          · next h1 h2 h3 h4 h5 =>
            rw [if_neg h1, if_neg h2, if_neg h3, if_neg h4, if_neg h5] at hk
            exact absurd rfl hk
theorem sgn_more {k : Nat} {x : UInt8} {t : Bs} (h1 : 1 ≤ k) (h2 : k ≤ 5) : relOf (sgn k ++ x :: t) = 0 := by
  have : k = 1 ∨ k = 2 ∨ k = 3 ∨ k = 4 ∨ k = 5 := by omega
  cases hz : relOf (sgn k ++ x :: t) with
  | zero => rfl
  | succ m =>
    exfalso
    obtain ⟨e, a, b⟩ := relOf_sgn hz (by omega)
    have hm : m = 0 ∨ m = 1 ∨ m = 2 ∨ m = 3 ∨ m = 4 := by omega
    rcases this with rfl | rfl | rfl | rfl | rfl <;> rcases hm with rfl | rfl | rfl | rfl | rfl <;> simp [sgn] at e
theorem take_app {p : UInt8 → Bool} : ∀ (a b : Bs), (∀ x ∈ a, p x = true) → (a ++ b).takeWhile p = a ++ b.takeWhile p ∧ (a ++ b).dropWhile p = b.dropWhile p
  | [], b, _ => ⟨rfl, rfl⟩
  | x :: a, b, h => by
    have hx := h x (by simp)
    have := take_app a b (fun y hy => h y (List.mem_cons_of_mem _ hy))
    rw [List.cons_append, List.takeWhile_cons, List.dropWhile_cons, if_pos hx, if_pos hx, this.1, this.2]
    exact ⟨rfl, rfl⟩
/-- Behind a bracket: which relation the first word is of. -/
theorem rel_word (q : Bs) (hq : ∀ b r, q = b :: r → cls b ≠ 1) : (relP q = 0 → relOf (wordT (toks q)).1 = 0) ∧ (relP q ≠ 0 → (∀ x r, q.drop (sgn (relP q)).length = x :: r → cls x ≠ 3) → toks q = sgn (relP q) :: toks (q.drop (sgn (relP q)).length)) ∧ (relP q ≠ 0 → (∃ x r, q.drop (sgn (relP q)).length = x :: r ∧ cls x = 3) → relOf (wordT (toks q)).1 = 0) := by
  refine ⟨fun h => ?_, fun h hx => ?_, fun h hx => ?_⟩
  · cases hz : relOf (wordT (toks q)).1 with
    | zero => rfl
    | succ m =>
      exfalso
      obtain ⟨e, a, b⟩ := relOf_sgn hz (by omega)
      obtain ⟨hc, _, hn⟩ := sgn_cls _ a b
      cases q with
      | nil => rw [toks_nil] at e; exact hn e.symm
      | cons y r =>
        have hy := hq y r rfl
        have hhead : (wordT (toks (y :: r))).1.head? = some y := by
          by_cases h2 : cls y = 2
          · rw [toks_mark h2]; rfl
          · rw [toks_run rfl hy h2, List.takeWhile_cons, if_pos (by simp)]; rfl
        have hy3 : cls y = 3 := by
          rw [e] at hhead
          exact hc y (List.mem_of_mem_head? hhead)
        rw [toks_run hy3 (by omega) (by omega)] at e
        have e2 : (y :: r).takeWhile (fun b => cls b == 3) = sgn (m + 1) := e
        have e3 : y :: r = sgn (m + 1) ++ (y :: r).dropWhile (fun b => cls b == 3) := by rw [← e2, List.takeWhile_append_dropWhile]
        have : m + 1 = 1 ∨ m + 1 = 2 ∨ m + 1 = 3 ∨ m + 1 = 4 ∨ m + 1 = 5 := by omega
        rcases this with h9 | h9 | h9 | h9 | h9 <;> (rw [h9] at e3; rw [e3] at h; simp [relP, sgn] at h)
  · obtain ⟨a, b, e⟩ := relP_some rfl h
    obtain ⟨hc, _, hn⟩ := sgn_cls _ a b
    generalize relP q = k at *
    generalize q.drop (sgn k).length = r at *
    subst e
    obtain ⟨y, t, hs⟩ : ∃ y t, sgn k = y :: t := by cases h : sgn k with | nil => exact absurd h hn | cons y t => exact ⟨y, t, rfl⟩
    have hy3 : cls y = 3 := hc y (by rw [hs]; simp)
    have := toks_run (b := y) (r := t ++ r) hy3 (by omega) (by omega)
    rw [← List.cons_append, ← hs] at this
    rw [this]
    have h9 := take_app (p := fun b => cls b == 3) (sgn k) r (fun x hx => by simpa using hc x hx)
    rw [h9.1, h9.2]
    cases r with
    | nil => simp
    | cons x r =>
      have h3 : (cls x == 3) = false := by simpa using hx x r rfl
      rw [List.takeWhile_cons, List.dropWhile_cons, h3]; simp
  · obtain ⟨a, b, e⟩ := relP_some rfl h
    obtain ⟨hc, _, hn⟩ := sgn_cls _ a b
    obtain ⟨x, r, hr, h3⟩ := hx
    generalize relP q = k at *
    rw [hr] at e
    subst e
    obtain ⟨y, t, hs⟩ : ∃ y t, sgn k = y :: t := by cases h : sgn k with | nil => exact absurd h hn | cons y t => exact ⟨y, t, rfl⟩
    have hy3 : cls y = 3 := hc y (by rw [hs]; simp)
    have := toks_run (b := y) (r := t ++ x :: r) hy3 (by omega) (by omega)
    rw [← List.cons_append, ← hs] at this
    rw [this]
    have h9 := take_app (p := fun b => cls b == 3) (sgn k) (x :: r) (fun x hx => by simpa using hc x hx)
    rw [h9.1, List.takeWhile_cons, if_pos (by simpa using h3)]
    exact sgn_more a b
theorem rel_le (q : Bs) : relP q ≤ 5 := by
  by_cases h : relP q = 0
  · omega
  · exact (relP_some rfl h).2.1
theorem skw_skw (l : Bs) : skw (skw l) = skw l := by
  cases h : skw l with
  | nil => rfl
  | cons b r =>
    show (b :: r).dropWhile wh = _
    rw [List.dropWhile_cons, wh_false (skw_head h)]; simp
theorem may_no {a : Atm} (h : mayA nm ver a = false) : may1 nm ver a = none := by unfold may1; rw [h]; rfl
theorem may_yes {a : Atm} (h : mayA nm ver a = true) : may1 nm ver a = some a := by unfold may1; rw [h]; rfl
theorem parP_rel {n : Bs} {T : List Bs} (h : relOf (wordT T).1 = 0) : (parP nm ver n T).1 = none := by unfold parP; rw [if_pos h]
theorem parP_go {n t : Bs} {T : List Bs} {k : Nat} (h : relOf t = k) (hk : k ≠ 0) : parP nm ver n (t :: T) = match isT [41] (wordT T).2 with | none => (none, (wordT T).2) | some T5 => (may1 nm ver ⟨n, k, (wordT T).1⟩, T5) := by
  subst h
  have e : relOf (wordT (t :: T)).1 ≠ 0 := hk
  unfold parP
  rw [if_neg e]; rfl
/-- What the words say of an atom in brackets. -/
theorem paren (hv : Plain ver) (n : Bs) (hn : nm n = true) (l : Bs) : match parR ver l with
    | some (k, v, q) => parP nm ver n (toks l) = (some ⟨n, k, v⟩, toks q)
    | none => (parP nm ver n (toks l)).1 = none := by
  rw [← toks_skw l]
  unfold parR
  have hw := rel_word (skw l) (fun b q h => skw_head h)
  have hle := rel_le (skw l)
  have hsg := sgn_cls (relP (skw l))
  generalize skw l = q at *
  obtain ⟨w0, w1, w2⟩ := hw
  generalize relP q = k at *
  generalize q.drop (sgn k).length = q2 at *
  by_cases h0 : k = 0
  · rw [if_pos (.inl h0)]
    exact parP_rel (w0 h0)
  · by_cases hs : ∃ x t, q2 = x :: t ∧ cls x = 3
    · obtain ⟨x, t, rfl, h3⟩ := hs
      have h1 : skw (x :: t) = x :: t := by
        show (x :: t).dropWhile wh = _
        rw [List.dropWhile_cons, wh_false (by omega)]; simp
      have hvf : ver ((x :: t).takeWhile ink) = false := by
        have : ink x = true := by simp [ink, h3]
        rw [List.takeWhile_cons, if_pos this]
        cases h9 : ver (x :: List.takeWhile ink t) with
        | false => rfl
        | true => have := hv.word _ h9 x (by simp); omega
      rw [h1, if_pos (.inr hvf)]
      exact parP_rel (w2 h0 ⟨x, t, rfl, h3⟩)
    · have hx : ∀ x t, q2 = x :: t → cls x ≠ 3 := fun x t e h3 => hs ⟨x, t, e, h3⟩
      have ht := w1 h0 hx
      have hrel : relOf (sgn k) = k := (hsg (by omega) hle).2.1
      rw [ht, parP_go hrel h0]
      by_cases hvv : ver ((skw q2).takeWhile ink) = true
      · rw [if_neg (by rw [hvv]; simp [h0]), word_plain hv hvv]
        have him := isT_mark (m := 41) (by decide) ((skw q2).dropWhile ink)
        cases h5 : skw ((skw q2).dropWhile ink) with
        | nil =>
          rw [h5] at him
          simp only [wordT]
          rw [him]
        | cons c q5 =>
          rw [h5] at him
          by_cases hc : c = 41
          · simp only [hc, if_true] at him ⊢
            simp only [wordT]
            have hm : mayA nm ver ⟨n, k, (skw q2).takeWhile ink⟩ = true := by
              unfold mayA
              rw [hn, if_neg h0, hvv, decide_eq_true hle]; rfl
            rw [him, may_yes hm]
          · simp only [if_neg hc] at him ⊢
            simp only [wordT]
            rw [him]
      · have hvf : ver ((skw q2).takeWhile ink) = false := by simpa using hvv
        rw [if_pos (.inr hvf)]
        rcases word_not hv hvf with h9 | h9
        · cases h5 : isT [41] (wordT (toks q2)).2 with
          | none => rfl
          | some T5 =>
            have hm : mayA nm ver ⟨n, k, (wordT (toks q2)).1⟩ = false := by
              unfold mayA
              rw [hn, if_neg h0, h9]; simp
            simp only [may_no hm]
        · rw [h9.isT (by decide)]
theorem atom_sim (hN : Plain nm) (hv : Plain ver) (l : Bs) : match atomR nm ver l with
    | some (a, l1) => atomP nm ver (toks l) = (some a, toks l1)
    | none => (atomP nm ver (toks l)).1 = none ∨ ∃ a T, atomP nm ver (toks l) = (some a, T) ∧ Sgn T := by
  unfold atomR
  by_cases hw : nm ((skw l).takeWhile ink) = true
  · rw [if_pos hw]
    have ht := word_plain hN hw
    have hmay : mayA nm ver ⟨(skw l).takeWhile ink, 0, []⟩ = true := by unfold mayA; rw [hw]; rfl
    have him := isT_mark (m := 40) (by decide) ((skw l).dropWhile ink)
    cases h5 : skw ((skw l).dropWhile ink) with
    | nil =>
      rw [h5] at him
      show atomP nm ver (toks l) = (some _, toks [])
      rw [ht]
      unfold atomP
      simp only [wordT]
      rw [him, ← toks_skw ((skw l).dropWhile ink), h5]
      simp only [may_yes hmay]
    | cons b r =>
      rw [h5] at him
      by_cases hb : b = 40
      · subst hb
        simp only [if_true] at him ⊢
        have hp := paren (nm := nm) hv _ hw r
        have hat : atomP nm ver (toks l) = parP nm ver ((skw l).takeWhile ink) (toks r) := by
          rw [ht]
          unfold atomP
          simp only [wordT]
          rw [him]
        rw [hat]
        cases hz : parR ver r with
        | none => rw [hz] at hp; exact .inl hp
        | some o => obtain ⟨k, v, q⟩ := o; rw [hz] at hp; exact hp
      · simp only [if_neg hb] at him ⊢
        rw [ht]
        unfold atomP
        simp only [wordT]
        rw [him, ← toks_skw ((skw l).dropWhile ink), h5]
        simp only [may_yes hmay]
  · have hwf : nm ((skw l).takeWhile ink) = false := by simpa using hw
    rw [if_neg hw]
    show (atomP nm ver (toks l)).1 = none ∨ _
    rcases word_not hN hwf with h9 | h9
    · refine .inl ?_
      have hm : ∀ k v, mayA nm ver ⟨(wordT (toks l)).1, k, v⟩ = false := fun k v => by unfold mayA; rw [h9]; rfl
      unfold atomP
      cases isT [40] (wordT (toks l)).2 with
      | none => simp only [may_no (hm _ _)]
      | some T2 =>
        simp only
        unfold parP
        split
        · rfl
        · cases isT [41] (wordT (wordT T2).2).2 with
          | none => rfl
          | some T5 => simp only [may_no (hm _ _)]
    · unfold atomP
      rw [h9.isT (by decide)]
      cases hm : mayA nm ver ⟨(wordT (toks l)).1, 0, []⟩ with
      | false => simp only [may_no hm]; exact .inl trivial
      | true => simp only [may_yes hm]; exact .inr ⟨_, _, rfl, h9⟩
end
/-- What reading comes to: too many, out of form, or so. -/
inductive Rd (α : Type) where
  | many
  | form
  | ok (x : α)
deriving DecidableEq
section
variable (nm ver : Bs → Bool) (may : Atm → Bool) (one : Bool)
/-- The program's clause, of so many atoms more at most. -/
def clauseP : Nat → List Bs → List Atm → Rd (List Atm × List Bs)
  | 0, _, _ => .many
  | d + 1, T, out =>
    match atomP nm ver T with
    | (none, _) => .form
    | (some a, T1) => if may a then (if one then .ok (out ++ [a], T1) else match isT [124] T1 with | none => .ok (out ++ [a], T1) | some T2 => clauseP d T2 (out ++ [a])) else .form
/-- The program's clauses, so many more at most. -/
def parseP : Nat → List Bs → List (List Atm) → Rd (List (List Atm))
  | 0, _, _ => .many
  | d + 1, T, out =>
    match clauseP nm ver may one 6 T [] with
    | .many => .many
    | .form => .form
    | .ok (c, T1) => if T1 = [] then .ok (out ++ [c]) else match isT [44] T1 with | none => .form | some T2 => parseP d T2 (out ++ [c])
def allP (l : Bs) : Rd (List (List Atm)) := if toks l = [] then .ok [] else parseP nm ver may one 12 (toks l) []
/-- The reference's clause. -/
def clauseR : Nat → Bs → List Atm → Rd (List Atm × Bs)
  | 0, _, _ => .many
  | d + 1, l, out =>
    match atomR nm ver l with
    | none => .form
    | some (a, l1) => if may a then (if one then .ok (out ++ [a], l1) else match skw l1 with | [] => .ok (out ++ [a], []) | b :: r => if b = 124 then clauseR d r (out ++ [a]) else .ok (out ++ [a], b :: r)) else .form
/-- The reference's clauses. -/
def parseR : Nat → Bs → List (List Atm) → Rd (List (List Atm))
  | 0, _, _ => .many
  | d + 1, l, out =>
    match clauseR nm ver may one 6 l [] with
    | .many => .many
    | .form => .form
    | .ok (c, l1) => match skw l1 with | [] => .ok (out ++ [c]) | b :: r => if b = 44 then parseR d r (out ++ [c]) else .form
def allR (l : Bs) : Rd (List (List Atm)) := match skw l with | [] => .ok [] | b :: r => parseR nm ver may one 12 (b :: r) []
end
section
variable {nm ver : Bs → Bool} {may : Atm → Bool} {one : Bool}
theorem toks_ne {b : UInt8} {r : Bs} (h : cls b ≠ 1) : toks (b :: r) ≠ [] := by
  by_cases h2 : cls b = 2
  · rw [toks_mark h2]; simp
  · rw [toks_run rfl h h2]; simp
theorem Sgn.ne {T : List Bs} (h : Sgn T) : T ≠ [] := by
  obtain ⟨x, t, R, rfl, _⟩ := h; simp
theorem clause_sim (hN : Plain nm) (hv : Plain ver) : ∀ (d : Nat) (l : Bs) (out : List Atm), match clauseR nm ver may one d l out with
    | .many => clauseP nm ver may one d (toks l) out = .many
    | .form => clauseP nm ver may one d (toks l) out = .form ∨ ∃ c T, clauseP nm ver may one d (toks l) out = .ok (c, T) ∧ Sgn T
    | .ok (c, l1) => clauseP nm ver may one d (toks l) out = .ok (c, toks l1)
  | 0, l, out => rfl
  | d + 1, l, out => by
    have ha := atom_sim (nm := nm) (ver := ver) hN hv l
    unfold clauseR clauseP
    cases hz : atomR nm ver l with
    | none =>
      rw [hz] at ha
      rcases ha with ha | ⟨a, T, ha, hs⟩
      · have : ∃ T, atomP nm ver (toks l) = (none, T) := ⟨_, Prod.ext ha rfl⟩
        obtain ⟨T, hT⟩ := this
        rw [hT]; exact .inl rfl
      · rw [ha]
        simp only
        cases may a with
        | false => exact .inl rfl
        | true =>
          simp only [if_true]
          by_cases ho : one = true
          · simp only [if_pos ho]; exact .inr ⟨_, _, rfl, hs⟩
          · simp only [if_neg ho]
            rw [hs.isT (by decide)]
            exact .inr ⟨_, _, rfl, hs⟩
    | some o =>
      obtain ⟨a, l1⟩ := o
      rw [hz] at ha
      simp only at ha
      rw [ha]
      simp only
      cases may a with
      | false => exact .inl rfl
      | true =>
        simp only [if_true]
        by_cases ho : one = true
        · simp only [if_pos ho]
        · simp only [if_neg ho]
          have him := isT_mark (m := 124) (by decide) l1
          cases h5 : skw l1 with
          | nil =>
            rw [h5] at him
            simp only at him
            rw [him]
            show Rd.ok _ = Rd.ok (_, toks [])
            rw [← toks_skw l1, h5]
          | cons b r =>
            rw [h5] at him
            by_cases hb : b = 124
            · simp only [hb, if_true] at him ⊢
              rw [him]
              exact clause_sim hN hv d r (out ++ [a])
            · simp only [if_neg hb] at him ⊢
              rw [him, ← toks_skw l1, h5]
theorem parse_sim (hN : Plain nm) (hv : Plain ver) : ∀ (d : Nat) (l : Bs) (out : List (List Atm)), parseP nm ver may one d (toks l) out = parseR nm ver may one d l out
  | 0, l, out => rfl
  | d + 1, l, out => by
    have ha := clause_sim (nm := nm) (ver := ver) (may := may) (one := one) hN hv 6 l []
    unfold parseR parseP
    cases hz : clauseR nm ver may one 6 l [] with
    | many => rw [hz] at ha; simp only at ha; rw [ha]
    | form =>
      rw [hz] at ha
      rcases ha with ha | ⟨c, T, ha, hs⟩
      · rw [ha]
      · rw [ha]
        simp only
        rw [if_neg hs.ne, hs.isT (by decide)]
    | ok o =>
      obtain ⟨c, l1⟩ := o
      rw [hz] at ha
      simp only at ha
      rw [ha]
      simp only
      have him := isT_mark (m := 44) (by decide) l1
      cases h5 : skw l1 with
      | nil => rw [← toks_skw l1, h5, toks_nil, if_pos rfl]
      | cons b r =>
        rw [h5] at him
        have hne : toks l1 ≠ [] := by rw [← toks_skw l1, h5]; exact toks_ne (skw_head h5)
        rw [if_neg hne]
        by_cases hb : b = 44
        · simp only [hb, if_true] at him ⊢
          rw [him]
          exact parse_sim hN hv d r (out ++ [c])
        · simp only [if_neg hb] at him ⊢
          rw [him]
theorem all_sim (hN : Plain nm) (hv : Plain ver) (l : Bs) : allP nm ver may one l = allR nm ver may one l := by
  unfold allP allR
  rw [← toks_skw l]
  cases h5 : skw l with
  | nil => rfl
  | cons b r => rw [if_neg (toks_ne (skw_head h5)), parse_sim hN hv]
end
end Rl
end Go.Proofs.YtjkaigfpjebfbaaGreatDoor
