/- sat: the plain law of the search. -/
import Derived.Test.YtghfelfljblkbaaFirst
import Derived.Test.YtghfelfljblkbaaMk
namespace Go.Proofs.Ytghfelfljblkbaa
open Go.RowKit Go.Sort
set_option linter.unusedVariables false
namespace Sr

/-- The first variable that is neither true nor false; 0: there is none. -/
def openV (n : Nat) (T : List Int) : Nat := match (List.range n).find? (fun (i : Nat) => decide (Pr.ofT T ((i : Int) + 1) = 0)) with | some i => i + 1 | none => 0
theorem openV_some {n : Nat} {T : List Int} {v : Nat} (h : openV n T = v) (h0 : v ≠ 0) : v ≤ n ∧ Pr.ofT T (v : Int) = 0 ∧ ∀ u, 1 ≤ u → u < v → Pr.ofT T (u : Int) ≠ 0 := by
  unfold openV at h
  split at h
  · rename_i i hi
    obtain ⟨h1, h2⟩ := List.find?_eq_some_iff_getElem.1 hi
    obtain ⟨j, hj, e, h3⟩ := h2
    rw [List.getElem_range] at e
    subst e
    have hjn : j < n := by simpa using hj
    subst h
    refine ⟨by omega, by have := of_decide_eq_true h1; rw [← this]; congr 1, fun u hu1 hu2 hu3 => ?_⟩
    have := h3 (u - 1) (by omega)
    rw [List.getElem_range] at this
    have e2 : (((u - 1 : Nat) : Int) + 1) = (u : Int) := by omega
    rw [e2, hu3] at this
    simp at this
  · exact absurd h.symm h0
theorem openV_none {n : Nat} {T : List Int} (h : openV n T = 0) : ∀ u, 1 ≤ u → u ≤ n → Pr.ofT T (u : Int) ≠ 0 := by
  unfold openV at h
  split at h
  · omega
  · rename_i hi
    intro u hu1 hu2 hu3
    have := List.find?_eq_none.1 hi (u - 1) (by simp; omega)
    have e2 : (((u - 1 : Nat) : Int) + 1) = (u : Int) := by omega
    rw [e2, hu3] at this
    simp at this
theorem openV_at {n v : Nat} {T : List Int} (h1 : 1 ≤ v) (h2 : v ≤ n) (h3 : Pr.ofT T (v : Int) = 0) (h4 : ∀ u, 1 ≤ u → u < v → Pr.ofT T (u : Int) ≠ 0) : openV n T = v := by
  by_cases h0 : openV n T = 0
  · exact absurd h3 (openV_none h0 v h1 h2)
  · obtain ⟨a, b, c⟩ := openV_some rfl h0
    rcases Nat.lt_trichotomy (openV n T) v with h | h | h
    · exact absurd b (h4 _ (by omega) h)
    · exact h
    · exact absurd h3 (c v h1 h)
theorem openV_not {n : Nat} {T : List Int} (h : ∀ u, 1 ≤ u → u ≤ n → Pr.ofT T (u : Int) ≠ 0) : openV n T = 0 := by
  refine Classical.byContradiction fun h0 => ?_
  obtain ⟨a, b, _⟩ := openV_some rfl h0
  exact h _ (by omega) a b
/-- What was chosen, the last first; and the trail ahead of it. -/
abbrev Stk := List (Int × List Int)
def lits (S : Stk) : List Int := S.map fun e => -e.1
def back : Stk → Option (Int × List Int × Stk)
  | [] => none
  | (c, Tp) :: S => if 0 < c then some (c, Tp, S) else back S
inductive Res | no | over | yes (T : List Int)
/-- next. -/
inductive Run (L : List (List Int)) (n : Nat) (b : Int) : List Int → Stk → Nat → Res → Nat → Prop
  | fail {T : List Int} {S : Stk} {s : Nat} : 0 ≤ Pr.clash L T → back S = none → Run L n b T S s .no s
  | again {T Tp T' : List Int} {S S2 : Stk} {s f : Nat} {v : Int} {r : Res} : 0 ≤ Pr.clash L T → back S = some (v, Tp, S2) → Pr.Fol L (Tp ++ [v]) T' → Run L n b T' ((-v, Tp) :: S2) s r f → Run L n b T S s r f
  | done {T : List Int} {S : Stk} {s : Nat} : Pr.clash L T < 0 → openV n T = 0 → Run L n b T S s (.yes T) s
  | over {T : List Int} {S : Stk} {s : Nat} : Pr.clash L T < 0 → openV n T ≠ 0 → 0 < b → b < (s : Int) + 1 → Run L n b T S s .over (s + 1)
  | next {T T' : List Int} {S : Stk} {s f : Nat} {r : Res} : Pr.clash L T < 0 → openV n T ≠ 0 → ¬ (0 < b ∧ b < (s : Int) + 1) → Pr.Fol L (T ++ [-(openV n T : Int)]) T' → Run L n b T' (((openV n T : Int), T) :: S) (s + 1) r f → Run L n b T S s r f
theorem run_det {L : List (List Int)} {n : Nat} {b : Int} {T : List Int} {S : Stk} {s f f' : Nat} {r r' : Res} (h : Run L n b T S s r f) (h' : Run L n b T S s r' f') : r = r' ∧ f = f' := by
  induction h generalizing r' f' with
  | fail h1 h2 =>
    cases h' with
    | fail _ _ => exact ⟨rfl, rfl⟩
    | again _ a _ _ => rw [h2] at a; cases a
    | done a _ => omega
    | over a _ _ _ => omega
    | next a _ _ _ _ => omega
  | again h1 h2 h3 _ ih =>
    cases h' with
    | fail _ a => rw [h2] at a; cases a
    | again _ a a2 a3 =>
      rw [h2] at a
      cases a
      obtain rfl := Pr.fol_det h3 a2
      exact ih a3
    | done a _ => omega
    | over a _ _ _ => omega
    | next a _ _ _ _ => omega
  | done h1 h2 =>
    cases h' with
    | fail a _ => omega
    | again a _ _ _ => omega
    | done _ _ => exact ⟨rfl, rfl⟩
    | over _ a _ _ => exact absurd h2 a
    | next _ a _ _ _ => exact absurd h2 a
  | over h1 h2 h3 h4 =>
    cases h' with
    | fail a _ => omega
    | again a _ _ _ => omega
    | done _ a => exact absurd a h2
    | over _ _ _ _ => exact ⟨rfl, rfl⟩
    | next _ _ a _ _ => exact absurd ⟨h3, h4⟩ a
  | next h1 h2 h3 h4 _ ih =>
    cases h' with
    | fail a _ => omega
    | again a _ _ _ => omega
    | done _ a => exact absurd a h2
    | over _ _ a a2 => exact absurd ⟨a, a2⟩ h3
    | next _ _ _ a a2 =>
      obtain rfl := Pr.fol_det h4 a
      exact ih a2
theorem run_le {L : List (List Int)} {n : Nat} {b : Int} {T : List Int} {S : Stk} {s f : Nat} {r : Res} (h : Run L n b T S s r f) : s ≤ f := by
  induction h with
  | fail _ _ => exact Nat.le_refl _
  | again _ _ _ _ ih => exact ih
  | done _ _ => exact Nat.le_refl _
  | over _ _ _ _ => exact Nat.le_succ _
  | next _ _ _ _ _ ih => omega
/-- Without a budget nothing is over. -/
theorem run_free {L : List (List Int)} {n : Nat} {b : Int} {T : List Int} {S : Stk} {s f : Nat} {r : Res} (h : Run L n b T S s r f) (hb : b ≤ 0) : r ≠ .over := by
  induction h with
  | fail _ _ => intro h; cases h
  | again _ _ _ _ ih => exact ih
  | done _ _ => intro h; cases h
  | over _ _ h _ => omega
  | next _ _ _ _ _ ih => exact ih
/-- A budget that is enough tells what none tells. -/
theorem run_any {L : List (List Int)} {n : Nat} {b : Int} {T : List Int} {S : Stk} {s f : Nat} {r : Res} (h : Run L n b T S s r f) (hr : r ≠ .over) {b' : Int} (hb : b' ≤ 0 ∨ (f : Int) ≤ b') : Run L n b' T S s r f := by
  induction h with
  | fail h1 h2 => exact .fail h1 h2
  | again h1 h2 h3 _ ih => exact .again h1 h2 h3 (ih hr hb)
  | done h1 h2 => exact .done h1 h2
  | over _ _ _ _ => exact absurd rfl hr
  | next h1 h2 _ h4 h5 ih =>
    have := run_le h5
    exact .next h1 h2 (by omega) h4 (ih hr hb)
/-- A budget that is not enough tells that. -/
theorem run_short {L : List (List Int)} {n : Nat} {b : Int} {T : List Int} {S : Stk} {s f : Nat} {r : Res} (h : Run L n b T S s r f) (hr : r ≠ .over) {b' : Int} (h0 : 0 < b') (hs : (s : Int) ≤ b') (hb : b' < (f : Int)) : ∃ f', Run L n b' T S s .over f' := by
  induction h with
  | fail _ _ => omega
  | again h1 h2 h3 _ ih =>
    obtain ⟨f', h⟩ := ih hr hs hb
    exact ⟨f', .again h1 h2 h3 h⟩
  | done _ _ => omega
  | over _ _ _ _ => exact absurd rfl hr
  | @next T T' S s f r h1 h2 _ h4 _ ih =>
    by_cases hc : b' < (s : Int) + 1
    · exact ⟨_, .over h1 h2 h0 hc⟩
    · obtain ⟨f', h⟩ := ih hr (by omega) hb
      exact ⟨f', .next h1 h2 (by omega) h4 h⟩
/-- How many choices may still be made. -/
def V (d : Nat) : Nat := 2 ^ d - 1
theorem V_succ (d : Nat) : V (d + 1) = 2 * V d + 1 := by
  unfold V
  have := Nat.one_le_two_pow (n := d)
  rw [Nat.pow_succ]
  omega
def pot (F : Nat → Nat) (n : Nat) : Stk → Nat
  | [] => 0
  | (c, _) :: S => pot F n S + if 0 < c then F (n - S.length - 1) else 0
theorem back_pot {F : Nat → Nat} {n : Nat} {v : Int} {Tp : List Int} {S2 : Stk} : ∀ {S : Stk}, back S = some (v, Tp, S2) → 0 < v ∧ S2.length < S.length ∧ pot F n S2 + F (n - S2.length - 1) ≤ pot F n S
  | [], h => by cases h
  | (c, Tc) :: S, h => by
    unfold back at h
    by_cases hc : 0 < c
    · rw [if_pos hc] at h
      injection h with h
      injection h with h1 h2
      injection h2 with h2 h3
      subst h1
      subst h2
      subst h3
      refine ⟨hc, by simp, ?_⟩
      show pot F n S + F (n - S.length - 1) ≤ pot F n S + (if 0 < c then F (n - S.length - 1) else 0)
      rw [if_pos hc]
      exact Nat.le_refl _
    · rw [if_neg hc] at h
      obtain ⟨a, b, c⟩ := back_pot (F := F) (n := n) h
      refine ⟨a, by simp; omega, ?_⟩
      show _ ≤ pot F n S + _
      omega
/-- The stack fits the trail: each trail begins the next. -/
def Pre : List Int → Stk → Prop
  | _, [] => True
  | T, (_, Tp) :: S => Tp <+: T ∧ Tp.length < T.length ∧ Pre Tp S
theorem Pre.len {T : List Int} : ∀ {S : Stk}, Pre T S → S.length ≤ T.length := by
  intro S
  induction S generalizing T with
  | nil => intro _; exact Nat.zero_le _
  | cons e S ih =>
    intro h
    have := ih h.2.2
    have := h.2.1
    simp
    omega
/-- What holds of each choice. -/
def Ent (L : List (List Int)) (n : Nat) : Stk → Prop
  | [] => True
  | (c, Tp) :: S => (openV n Tp : Int) = (c.natAbs : Int) ∧ c ≠ 0 ∧ Pr.clash L Tp < 0 ∧ Un n Tp ∧ Ent L n S
theorem back_pre {L : List (List Int)} {n : Nat} {v : Int} {Tp : List Int} {S2 : Stk} : ∀ {S : Stk} {T : List Int}, back S = some (v, Tp, S2) → Pre T S → Ent L n S → Tp <+: T ∧ Pre Tp S2 ∧ Ent L n S2 ∧ (openV n Tp : Int) = v ∧ 0 < v ∧ Pr.clash L Tp < 0 ∧ Un n Tp
  | [], _, h, _, _ => by cases h
  | (c, Tc) :: S, T, h, hp, he => by
    unfold back at h
    by_cases hc : 0 < c
    · rw [if_pos hc] at h
      cases h
      exact ⟨hp.1, hp.2.2, he.2.2.2.2, by have := he.1; omega, hc, he.2.2.1, he.2.2.2.1⟩
    · rw [if_neg hc] at h
      obtain ⟨a, b⟩ := back_pre h hp.2.2 he.2.2.2.2
      exact ⟨a.trans hp.1, b⟩
theorem open_len {n : Nat} {T : List Int} (hu : Un n T) (h : openV n T ≠ 0) : T.length < n := by
  obtain ⟨a, b, _⟩ := openV_some rfl h
  have := Pr.un_len (Pr.un_snoc (x := (openV n T : Int)) hu (by unfold Cf.va; omega) b)
  rw [List.length_append, List.length_singleton] at this
  omega
theorem pre_push {L : List (List Int)} {T T' : List Int} {S : Stk} {x c : Int} {n : Nat} (hf : Pr.Fol L (T ++ [x]) T') (hL : Pr.Cl n L) (hu : Un n (T ++ [x])) (h : Pre T S) : Pre T' ((c, T) :: S) := by
  have hp := (Pr.fol_un hf hL hu).2
  have := hp.length_le
  rw [List.length_append, List.length_singleton] at this
  exact ⟨(List.prefix_append _ _).trans hp, by omega, h⟩
theorem un_open {n : Nat} {T : List Int} (hu : Un n T) (h : openV n T ≠ 0) : Un n (T ++ [(openV n T : Int)]) ∧ Un n (T ++ [-(openV n T : Int)]) := by
  obtain ⟨a, b, _⟩ := openV_some rfl h
  refine ⟨Pr.un_snoc hu (by unfold Cf.va; omega) b, Pr.un_snoc hu (by unfold Cf.va; omega) ?_⟩
  rw [Pr.ofT_neg hu, b]; rfl
theorem run_cost {L : List (List Int)} {n : Nat} {b : Int} {T : List Int} {S : Stk} {s f : Nat} {r : Res} (h : Run L n b T S s r f) (hr : r ≠ .over) (hL : Pr.Cl n L) : Un n T → Pre T S → Ent L n S → f ≤ s + pot V n S + V (n - S.length) := by
  induction h with
  | fail _ _ => intros; omega
  | @again T Tp T' S S2 s f v r h1 h2 h3 _ ih =>
    intro hu hp he
    obtain ⟨a1, a2, a3, a4, a5, a6, a7⟩ := back_pre h2 hp he
    have hv : openV n Tp ≠ 0 := by omega
    have hun := (un_open a7 hv).1
    rw [a4] at hun
    have := ih hr (Pr.fol_un h3 hL hun).1 (pre_push h3 hL hun a2) ⟨by omega, by omega, a6, a7, a3⟩
    obtain ⟨_, _, hpot⟩ := back_pot (F := V) (n := n) h2
    have e : pot V n ((-v, Tp) :: S2) = pot V n S2 := by
      show pot V n S2 + (if 0 < -v then _ else 0) = _
      rw [if_neg (by omega)]; rfl
    rw [e] at this
    have e2 : n - ((-v, Tp) :: S2).length = n - S2.length - 1 := by simp; omega
    rw [e2] at this
    omega
  | done _ _ => intros; omega
  | over _ _ _ _ => exact absurd rfl hr
  | @next T T' S s f r h1 h2 _ h4 _ ih =>
    intro hu hp he
    have hun := (un_open hu h2).2
    have := ih hr (Pr.fol_un h4 hL hun).1 (pre_push h4 hL hun hp) ⟨by omega, by omega, h1, hu, he⟩
    have e : pot V n (((openV n T : Int), T) :: S) = pot V n S + V (n - S.length - 1) := by
      show pot V n S + (if 0 < _ then _ else 0) = _
      rw [if_pos (by omega)]
    rw [e] at this
    have hl := open_len hu h2
    have hsl := hp.len
    have e2 : n - (((openV n T : Int), T) :: S).length = n - S.length - 1 := by simp; omega
    rw [e2] at this
    have hv := V_succ (n - S.length - 1)
    rw [show n - S.length - 1 + 1 = n - S.length by omega] at hv
    omega
end Sr
end Go.Proofs.Ytghfelfljblkbaa
