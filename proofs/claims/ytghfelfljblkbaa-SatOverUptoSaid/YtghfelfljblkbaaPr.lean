/- prop: the plain model of a trail. -/
import Derived.Test.YtghfelfljblkbaaUn
namespace Go.Proofs.Ytghfelfljblkbaa
open Go.RowKit Go.Sort
set_option linter.unusedVariables false
namespace Pr

/-- A literal's value where T is taken for true. -/
def ofT (T : List Int) (x : Int) : Int := if x ∈ T then 1 else if -x ∈ T then -1 else 0
/-- (*Trail).forced's loop. -/
def frc (T : List Int) : List Int → Int → Int
  | [], out => out
  | x :: r, out => if 0 < ofT T x ∨ (ofT T x = 0 ∧ out ≠ 0) then 0 else if ofT T x = 0 then frc T r x else frc T r out
def forced (T c : List Int) : Int := frc T c 0
/-- One round of follow. -/
def pass : List (List Int) → List Int → Bool → List Int × Bool
  | [], T, m => (T, m)
  | c :: r, T, m => if forced T c = 0 then pass r T m else pass r (T ++ [forced T c]) true
/-- follow. -/
inductive Fol (L : List (List Int)) : List Int → List Int → Prop
  | stop {T T' : List Int} : pass L T false = (T', false) → Fol L T T'
  | more {T T' R : List Int} : pass L T false = (T', true) → Fol L T' R → Fol L T R
def bad (T c : List Int) : Bool := c.all fun x => decide (ofT T x < 0)
/-- The place of the first clause that does not hold. -/
def clash (L : List (List Int)) (T : List Int) : Int := match L.findIdx? (bad T) with | some i => (i : Int) | none => -1

theorem ofT_cases (T : List Int) (x : Int) : (ofT T x = 1 ∧ x ∈ T) ∨ (ofT T x = -1 ∧ x ∉ T ∧ -x ∈ T) ∨ (ofT T x = 0 ∧ x ∉ T ∧ -x ∉ T) := by
  unfold ofT
  by_cases h : x ∈ T
  · rw [if_pos h]; exact .inl ⟨rfl, h⟩
  · rw [if_neg h]
    by_cases h2 : -x ∈ T
    · rw [if_pos h2]; exact .inr (.inl ⟨rfl, h, h2⟩)
    · rw [if_neg h2]; exact .inr (.inr ⟨rfl, h, h2⟩)
theorem un_zero {n : Nat} {T : List Int} (h : Un n T) : (0 : Int) ∉ T := fun h0 => by
  have := (h.in_ 0 h0).1
  unfold Cf.va at this
  omega
theorem un_opp {n : Nat} {T : List Int} (h : Un n T) {x : Int} (h1 : x ∈ T) (h2 : -x ∈ T) : False := by
  have := un_inj h x h1 (-x) h2 (by rw [Cf.va_neg])
  have hx : x = 0 := by omega
  exact un_zero h (hx ▸ h1)
theorem ofT_neg {n : Nat} {T : List Int} (h : Un n T) (x : Int) : ofT T (-x) = -(ofT T x) := by
  rcases ofT_cases T x with ⟨h1, h2⟩ | ⟨h1, h2, h3⟩ | ⟨h1, h2, h3⟩
  · rcases ofT_cases T (-x) with ⟨a1, a2⟩ | ⟨a1, a2, a3⟩ | ⟨a1, a2, a3⟩
    · exact (un_opp h h2 a2).elim
    · rw [h1, a1]
    · rw [Int.neg_neg] at a3; exact absurd h2 a3
  · rcases ofT_cases T (-x) with ⟨a1, a2⟩ | ⟨a1, a2, a3⟩ | ⟨a1, a2, a3⟩
    · rw [h1, a1]; rfl
    · rw [Int.neg_neg] at a3; exact absurd a3 h2
    · exact absurd h3 a2
  · rcases ofT_cases T (-x) with ⟨a1, a2⟩ | ⟨a1, a2, a3⟩ | ⟨a1, a2, a3⟩
    · exact absurd a2 h3
    · rw [Int.neg_neg] at a3; exact absurd a3 h2
    · rw [h1, a1]; rfl
theorem ofT_zero {n : Nat} {T : List Int} (h : Un n T) : ofT T 0 = 0 := by
  unfold ofT
  rw [if_neg (un_zero h), if_neg (by simpa using un_zero h)]
theorem ofT_snoc_ne {T : List Int} {x y : Int} (h1 : y ≠ x) (h2 : y ≠ -x) : ofT (T ++ [x]) y = ofT T y := by
  unfold ofT
  have e1 : (y ∈ T ++ [x]) ↔ y ∈ T := by
    rw [List.mem_append, List.mem_singleton]
    exact ⟨fun h => h.resolve_right h1, .inl⟩
  have e2 : (-y ∈ T ++ [x]) ↔ -y ∈ T := by
    rw [List.mem_append, List.mem_singleton]
    exact ⟨fun h => h.resolve_right (fun e => h2 (by omega)), .inl⟩
  simp only [e1, e2]
theorem ofT_snoc (T : List Int) (x : Int) : ofT (T ++ [x]) x = 1 := by unfold ofT; rw [if_pos (by simp)]
theorem inU_of {T : List Int} {x : Int} (h : ofT T x = 0) : inU x T = false := by
  rcases ofT_cases T x with ⟨h1, _⟩ | ⟨h1, _⟩ | ⟨_, h2, h3⟩
  · omega
  · omega
  unfold inU
  rw [List.any_eq_false]
  intro q hq
  have a1 : x ≠ q := fun e => h2 (e ▸ hq)
  have a2 : x ≠ -q := fun e => h3 (by rw [e, Int.neg_neg]; exact hq)
  simp [a1, a2]
theorem un_snoc {n : Nat} {T : List Int} {x : Int} (h : Un n T) (hx : 1 ≤ Cf.va x ∧ Cf.va x ≤ n) (h0 : ofT T x = 0) : Un n (T ++ [x]) := h.snoc hx (inU_of h0)

theorem frc_good {T : List Int} : ∀ (c : List Int) (out : Int), (∀ y ∈ c, y ≠ 0) → frc T c out ≠ 0 →
    (frc T c out = out ∧ ∀ y ∈ c, ofT T y = -1) ∨ (out = 0 ∧ frc T c out ∈ c ∧ ofT T (frc T c out) = 0 ∧ ∀ y ∈ c, y ≠ frc T c out → ofT T y = -1)
  | [], out, _, _ => .inl ⟨rfl, by simp⟩
  | x :: r, out, hc, h => by
    have hr : ∀ y ∈ r, y ≠ 0 := fun y hy => hc y (List.mem_cons_of_mem _ hy)
    unfold frc at h ⊢
    by_cases h1 : 0 < ofT T x ∨ (ofT T x = 0 ∧ out ≠ 0)
    · rw [if_pos h1] at h; exact absurd rfl h
    · rw [if_neg h1] at h ⊢
      by_cases h2 : ofT T x = 0
      · rw [if_pos h2] at h ⊢
        have ho : out = 0 := by
          rcases Decidable.em (out = 0) with h3 | h3
          · exact h3
          · exact absurd (.inr ⟨h2, h3⟩) h1
        rcases frc_good r x hr h with ⟨a1, a2⟩ | ⟨a1, a2, a3, a4⟩
        · refine .inr ⟨ho, by rw [a1]; simp, by rw [a1]; exact h2, fun y hy hne => ?_⟩
          rw [a1] at hne
          rcases List.mem_cons.1 hy with h5 | h5
          · exact absurd h5 hne
          · exact a2 y h5
        · exact absurd a1 (hc x (by simp))
      · rw [if_neg h2] at h ⊢
        have hx : ofT T x = -1 := by
          rcases ofT_cases T x with ⟨b1, _⟩ | ⟨b1, _⟩ | ⟨b1, _⟩
          · exact absurd (.inl (by omega)) h1
          · exact b1
          · exact absurd b1 h2
        rcases frc_good r out hr h with ⟨a1, a2⟩ | ⟨a1, a2, a3, a4⟩
        · refine .inl ⟨a1, fun y hy => ?_⟩
          rcases List.mem_cons.1 hy with h5 | h5
          · rw [h5]; exact hx
          · exact a2 y h5
        · refine .inr ⟨a1, List.mem_cons_of_mem _ a2, a3, fun y hy hne => ?_⟩
          rcases List.mem_cons.1 hy with h5 | h5
          · rw [h5]; exact hx
          · exact a4 y h5 hne
theorem forced_good {T c : List Int} (hc : ∀ y ∈ c, y ≠ 0) (h : forced T c ≠ 0) : forced T c ∈ c ∧ ofT T (forced T c) = 0 ∧ ∀ y ∈ c, y ≠ forced T c → ofT T y = -1 := by
  rcases frc_good c 0 hc h with ⟨a1, _⟩ | ⟨_, a⟩
  · exact absurd a1 h
  · exact a

/-- Clauses whose literals are of variables. -/
def Cl (n : Nat) (L : List (List Int)) : Prop := ∀ c ∈ L, ∀ y ∈ c, 1 ≤ Cf.va y ∧ Cf.va y ≤ n
theorem Cl.nz {n : Nat} {L : List (List Int)} (h : Cl n L) {c : List Int} (hc : c ∈ L) : ∀ y ∈ c, y ≠ 0 := fun y hy h0 => by
  have := (h c hc y hy).1
  rw [h0] at this
  unfold Cf.va at this
  omega
theorem take_un {n : Nat} {T c : List Int} (h : Un n T) (hc : ∀ y ∈ c, 1 ≤ Cf.va y ∧ Cf.va y ≤ n) (hf : forced T c ≠ 0) : Un n (T ++ [forced T c]) := by
  have hz : ∀ y ∈ c, y ≠ 0 := fun y hy h0 => by
    have := (hc y hy).1
    rw [h0] at this
    unfold Cf.va at this
    omega
  have := forced_good hz hf
  exact un_snoc h (hc _ this.1) this.2.1
theorem pass_un {n : Nat} : ∀ {L : List (List Int)} {T : List Int} {m : Bool}, Un n T → Cl n L → Un n (pass L T m).1 ∧ T <+: (pass L T m).1 ∧ ((pass L T m).2 = true → m = true ∨ T.length < (pass L T m).1.length) ∧ ((pass L T m).2 = false → m = false ∧ (pass L T m).1 = T)
  | [], T, m, h, _ => ⟨h, List.prefix_refl _, .inl, fun h => ⟨h, rfl⟩⟩
  | c :: r, T, m, h, hL => by
    have hr : Cl n r := fun d hd => hL d (List.mem_cons_of_mem _ hd)
    unfold pass
    by_cases hf : forced T c = 0
    · rw [if_pos hf]; exact pass_un h hr
    · rw [if_neg hf]
      obtain ⟨a1, a2, a3, a4⟩ := pass_un (m := true) (take_un h (hL c (by simp)) hf) hr
      refine ⟨a1, (List.prefix_append _ _).trans a2, fun _ => .inr ?_, fun h9 => ?_⟩
      · have := a2.length_le
        rw [List.length_append, List.length_singleton] at this
        omega
      · exact absurd (a4 h9).1 (by decide)
theorem fol_un {n : Nat} {L : List (List Int)} {T R : List Int} (hf : Fol L T R) (hL : Cl n L) : Un n T → Un n R ∧ T <+: R := by
  induction hf with
  | stop h => intro hT; have := pass_un (m := false) hT hL; rw [h] at this; exact ⟨this.1, this.2.1⟩
  | more h _ ih =>
    intro hT
    have := pass_un (m := false) hT hL
    rw [h] at this
    have h2 := ih this.1
    exact ⟨h2.1, this.2.1.trans h2.2⟩
theorem fol_det {L : List (List Int)} {T R R' : List Int} (h : Fol L T R) (h' : Fol L T R') : R = R' := by
  induction h with
  | stop h =>
    cases h' with
    | stop h2 => rw [h] at h2; exact congrArg Prod.fst h2
    | more h2 _ => rw [h] at h2; have h9 := congrArg Prod.snd h2; simp at h9
  | more h _ ih =>
    cases h' with
    | stop h2 => rw [h] at h2; have h9 := congrArg Prod.snd h2; simp at h9
    | more h2 h3 =>
      rw [h] at h2
      have := congrArg Prod.fst h2
      simp only at this
      subst this
      exact ih h3
/-- Behind follow nothing is forced any more. -/
theorem fol_closed {n : Nat} {L : List (List Int)} {T R : List Int} (h : Fol L T R) (hL : Cl n L) : Un n T → pass L R false = (R, false) := by
  induction h with
  | @stop T T' h =>
    intro hT
    have := (pass_un (m := false) hT hL).2.2.2
    rw [h] at this
    have := (this rfl).2
    simp only at this
    subst this
    exact h
  | more h _ ih =>
    intro hT
    have := pass_un (m := false) hT hL
    rw [h] at this
    exact ih this.1
theorem fol_again {L : List (List Int)} {T : List Int} (h : pass L T false = (T, false)) : Fol L T T := .stop h
/-- What is taken fits in as many places as there are variables. -/
theorem un_len {n : Nat} {T : List Int} (h : Un n T) : T.length ≤ n := by
  induction n generalizing T with
  | zero =>
    cases T with
    | nil => exact Nat.le_refl _
    | cons a r => have := h.in_ a (by simp); omega
  | succ n ih =>
    by_cases hx : ∃ x ∈ T, Cf.va x = n + 1
    · obtain ⟨x, hx, hv⟩ := hx
      have h1 : Un n (T.erase x) := by
        refine ⟨fun z hz => ?_, ?_⟩
        · have hzT := List.mem_of_mem_erase hz
          have := h.in_ z hzT
          refine ⟨this.1, ?_⟩
          rcases Nat.lt_or_ge (Cf.va z) (n + 1) with h2 | h2
          · omega
          · exfalso
            have he : Cf.va z = Cf.va x := by omega
            have hzx := un_inj h z hzT x hx he
            have hnd : T.Nodup := h.pw.imp (fun {a b} hab he => hab (by rw [he]))
            rw [hzx] at hz
            exact absurd hz (List.Nodup.not_mem_erase hnd)
        · exact h.pw.sublist List.erase_sublist
      have := ih h1
      rw [List.length_erase_of_mem hx] at this
      omega
    · have h1 : Un n T := ⟨fun z hz => by
        have := h.in_ z hz
        refine ⟨this.1, ?_⟩
        have hne : Cf.va z ≠ n + 1 := fun e => hx ⟨z, hz, e⟩
        omega, h.pw⟩
      have := ih h1
      omega
/-- What follows is so in every model. -/
theorem pass_sound {n : Nat} {bs : List Bool} (hn : n ≤ 200) : ∀ {L : List (List Int)} {T : List Int} {m : Bool}, Cl n L → holdsL bs L = true → (∀ x ∈ T, hv bs x = true) → ∀ x ∈ (pass L T m).1, hv bs x = true
  | [], T, m, _, _, hT => hT
  | c :: r, T, m, hL, hh, hT => by
    have hr : Cl n r := fun d hd => hL d (List.mem_cons_of_mem _ hd)
    have hh' : c.any (hv bs) = true ∧ holdsL bs r = true := by
      unfold holdsL at hh ⊢
      rw [List.all_cons, Bool.and_eq_true] at hh
      exact hh
    unfold pass
    by_cases hf : forced T c = 0
    · rw [if_pos hf]; exact pass_sound hn hr hh'.2 hT
    · rw [if_neg hf]
      refine pass_sound hn hr hh'.2 fun x hx => ?_
      rcases List.mem_append.1 hx with h | h
      · exact hT x h
      · rw [List.mem_singleton.1 h]
        obtain ⟨a1, a2, a3⟩ := forced_good (hL.nz (by simp)) hf
        obtain ⟨y, hy, hy1⟩ := List.any_eq_true.1 hh'.1
        by_cases he : y = forced T c
        · rw [← he]; exact hy1
        · exfalso
          have h5 := a3 y hy he
          rcases ofT_cases T y with ⟨b, _⟩ | ⟨_, _, b⟩ | ⟨b, _⟩
          · omega
          · have := hT _ b
            have hyv := hL c (by simp) y hy
            rw [hv_neg hyv.1 (by omega), hy1] at this
            cases this
          · omega
theorem fol_sound {n : Nat} {bs : List Bool} {L : List (List Int)} {T R : List Int} (hn : n ≤ 200) (h : Fol L T R) (hL : Cl n L) (hh : holdsL bs L = true) : (∀ x ∈ T, hv bs x = true) → ∀ x ∈ R, hv bs x = true := by
  induction h with
  | stop h => intro hT; have := pass_sound (m := false) hn hL hh hT; rw [h] at this; exact this
  | more h _ ih => intro hT; have := pass_sound (m := false) hn hL hh hT; rw [h] at this; exact ih this
theorem clash_none {L : List (List Int)} {T : List Int} (h : clash L T < 0) : ∀ c ∈ L, bad T c = false := by
  intro c hc
  unfold clash at h
  split at h
  · omega
  · rename_i h1
    have := List.findIdx?_eq_none_iff.1 h1 c hc
    simpa using this
theorem clash_some {L : List (List Int)} {T : List Int} (h : 0 ≤ clash L T) : ∃ c ∈ L, bad T c = true := by
  unfold clash at h
  split at h
  · rename_i i h1
    obtain ⟨hl, h2, _⟩ := List.findIdx?_eq_some_iff_getElem.1 h1
    exact ⟨_, List.getElem_mem hl, h2⟩
  · omega
/-- Where a clause does not hold there is no model. -/
theorem clash_sound {n : Nat} {bs : List Bool} {L : List (List Int)} {T : List Int} (hn : n ≤ 200) (hL : Cl n L) (h : 0 ≤ clash L T) (hT : ∀ x ∈ T, hv bs x = true) : holdsL bs L = false := by
  obtain ⟨c, hc, hb⟩ := clash_some h
  unfold holdsL
  rw [List.all_eq_false]
  refine ⟨c, hc, ?_⟩
  intro h9
  obtain ⟨y, hy, h1⟩ := List.any_eq_true.1 h9
  unfold bad at hb
  have h2 := List.all_eq_true.1 hb y hy
  have h2 := of_decide_eq_true h2
  rcases ofT_cases T y with ⟨b, _⟩ | ⟨_, _, b⟩ | ⟨b, _⟩
  · omega
  · have := hT _ b
    have hyv := hL c hc y hy
    rw [hv_neg hyv.1 (by omega), h1] at this
    cases this
  · omega
end Pr
end Go.Proofs.Ytghfelfljblkbaa
