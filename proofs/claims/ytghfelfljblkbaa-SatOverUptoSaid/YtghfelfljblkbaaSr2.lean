/- sat: what the search tells is the first model. -/
import Derived.Test.YtghfelfljblkbaaSr
namespace Go.Proofs.Ytghfelfljblkbaa
open Go.RowKit Go.Sort
set_option linter.unusedVariables false
namespace Sr

/-- What is known of each choice. -/
def Inv (L : List (List Int)) (A : List Int) : Stk → Prop
  | [] => True
  | (c, Tp) :: S => (∀ bs, mod L A bs = true → (∀ l ∈ lits S, hv bs l = true) → ∀ x ∈ Tp, hv bs x = true) ∧ (c < 0 → ∀ bs, mod L A bs = true → (∀ l ∈ lits S, hv bs l = true) → hv bs (-c) = true) ∧ (∀ l ∈ lits S, l ∈ Tp) ∧ (∀ a ∈ A, a ∈ Tp) ∧ Inv L A S
structure St (L : List (List Int)) (A : List Int) (n : Nat) (T : List Int) (S : Stk) : Prop where
  un : Un n T
  pre : Pre T S
  ent : Ent L n S
  inv : Inv L A S
  der : ∀ bs, mod L A bs = true → (∀ l ∈ lits S, hv bs l = true) → ∀ x ∈ T, hv bs x = true
  sub : ∀ l ∈ lits S, l ∈ T
  asm : ∀ a ∈ A, a ∈ T
theorem lits_cons (c : Int) (Tp : List Int) (S : Stk) : lits ((c, Tp) :: S) = -c :: lits S := rfl
theorem stk_all {L : List (List Int)} {A : List Int} {n : Nat} {bs : List Bool} (hm : mod L A bs = true) : ∀ {S : Stk}, back S = none → Inv L A S → Ent L n S → ∀ l ∈ lits S, hv bs l = true
  | [], _, _, _, l, hl => by cases hl
  | (c, Tp) :: S, h, hi, he, l, hl => by
    unfold back at h
    by_cases hc : 0 < c
    · rw [if_pos hc] at h; cases h
    · rw [if_neg hc] at h
      have ih := stk_all hm h hi.2.2.2.2 he.2.2.2.2
      rw [lits_cons] at hl
      rcases List.mem_cons.1 hl with h1 | h1
      · rw [h1]
        have := he.2.1
        exact hi.2.1 (by omega) bs hm ih
      · exact ih l h1
theorem back_all {L : List (List Int)} {A : List Int} {n : Nat} {bs : List Bool} {v : Int} {Tp : List Int} {S2 : Stk} (hm : mod L A bs = true) (h2 : ∀ l ∈ lits S2, hv bs l = true) (hv0 : hv bs (-v) = true) : ∀ {S : Stk}, back S = some (v, Tp, S2) → Inv L A S → Ent L n S → ∀ l ∈ lits S, hv bs l = true
  | [], h, _, _, l, hl => by cases hl
  | (c, Tc) :: S, h, hi, he, l, hl => by
    unfold back at h
    by_cases hc : 0 < c
    · rw [if_pos hc] at h
      injection h with h
      injection h with e1 e2
      injection e2 with e2 e3
      subst e1
      subst e3
      rw [lits_cons] at hl
      rcases List.mem_cons.1 hl with h1 | h1
      · rw [h1]; exact hv0
      · exact h2 l h1
    · rw [if_neg hc] at h
      have ih := back_all hm h2 hv0 h hi.2.2.2.2 he.2.2.2.2
      rw [lits_cons] at hl
      rcases List.mem_cons.1 hl with h1 | h1
      · rw [h1]
        have := he.2.1
        exact hi.2.1 (by omega) bs hm ih
      · exact ih l h1
theorem back_inv {L : List (List Int)} {A : List Int} {v : Int} {Tp : List Int} {S2 : Stk} : ∀ {S : Stk}, back S = some (v, Tp, S2) → Inv L A S → Inv L A ((v, Tp) :: S2)
  | [], h, _ => by cases h
  | (c, Tc) :: S, h, hi => by
    unfold back at h
    by_cases hc : 0 < c
    · rw [if_pos hc] at h
      injection h with h
      injection h with e1 e2
      injection e2 with e2 e3
      subst e1
      subst e2
      subst e3
      exact hi
    · rw [if_neg hc] at h
      exact back_inv h hi.2.2.2.2
theorem mod_hold {L : List (List Int)} {A : List Int} {bs : List Bool} (h : mod L A bs = true) : holdsL bs L = true := by
  unfold mod at h
  exact ((Bool.and_eq_true _ _).mp h).1
theorem St.clash {L : List (List Int)} {A : List Int} {n : Nat} {T : List Int} {S : Stk} (h : St L A n T S) (hn : n ≤ 200) (hL : Pr.Cl n L) (hc : 0 ≤ Pr.clash L T) {bs : List Bool} (hm : mod L A bs = true) (hl : ∀ l ∈ lits S, hv bs l = true) : False := by
  have := Pr.clash_sound hn hL hc (h.der bs hm hl)
  rw [mod_hold hm] at this
  cases this
theorem St.back {L : List (List Int)} {A : List Int} {n : Nat} {T Tp T' : List Int} {S S2 : Stk} {v : Int} (h : St L A n T S) (hn : n ≤ 200) (hL : Pr.Cl n L) (hc : 0 ≤ Pr.clash L T) (hb : back S = some (v, Tp, S2)) (hf : Pr.Fol L (Tp ++ [v]) T') : St L A n T' ((-v, Tp) :: S2) := by
  obtain ⟨a1, a2, a3, a4, a5, a6, a7⟩ := back_pre hb h.pre h.ent
  obtain ⟨b1, _, b3, b4, b5⟩ := back_inv hb h.inv
  have hv0 : openV n Tp ≠ 0 := by omega
  have hun := (un_open a7 hv0).1
  rw [a4] at hun
  have hvb := hun.in_ v (by simp)
  have hpx := (Pr.fol_un hf hL hun).2
  have hsub : ∀ x ∈ Tp ++ [v], x ∈ T' := fun x hx => hpx.subset hx
  refine ⟨(Pr.fol_un hf hL hun).1, pre_push hf hL hun a2, ⟨by omega, by omega, a6, a7, a3⟩, ⟨b1, fun _ bs hm hl => ?_, b3, b4, b5⟩, fun bs hm hl => ?_, fun l hl => ?_, fun a ha => hsub a (by simp [b4 a ha])⟩
  · rw [Int.neg_neg]
    cases hb9 : hv bs v with
    | true => rfl
    | false =>
      exfalso
      have h1 : hv bs (-v) = true := by rw [hv_neg hvb.1 (by omega), hb9]; rfl
      exact h.clash hn hL hc hm (back_all (n := n) hm hl h1 hb h.inv h.ent)
  · rw [lits_cons, Int.neg_neg] at hl
    refine Pr.fol_sound hn hf hL (mod_hold hm) fun x hx => ?_
    rcases List.mem_append.1 hx with h1 | h1
    · exact b1 bs hm (fun l hl' => hl l (List.mem_cons_of_mem _ hl')) x h1
    · rw [List.mem_singleton.1 h1]; exact hl v (by simp)
  · rw [lits_cons, Int.neg_neg] at hl
    rcases List.mem_cons.1 hl with h1 | h1
    · rw [h1]; exact hsub v (by simp)
    · exact hsub l (by simp [b3 l h1])
theorem St.next {L : List (List Int)} {A : List Int} {n : Nat} {T T' : List Int} {S : Stk} (h : St L A n T S) (hn : n ≤ 200) (hL : Pr.Cl n L) (hc : Pr.clash L T < 0) (hv0 : openV n T ≠ 0) (hf : Pr.Fol L (T ++ [-(openV n T : Int)]) T') : St L A n T' (((openV n T : Int), T) :: S) := by
  have hun := (un_open h.un hv0).2
  have hpx := (Pr.fol_un hf hL hun).2
  have hsub : ∀ x ∈ T ++ [-(openV n T : Int)], x ∈ T' := fun x hx => hpx.subset hx
  refine ⟨(Pr.fol_un hf hL hun).1, pre_push hf hL hun h.pre, ⟨by omega, by omega, hc, h.un, h.ent⟩, ⟨h.der, fun h9 => by omega, h.sub, h.asm, h.inv⟩, fun bs hm hl => ?_, fun l hl => ?_, fun a ha => hsub a (by simp [h.asm a ha])⟩
  · rw [lits_cons] at hl
    refine Pr.fol_sound hn hf hL (mod_hold hm) fun x hx => ?_
    rcases List.mem_append.1 hx with h1 | h1
    · exact h.der bs hm (fun l hl' => hl l (List.mem_cons_of_mem _ hl')) x h1
    · rw [List.mem_singleton.1 h1]; exact hl _ (by simp)
  · rw [lits_cons] at hl
    rcases List.mem_cons.1 hl with h1 | h1
    · rw [h1]; exact hsub _ (by simp)
    · exact hsub l (by simp [h.sub l h1])
theorem run_no {L : List (List Int)} {A : List Int} {n : Nat} {b : Int} {T : List Int} {S : Stk} {s f : Nat} {r : Res} (h : Run L n b T S s r f) (hr : r = .no) (hn : n ≤ 200) (hL : Pr.Cl n L) : St L A n T S → ∀ bs, mod L A bs = false := by
  induction h with
  | fail h1 h2 =>
    intro hs bs
    cases hm : mod L A bs with
    | false => rfl
    | true => exact (hs.clash hn hL h1 hm (stk_all (n := n) hm h2 hs.inv hs.ent)).elim
  | again h1 h2 h3 _ ih => exact fun hs => ih hr (hs.back hn hL h1 h2 h3)
  | done _ _ => cases hr
  | over _ _ _ _ => cases hr
  | next h1 h2 _ h4 _ ih => exact fun hs => ih hr (hs.next hn hL h1 h2 h4)
/-- The model of a trail on which each variable is. -/
def tvec (n : Nat) (T : List Int) : List Bool := (List.range n).map fun (i : Nat) => decide (0 < Pr.ofT T ((i : Int) + 1))
theorem tvec_len (n : Nat) (T : List Int) : (tvec n T).length = n := by simp [tvec]
theorem tvec_at {n v : Nat} {T : List Int} (h1 : 1 ≤ v) (h2 : v ≤ n) : (tvec n T).getD (v - 1) false = decide (0 < Pr.ofT T (v : Int)) := by
  have hlt : v - 1 < n := by omega
  have e : (((v - 1 : Nat) : Int) + 1) = (v : Int) := by omega
  unfold tvec
  rw [List.getD_eq_getElem?_getD, List.getElem?_map, List.getElem?_range hlt]
  simp only [Option.map_some, Option.getD_some, e]
theorem hv_bit {bs : List Bool} {n : Nat} {x : Int} (hl : bs.length = n) (h1 : 1 ≤ Cf.va x) (h2 : Cf.va x ≤ n) (hn : n ≤ 200) : hv bs x = (bs.getD (Cf.va x - 1) false == decide (0 < x)) := by
  rw [hv_of rfl h1 (by omega), hl, decide_eq_true h2, Bool.true_and]
theorem hv_tvec {n : Nat} {T : List Int} {x : Int} (hu : Un n T) (hn : n ≤ 200) (ht : ∀ u : Nat, 1 ≤ u → u ≤ n → Pr.ofT T (u : Int) ≠ 0) (h1 : 1 ≤ Cf.va x) (h2 : Cf.va x ≤ n) : hv (tvec n T) x = decide (x ∈ T) := by
  rw [hv_bit (tvec_len n T) h1 h2 hn, tvec_at h1 h2]
  have htot := ht (Cf.va x) h1 h2
  rcases (show x = (Cf.va x : Int) ∨ x = -(Cf.va x : Int) by unfold Cf.va; omega) with e | e
  · have hx : 0 < x := by unfold Cf.va at h1; omega
    rw [← e] at htot ⊢
    rw [decide_eq_true hx]
    rcases Pr.ofT_cases T x with ⟨a, b⟩ | ⟨a, b, _⟩ | ⟨a, _⟩
    · rw [a, decide_eq_true b]; decide
    · rw [a, decide_eq_false b]; decide
    · exact absurd a htot
  · have hx : ¬ 0 < x := by unfold Cf.va at h1; omega
    have e2 : (Cf.va x : Int) = -x := by omega
    rw [e2, Pr.ofT_neg hu] at htot ⊢
    rw [decide_eq_false hx]
    rcases Pr.ofT_cases T x with ⟨a, b⟩ | ⟨a, b, _⟩ | ⟨a, _⟩
    · rw [a, decide_eq_true b]; decide
    · rw [a, decide_eq_false b]; decide
    · omega
theorem tvec_mod {L : List (List Int)} {A : List Int} {n : Nat} {T : List Int} (hu : Un n T) (hn : n ≤ 200) (hL : Pr.Cl n L) (ht : ∀ u : Nat, 1 ≤ u → u ≤ n → Pr.ofT T (u : Int) ≠ 0) (hc : Pr.clash L T < 0) (ha : ∀ a ∈ A, a ∈ T) : mod L A (tvec n T) = true := by
  unfold mod
  rw [Bool.and_eq_true]
  constructor
  · unfold holdsL
    rw [List.all_eq_true]
    intro c hcm
    have hb := Pr.clash_none hc c hcm
    unfold Pr.bad at hb
    rw [List.all_eq_false] at hb
    obtain ⟨y, hy, h9⟩ := hb
    have hyv := hL c hcm y hy
    rw [List.any_eq_true]
    refine ⟨y, hy, ?_⟩
    rw [hv_tvec hu hn ht hyv.1 hyv.2]
    refine decide_eq_true ?_
    have h8 : ¬ Pr.ofT T y < 0 := fun h => h9 (decide_eq_true h)
    rcases Pr.ofT_cases T y with ⟨_, b⟩ | ⟨a, _⟩ | ⟨a, _⟩
    · exact b
    · omega
    · exfalso
      rcases (show y = (Cf.va y : Int) ∨ y = -(Cf.va y : Int) by unfold Cf.va; omega) with e | e
      · rw [e] at a; exact ht _ hyv.1 hyv.2 a
      · rw [e, Pr.ofT_neg hu] at a
        exact ht _ hyv.1 hyv.2 (by omega)
  · rw [List.all_eq_true]
    intro a h
    have hin := hu.in_ a (ha a h)
    rw [hv_tvec hu hn ht hin.1 hin.2]
    exact decide_eq_true (ha a h)
/-- One model is earlier than another. -/
def Lex (n : Nat) (a b : List Bool) : Prop := ∃ i, i < n ∧ (∀ j, j < i → a.getD j false = b.getD j false) ∧ a.getD i false = false ∧ b.getD i false = true
theorem bit_same {n : Nat} {a b : List Bool} {x : Int} (ha : a.length = n) (hb : b.length = n) (hn : n ≤ 200) (h1 : 1 ≤ Cf.va x) (h2 : Cf.va x ≤ n) (h3 : hv a x = true) (h4 : hv b x = true) : a.getD (Cf.va x - 1) false = b.getD (Cf.va x - 1) false := by
  rw [hv_bit ha h1 h2 hn] at h3
  rw [hv_bit hb h1 h2 hn] at h4
  rw [eq_of_beq h3, eq_of_beq h4]
theorem lex_stk {L : List (List Int)} {A : List Int} {n : Nat} {T : List Int} {bs : List Bool} (hu : Un n T) (hn : n ≤ 200) (ht : ∀ u : Nat, 1 ≤ u → u ≤ n → Pr.ofT T (u : Int) ≠ 0) (hm : mod L A bs = true) (hbl : bs.length = n) :
    ∀ {S : Stk} {T0 : List Int}, T0 <+: T → Pre T0 S → Ent L n S → Inv L A S → (∀ l ∈ lits S, l ∈ T) → (∀ l ∈ lits S, hv bs l = true) ∨ Lex n (tvec n T) bs
  | [], _, _, _, _, _, _ => .inl (fun l hl => by cases hl)
  | (c, Tp) :: S, T0, h0, hp, he, hi, hs => by
    have hpT : Tp <+: T := hp.1.trans h0
    rcases lex_stk hu hn ht hm hbl hpT hp.2.2 he.2.2.2.2 hi.2.2.2.2 (fun l hl => hs l (by rw [lits_cons]; exact List.mem_cons_of_mem _ hl)) with ih | ih
    · have hc0 := he.2.1
      cases hb : hv bs (-c) with
      | true =>
        refine .inl fun l hl => ?_
        rw [lits_cons] at hl
        rcases List.mem_cons.1 hl with h1 | h1
        · rw [h1]; exact hb
        · exact ih l h1
      | false =>
        rcases Int.lt_or_gt_of_ne hc0 with h9 | h9
        · have := hi.2.1 h9 bs hm ih
          rw [hb] at this; cases this
        · right
          have hov : openV n Tp = c.natAbs := by have := he.1; omega
          obtain ⟨o1, o2, o3⟩ := openV_some hov (by omega)
          have hcv : (c.natAbs : Int) = c := by omega
          have hmem : -c ∈ T := hs (-c) (by rw [lits_cons]; simp)
          have hva : Cf.va (-c) = c.natAbs := by unfold Cf.va; omega
          refine ⟨c.natAbs - 1, by omega, fun j hj => ?_, ?_, ?_⟩
          · have hj1 := o3 (j + 1) (by omega) (by omega)
            have hex : ∃ x, x ∈ Tp ∧ Cf.va x = j + 1 := by
              rcases Pr.ofT_cases Tp ((j + 1 : Nat) : Int) with ⟨_, b⟩ | ⟨_, _, b⟩ | ⟨a, _⟩
              · exact ⟨_, b, by unfold Cf.va; omega⟩
              · exact ⟨_, b, by unfold Cf.va; omega⟩
              · exact absurd a hj1
            obtain ⟨x, hx, hxv⟩ := hex
            have h1 := hi.1 bs hm ih x hx
            have hxT : x ∈ T := hpT.subset hx
            have h2 : hv (tvec n T) x = true := by rw [hv_tvec hu hn ht (by omega) (by omega)]; exact decide_eq_true hxT
            have := bit_same (tvec_len n T) hbl hn (x := x) (by omega) (by omega) h2 h1
            rw [hxv] at this
            exact this
          · have h2 : hv (tvec n T) (-c) = true := by rw [hv_tvec hu hn ht (by omega) (by omega)]; exact decide_eq_true hmem
            rw [hv_bit (tvec_len n T) (by omega) (by omega) hn, hva, decide_eq_false (by omega)] at h2
            exact eq_of_beq h2
          · rw [hv_bit hbl (by omega) (by omega) hn, hva, decide_eq_false (show ¬ 0 < -c by omega)] at hb
            cases h8 : bs.getD (c.natAbs - 1) false with
            | true => rfl
            | false => rw [h8] at hb; cases hb
    · exact .inr ih
theorem run_yes {L : List (List Int)} {A : List Int} {n : Nat} {b : Int} {T R : List Int} {S : Stk} {s f : Nat} {r : Res} (h : Run L n b T S s r f) (hr : r = .yes R) (hn : n ≤ 200) (hL : Pr.Cl n L) : St L A n T S → mod L A (tvec n R) = true ∧ (∀ u : Nat, 1 ≤ u → u ≤ n → Pr.ofT R (u : Int) ≠ 0) ∧ Un n R ∧ ∀ bs, bs.length = n → mod L A bs = true → bs = tvec n R ∨ Lex n (tvec n R) bs := by
  induction h with
  | fail _ _ => cases hr
  | again h1 h2 h3 _ ih => exact fun hs => ih hr (hs.back hn hL h1 h2 h3)
  | @done T S s h1 h2 =>
    cases hr
    intro hs
    have ht := openV_none h2
    refine ⟨tvec_mod hs.un hn hL ht h1 hs.asm, ht, hs.un, fun bs hbl hm => ?_⟩
    rcases lex_stk hs.un hn ht hm hbl (List.prefix_refl _) hs.pre hs.ent hs.inv hs.sub with h9 | h9
    · left
      have hall := hs.der bs hm h9
      refine List.ext_getElem? fun i => ?_
      rcases Nat.lt_or_ge i n with hi | hi
      · have hex : ∃ x, x ∈ R ∧ Cf.va x = i + 1 := by
          rcases Pr.ofT_cases R ((i + 1 : Nat) : Int) with ⟨_, b⟩ | ⟨_, _, b⟩ | ⟨a, _⟩
          · exact ⟨_, b, by unfold Cf.va; omega⟩
          · exact ⟨_, b, by unfold Cf.va; omega⟩
          · exact absurd a (ht (i + 1) (by omega) (by omega))
        obtain ⟨x, hx, hxv⟩ := hex
        have h2 : hv (tvec n R) x = true := by rw [hv_tvec hs.un hn ht (by omega) (by omega)]; exact decide_eq_true hx
        have := bit_same hbl (tvec_len n R) hn (x := x) (by omega) (by omega) (hall x hx) h2
        rw [hxv] at this
        simp only [Nat.add_sub_cancel, List.getD_eq_getElem?_getD] at this
        rw [List.getElem?_eq_getElem (by omega), List.getElem?_eq_getElem (by rw [tvec_len]; exact hi)] at this ⊢
        simpa using this
      · rw [List.getElem?_eq_none (by omega), List.getElem?_eq_none (by rw [tvec_len]; exact hi)]
    · exact .inr h9
  | over _ _ _ _ => cases hr
  | next h1 h2 _ h4 _ ih => exact fun hs => ih hr (hs.next hn hL h1 h2 h4)
end Sr
end Go.Proofs.Ytghfelfljblkbaa
