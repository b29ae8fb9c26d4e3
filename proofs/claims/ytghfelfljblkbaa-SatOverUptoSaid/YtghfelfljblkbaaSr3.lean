/- sat: models as numbers; what Solve tells. -/
import Derived.Test.YtghfelfljblkbaaSr2
namespace Go.Proofs.Ytghfelfljblkbaa
open Go.RowKit Go.Sort
set_option linter.unusedVariables false
namespace Sr

theorem vec_len (n k : Nat) : (vec n k).length = n := by simp [vec]
theorem vec_at {n k i : Nat} (h : i < n) : (vec n k).getD i false = vb n k i := by
  unfold vec
  rw [List.getD_eq_getElem?_getD, List.getElem?_map, List.getElem?_range h]; rfl
/-- Equal bits from the top are one number above. -/
theorem vb_top {n a b : Nat} (ha : a < 2 ^ n) (hb : b < 2 ^ n) : ∀ m, m ≤ n → (∀ i, i < m → vb n a i = vb n b i) → a / 2 ^ (n - m) = b / 2 ^ (n - m)
  | 0, _, _ => by rw [Nat.sub_zero, Nat.div_eq_of_lt ha, Nat.div_eq_of_lt hb]
  | m + 1, hm, h => by
    have ih := vb_top ha hb m (by omega) (fun i hi => h i (by omega))
    have hbit := h m (by omega)
    unfold vb at hbit
    have e : n - 1 - m = n - (m + 1) := by omega
    rw [e] at hbit
    have hs : ∀ x : Nat, x / 2 ^ (n - m) = x / 2 ^ (n - (m + 1)) / 2 := fun x => by
      rw [Nat.div_div_eq_div_mul, ← Nat.pow_succ, show (n - (m + 1)).succ = n - m by omega]
    rw [hs a, hs b] at ih
    generalize a / 2 ^ (n - (m + 1)) = x at *
    generalize b / 2 ^ (n - (m + 1)) = y at *
    have h2 : x % 2 = 1 ↔ y % 2 = 1 := by
      rw [Bool.eq_iff_iff, beq_iff_eq, beq_iff_eq] at hbit
      exact hbit
    omega
theorem vec_inj {n a b : Nat} (ha : a < 2 ^ n) (hb : b < 2 ^ n) (h : vec n a = vec n b) : a = b := by
  have := vb_top ha hb n (Nat.le_refl _) (fun i hi => by rw [← vec_at hi, ← vec_at hi, h])
  rw [Nat.sub_self, Nat.pow_zero, Nat.div_one, Nat.div_one] at this
  exact this
theorem vec_lex {n a b : Nat} (ha : a < 2 ^ n) (hb : b < 2 ^ n) (h : Lex n (vec n a) (vec n b)) : a < b := by
  obtain ⟨i, hi, h1, h2, h3⟩ := h
  have ht := vb_top ha hb i (by omega) (fun j hj => by have := h1 j hj; rw [vec_at (by omega), vec_at (by omega)] at this; exact this)
  rw [vec_at hi] at h2 h3
  unfold vb at h2 h3
  have hs : ∀ x : Nat, x / 2 ^ (n - i) = x / 2 ^ (n - 1 - i) / 2 := fun x => by
    rw [Nat.div_div_eq_div_mul, ← Nat.pow_succ, show (n - 1 - i).succ = n - i by omega]
  rw [hs a, hs b] at ht
  have h3' : b / 2 ^ (n - 1 - i) % 2 = 1 := by simpa using h3
  have h2' : ¬ a / 2 ^ (n - 1 - i) % 2 = 1 := by simpa using h2
  have hlt : a / 2 ^ (n - 1 - i) < b / 2 ^ (n - 1 - i) := by omega
  exact Classical.byContradiction fun hge => by
    have := Nat.div_le_div_right (c := 2 ^ (n - 1 - i)) (show b ≤ a by omega)
    omega
theorem vec_cons (n k : Nat) : vec (n + 1) k = (k / 2 ^ n % 2 == 1) :: vec n k := by
  unfold vec
  rw [List.range_succ_eq_map, List.map_cons, List.map_map]
  congr 1
  refine List.map_congr_left fun i hi => ?_
  unfold vb
  simp only [Function.comp]
  congr 4
  omega
theorem vec_mod {n : Nat} (b m : Nat) : vec n (2 ^ n * b + m) = vec n m := by
  unfold vec
  refine List.map_congr_left fun i hi => ?_
  have hi := List.mem_range.1 hi
  unfold vb
  have e : 2 ^ n = 2 ^ (n - 1 - i) * 2 ^ (i + 1) := by rw [← Nat.pow_add]; congr 1; omega
  rw [e, Nat.mul_assoc, Nat.mul_add_div (Nat.two_pow_pos _), Nat.pow_succ, Nat.mul_assoc, Nat.mul_comm (2 ^ i), Nat.mul_assoc, Nat.mul_add_mod]
theorem vec_all : ∀ bs : List Bool, ∃ k, k < 2 ^ bs.length ∧ bs = vec bs.length k
  | [] => ⟨0, by simp, rfl⟩
  | b :: r => by
    obtain ⟨k, hk, he⟩ := vec_all r
    refine ⟨2 ^ r.length * (if b then 1 else 0) + k, ?_, ?_⟩
    · rw [List.length_cons, Nat.pow_succ]
      cases b <;> simp <;> omega
    · rw [List.length_cons, vec_cons, vec_mod, ← he]
      congr 1
      rw [Nat.mul_add_div (Nat.two_pow_pos _), Nat.div_eq_of_lt hk]
      cases b <;> rfl
theorem first_det {n : Nat} {L : List (List Int)} {A : List Int} {r r' : Option (List Bool)} (h : FirstIs n L A r) (h' : FirstIs n L A r') : r = r' := by
  cases r with
  | none =>
    cases r' with
    | none => rfl
    | some bs =>
      obtain ⟨a, k, hk, e, hm, _⟩ := h'
      rcases h with h | h
      · rw [a] at h; cases h
      · rw [e, h k hk] at hm; cases hm
  | some bs =>
    obtain ⟨a, k, hk, e, hm, hn⟩ := h
    cases r' with
    | none =>
      rcases h' with h | h
      · rw [a] at h; cases h
      · rw [e, h k hk] at hm; cases hm
    | some bs' =>
      obtain ⟨a', k', hk', e', hm', hn'⟩ := h'
      have : k = k' := by
        rcases Nat.lt_trichotomy k k' with h | h | h
        · have := hn' k h; rw [e, this] at hm; cases hm
        · exact h
        · have := hn k' h; rw [e', this] at hm'; cases hm'
      rw [e, e', this]
theorem first_some {L : List (List Int)} {A : List Int} {n : Nat} {bs : List Bool} (ha : A.any (offL n) = false) (hl : bs.length = n) (hm : mod L A bs = true) (hx : ∀ b, b.length = n → mod L A b = true → b = bs ∨ Lex n bs b) : FirstIs n L A (some bs) := by
  obtain ⟨k, hk, he⟩ := vec_all bs
  rw [hl] at hk he
  refine ⟨ha, k, hk, he, hm, fun j hj => ?_⟩
  cases hmj : mod L A (vec n j) with
  | false => rfl
  | true =>
    exfalso
    rcases hx _ (vec_len n j) hmj with h | h
    · rw [he] at h
      have := vec_inj (by omega) hk h
      omega
    · rw [he] at h
      have := vec_lex hk (by omega) h
      omega
/-- begin. -/
inductive Beg (L : List (List Int)) (n : Nat) : List Int → List Int → List Nat → Option (List Int × List Nat) → Prop
  | nil {T : List Int} {M : List Nat} : Beg L n [] T M (some (T, M))
  | off {a : Int} {A T : List Int} {M : List Nat} : offL n a = true → Beg L n (a :: A) T M none
  | neg {a : Int} {A T : List Int} {M : List Nat} : offL n a = false → Pr.ofT T a = -1 → Beg L n (a :: A) T M none
  | clash {a : Int} {A T : List Int} {M : List Nat} : offL n a = false → Pr.ofT T a = 0 → 0 ≤ Pr.clash L T → Beg L n (a :: A) T M none
  | is {a : Int} {A T : List Int} {M : List Nat} {r : Option (List Int × List Nat)} : offL n a = false → Pr.ofT T a = 1 → Beg L n A T M r → Beg L n (a :: A) T M r
  | push {a : Int} {A T T' : List Int} {M : List Nat} {r : Option (List Int × List Nat)} : offL n a = false → Pr.ofT T a = 0 → Pr.clash L T < 0 → Pr.Fol L (T ++ [a]) T' → Beg L n A T' (M ++ [T.length]) r → Beg L n (a :: A) T M r
theorem beg_det {L : List (List Int)} {n : Nat} {A T : List Int} {M : List Nat} {r r' : Option (List Int × List Nat)} (h : Beg L n A T M r) (h' : Beg L n A T M r') : r = r' := by
  induction h generalizing r' with
  | nil => cases h'; rfl
  | off h1 =>
    cases h' with
    | off _ => rfl
    | neg _ _ => rfl
    | clash _ _ _ => rfl
    | is a _ _ => rw [h1] at a; cases a
    | push a _ _ _ _ => rw [h1] at a; cases a
  | neg h1 h2 =>
    cases h' with
    | off _ => rfl
    | neg _ _ => rfl
    | clash _ _ _ => rfl
    | is _ a _ => omega
    | push _ a _ _ _ => omega
  | clash h1 h2 h3 =>
    cases h' with
    | off _ => rfl
    | neg _ _ => rfl
    | clash _ _ _ => rfl
    | is _ a _ => omega
    | push _ _ a _ _ => omega
  | is h1 h2 _ ih =>
    cases h' with
    | off a => rw [h1] at a; cases a
    | neg _ a => omega
    | clash _ a _ => omega
    | is _ _ a => exact ih a
    | push _ a _ _ _ => omega
  | push h1 h2 h3 h4 _ ih =>
    cases h' with
    | off a => rw [h1] at a; cases a
    | neg _ a => omega
    | clash _ _ a => omega
    | is _ a _ => omega
    | push _ _ _ a b =>
      obtain rfl := Pr.fol_det h4 a
      exact ih b
theorem off_va {n : Nat} {a : Int} (ha : Ok a) (h : offL n a = false) : 1 ≤ Cf.va a ∧ Cf.va a ≤ n := by
  unfold offL at h
  rw [vw_ok ha, Bool.or_eq_false_iff, decide_eq_false_iff_not, decide_eq_false_iff_not] at h
  unfold Cf.va at *
  omega
/-- What begin comes to: with assumptions A0 taken already. -/
theorem beg_good {L : List (List Int)} {n : Nat} {A T : List Int} {M : List Nat} {r : Option (List Int × List Nat)} (h : Beg L n A T M r) (hn : n ≤ 200) (hL : Pr.Cl n L) (hok : ∀ a ∈ A, Ok a) :
    ∀ A0, Un n T → (∀ bs, mod L A0 bs = true → ∀ x ∈ T, hv bs x = true) → (∀ a ∈ A0, a ∈ T) → A0.any (offL n) = false →
      (r = none → (A0 ++ A).any (offL n) = true ∨ ∀ bs, mod L (A0 ++ A) bs = false) ∧ (∀ R M', r = some (R, M') → St L (A0 ++ A) n R [] ∧ (A0 ++ A).any (offL n) = false) := by
  have sub : ∀ {A0 A1 : List Int} {bs : List Bool}, mod L (A0 ++ A1) bs = true → mod L A0 bs = true ∧ ∀ a ∈ A1, hv bs a = true := fun hm => by
    obtain ⟨a, b⟩ := (show _ ∧ _ from ⟨mod_hold hm, fun x hx => by
      unfold mod at hm
      exact List.all_eq_true.1 ((Bool.and_eq_true _ _).mp hm).2 x hx⟩ : holdsL _ L = true ∧ ∀ x ∈ _, hv _ x = true)
    refine ⟨?_, fun x hx => b x (by simp [hx])⟩
    unfold mod
    rw [a, Bool.true_and, List.all_eq_true]
    exact fun x hx => b x (by simp [hx])
  induction h with
  | nil =>
    intro A0 hu hd ha ho
    rw [List.append_nil]
    refine ⟨(fun h => by cases h), fun R M' h => ?_⟩
    cases h
    exact ⟨⟨hu, trivial, trivial, trivial, fun bs hm _ => hd bs hm, (fun l hl => by cases hl), ha⟩, ho⟩
  | @off a A T M h1 =>
    intro A0 hu hd ha ho
    refine ⟨fun _ => .inl ?_, (fun R M' h => by cases h)⟩
    rw [List.any_append, List.any_cons, h1]; simp
  | @neg a A T M h1 h2 =>
    intro A0 hu hd ha ho
    refine ⟨fun _ => .inr fun bs => ?_, (fun R M' h => by cases h)⟩
    cases hm : mod L (A0 ++ a :: A) bs with
    | false => rfl
    | true =>
      obtain ⟨b1, b2⟩ := sub hm
      have hav := off_va (hok a (by simp)) h1
      have h3 : -a ∈ T := by
        rcases Pr.ofT_cases T a with ⟨c, _⟩ | ⟨_, _, c⟩ | ⟨c, _⟩
        · omega
        · exact c
        · omega
      have h4 := hd bs b1 _ h3
      rw [hv_neg hav.1 (by omega), b2 a (by simp)] at h4
      cases h4
  | @clash a A T M h1 h2 h3 =>
    intro A0 hu hd ha ho
    refine ⟨fun _ => .inr fun bs => ?_, (fun R M' h => by cases h)⟩
    cases hm : mod L (A0 ++ a :: A) bs with
    | false => rfl
    | true =>
      obtain ⟨b1, b2⟩ := sub hm
      have := Pr.clash_sound hn hL h3 (hd bs b1)
      rw [mod_hold hm] at this
      cases this
  | @is a A T M r h1 h2 _ ih =>
    intro A0 hu hd ha ho
    have haT : a ∈ T := by
      rcases Pr.ofT_cases T a with ⟨_, c⟩ | ⟨c, _⟩ | ⟨c, _⟩
      · exact c
      · omega
      · omega
    have := ih (fun x hx => hok x (List.mem_cons_of_mem _ hx)) (A0 ++ [a]) hu (fun bs hm => hd bs (sub hm).1) (fun x hx => by
      rcases List.mem_append.1 hx with h | h
      · exact ha x h
      · rw [List.mem_singleton.1 h]; exact haT) (by rw [List.any_append, ho, List.any_cons, h1]; rfl)
    rw [List.append_assoc, List.singleton_append] at this
    exact this
  | @push a A T T' M r h1 h2 h3 h4 _ ih =>
    intro A0 hu hd ha ho
    have hun := Pr.un_snoc hu (off_va (hok a (by simp)) h1) h2
    have hpx := (Pr.fol_un h4 hL hun).2
    have := ih (fun x hx => hok x (List.mem_cons_of_mem _ hx)) (A0 ++ [a]) (Pr.fol_un h4 hL hun).1 (fun bs hm => by
      obtain ⟨b1, b2⟩ := sub hm
      refine Pr.fol_sound hn h4 hL (mod_hold hm) fun x hx => ?_
      rcases List.mem_append.1 hx with h | h
      · exact hd bs b1 x h
      · rw [List.mem_singleton.1 h]; exact b2 a (by simp)) (fun x hx => hpx.subset (by
      rcases List.mem_append.1 hx with h | h
      · simp [ha x h]
      · rw [List.mem_singleton.1 h]; simp)) (by rw [List.any_append, ho, List.any_cons, h1]; rfl)
    rw [List.append_assoc, List.singleton_append] at this
    exact this
/-- What Solve tells without a budget, and how many choices it took. -/
inductive SolveIs (L : List (List Int)) (n : Nat) (A : List Int) : Option (List Bool) → Nat → Prop
  | bad {T : List Int} : Pr.Fol L [] T → Beg L n A T [] none → SolveIs L n A none 0
  | no {T R : List Int} {M : List Nat} {f : Nat} : Pr.Fol L [] T → Beg L n A T [] (some (R, M)) → Run L n 0 R [] 0 .no f → SolveIs L n A none f
  | yes {T R R2 : List Int} {M : List Nat} {f : Nat} : Pr.Fol L [] T → Beg L n A T [] (some (R, M)) → Run L n 0 R [] 0 (.yes R2) f → SolveIs L n A (some (tvec n R2)) f
theorem solve_det {L : List (List Int)} {n : Nat} {A : List Int} {r r' : Option (List Bool)} {f f' : Nat} (h : SolveIs L n A r f) (h' : SolveIs L n A r' f') : r = r' ∧ f = f' := by
  cases h with
  | bad h1 h2 =>
    cases h' with
    | bad _ _ => exact ⟨rfl, rfl⟩
    | no a b _ => obtain rfl := Pr.fol_det h1 a; have := beg_det h2 b; cases this
    | yes a b _ => obtain rfl := Pr.fol_det h1 a; have := beg_det h2 b; cases this
  | no h1 h2 h3 =>
    cases h' with
    | bad a b => obtain rfl := Pr.fol_det h1 a; have := beg_det h2 b; cases this
    | no a b c =>
      obtain rfl := Pr.fol_det h1 a
      have := beg_det h2 b
      cases this
      exact ⟨rfl, (run_det h3 c).2⟩
    | yes a b c =>
      obtain rfl := Pr.fol_det h1 a
      have := beg_det h2 b
      cases this
      cases (run_det h3 c).1
  | yes h1 h2 h3 =>
    cases h' with
    | bad a b => obtain rfl := Pr.fol_det h1 a; have := beg_det h2 b; cases this
    | no a b c =>
      obtain rfl := Pr.fol_det h1 a
      have := beg_det h2 b
      cases this
      cases (run_det h3 c).1
    | yes a b c =>
      obtain rfl := Pr.fol_det h1 a
      have := beg_det h2 b
      cases this
      obtain ⟨e1, e2⟩ := run_det h3 c
      cases e1
      exact ⟨rfl, e2⟩
theorem solve_first {L : List (List Int)} {n : Nat} {A : List Int} {r : Option (List Bool)} {f : Nat} (h : SolveIs L n A r f) (hn : n ≤ 200) (hL : Pr.Cl n L) (hok : ∀ a ∈ A, Ok a) : FirstIs n L A r ∧ f ≤ 2 ^ n - 1 := by
  have h0 : ∀ T, Pr.Fol L [] T → Un n T ∧ (∀ bs, mod L [] bs = true → ∀ x ∈ T, hv bs x = true) := fun T hf => ⟨(Pr.fol_un hf hL (Un.nil n)).1, fun bs hm => Pr.fol_sound hn hf hL (mod_hold hm) (fun x hx => by cases hx)⟩
  cases h with
  | bad h1 h2 =>
    obtain ⟨a, b⟩ := h0 _ h1
    have := (beg_good h2 hn hL hok [] a b (by simp) (by simp)).1 rfl
    rw [List.nil_append] at this
    exact ⟨this.elim .inl (fun h => .inr fun k _ => h _), Nat.zero_le _⟩
  | no h1 h2 h3 =>
    obtain ⟨a, b⟩ := h0 _ h1
    have := (beg_good h2 hn hL hok [] a b (by simp) (by simp)).2 _ _ rfl
    rw [List.nil_append] at this
    have hc := run_cost h3 (by intro h; cases h) hL this.1.un this.1.pre this.1.ent
    refine ⟨.inr fun k _ => run_no h3 rfl hn hL this.1 _, ?_⟩
    simpa [pot, V] using hc
  | yes h1 h2 h3 =>
    obtain ⟨a, b⟩ := h0 _ h1
    have := (beg_good h2 hn hL hok [] a b (by simp) (by simp)).2 _ _ rfl
    rw [List.nil_append] at this
    have hc := run_cost h3 (by intro h; cases h) hL this.1.un this.1.pre this.1.ent
    obtain ⟨c1, c2, c3, c4⟩ := run_yes h3 rfl hn hL this.1
    refine ⟨first_some this.2 (tvec_len _ _) c1 c4, ?_⟩
    simpa [pot, V] using hc
end Sr
end Go.Proofs.Ytghfelfljblkbaa
