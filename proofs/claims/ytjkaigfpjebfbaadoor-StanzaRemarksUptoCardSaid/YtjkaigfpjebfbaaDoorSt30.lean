/- How much is read; remarks and empty lines between: the plain laws. -/
import Derived.Test.YtjkaigfpjebfbaaDoorSt29
import Derived.Test.YtjkaigfpjebfbaaDoorB8
namespace Go.Proofs.YtjkaigfpjebfbaaDoor
open Go.RowKit Go.Lib
set_option linter.unusedVariables false

/-- Every field read is small. -/
def Tot (C : Nat) (L : List St) : Prop := ∀ s ∈ L, ∀ f ∈ s.fs, f.n.size ≤ C ∧ lsum f.ls ≤ C
theorem Tot.mono {C C' : Nat} (hc : C ≤ C') {L : List St} (h : Tot C L) : Tot C' L := fun s hs f hf => by have := h s hs f hf; omega
theorem Tot.end_ {C C' : Nat} {Lp : List St} {l0 l1 : Int} {F F' : List Fd} (h : Tot C (Lp ++ [⟨l0, F⟩])) (hc : C ≤ C') (h2 : ∀ f ∈ F', f.n.size ≤ C' ∧ lsum f.ls ≤ C') : Tot C' (Lp ++ [⟨l1, F'⟩]) := fun s hs f hf => by
  rcases List.mem_append.1 hs with hs | hs
  · have := h s (List.mem_append_left _ hs) f hf; omega
  · rw [List.mem_singleton] at hs
    subst hs
    exact h2 f hf
theorem Tot.last {C : Nat} {Lp : List St} {l0 : Int} {F : List Fd} (h : Tot C (Lp ++ [⟨l0, F⟩])) : ∀ f ∈ F, f.n.size ≤ C ∧ lsum f.ls ≤ C := h ⟨l0, F⟩ (List.mem_append_right _ (List.mem_singleton.2 rfl))
theorem trimR_le (s : ByteArray) : (trimR s).size ≤ s.size := by
  unfold trimR
  rw [ByteArray.size_extract]
  omega
theorem furT_le (s : ByteArray) : (furT s).size ≤ s.size := by
  unfold furT
  split
  · exact Nat.zero_le _
  · have := trimR_le (s.extract 1 s.size)
    rw [ByteArray.size_extract] at this
    omega
theorem lsum_one (t : ByteArray) : lsum [t] = t.size + 1 := by simp [lsum]
theorem Tot.take {C : Nat} {s : ByteArray} {ln : Int} {σ σ' : PS} (h : Tot C σ.all) (ht : takeS s ln σ = .ok σ') : Tot (C + (s.size + 1)) σ'.all := by
  unfold takeS at ht
  split at ht
  · simp only [Except.ok.injEq] at ht; subst ht; exact h.mono (by omega)
  split at ht
  · simp only [Except.ok.injEq] at ht; subst ht; exact h.mono (by omega)
  split at ht
  · cases σ with
    | shut L => unfold furS at ht; simp at ht
    | opn Lp l0 Fp nm ls =>
      unfold furS at ht
      simp only [Except.ok.injEq] at ht
      subst ht
      have h : Tot C (Lp ++ [⟨l0, Fp ++ [⟨nm, ls⟩]⟩]) := h
      refine h.end_ (by omega) fun f hf => ?_
      rcases List.mem_append.1 hf with hf | hf
      · have := h.last f (List.mem_append_left _ hf); omega
      · rw [List.mem_singleton] at hf
        subst hf
        have h9 := h.last ⟨nm, ls⟩ (List.mem_append_right _ (List.mem_singleton.2 rfl))
        simp only at h9 ⊢
        have := furT_le s
        rw [lsum_snoc]
        omega
  · unfold fieldS at ht
    split at ht
    · simp at ht
    have e1 : (s.extract 0 (nameN s)).size ≤ s.size := by rw [ByteArray.size_extract]; omega
    have e2 : (trimB (s.extract (nameN s + 1) s.size)).size ≤ s.size := by
      have := trimB_le (s.extract (nameN s + 1) s.size)
      rw [ByteArray.size_extract] at this
      omega
    cases σ with
    | shut L =>
      simp only at ht
      split at ht
      · simp at ht
      simp only [Except.ok.injEq] at ht
      subst ht
      have h : Tot C L := h
      intro x hx f hf
      rcases List.mem_append.1 hx with hx | hx
      · have := h x hx f hf; omega
      · rw [List.mem_singleton] at hx
        subst hx
        have hf : f ∈ [(⟨s.extract 0 (nameN s), [trimB (s.extract (nameN s + 1) s.size)]⟩ : Fd)] := hf
        rw [List.mem_singleton] at hf
        subst hf
        simp only
        rw [lsum_one]
        omega
    | opn Lp l0 Fp nm ls =>
      simp only at ht
      split at ht
      · simp at ht
      split at ht
      · simp at ht
      simp only [Except.ok.injEq] at ht
      subst ht
      have h : Tot C (Lp ++ [⟨l0, Fp ++ [⟨nm, ls⟩]⟩]) := h
      refine h.end_ (by omega) fun f hf => ?_
      rcases List.mem_append.1 hf with hf | hf
      · have := h.last f hf; omega
      · rw [List.mem_singleton] at hf
        subst hf
        simp only
        rw [lsum_one]
        omega
theorem Tot.run : ∀ (M : List ByteArray) (i C : Nat) (σ σ' : PS), Tot C σ.all → runS M i σ = .ok σ' → Tot (C + lsum M) σ'.all
  | [], i, C, σ, σ', h, e => by
    unfold runS at e
    simp only [Except.ok.injEq] at e
    subst e
    exact h.mono (by omega)
  | x :: r, i, C, σ, σ', h, e => by
    rw [runS] at e
    cases ht : takeS x ((i : Int) + 1) σ with
    | error k => rw [ht] at e; simp at e
    | ok σ1 =>
      rw [ht] at e
      have := Tot.run r (i + 1) _ σ1 σ' (h.take ht) e
      have e2 : lsum (x :: r) = (x.size + 1) + lsum r := by unfold lsum; rw [List.map_cons, List.sum_cons]
      rw [e2]
      exact this.mono (by omega)
theorem rl_sum : ∀ (t cur : List UInt8), lsum ((rl t cur).map ofL) ≤ t.length + cur.length + 1
  | [], cur => by
    show lsum ((if cur = [] then [] else [cur]).map ofL) ≤ _
    split
    · exact Nat.zero_le _
    · rw [List.map_cons, List.map_nil, lsum_one]
      have : (ofL cur).size = cur.length := rfl
      omega
  | c :: t, cur => by
    show lsum ((if c = 10 then cur :: rl t [] else rl t (cur ++ [c])).map ofL) ≤ _
    split
    · have := rl_sum t []
      rw [List.map_cons]
      have e2 : lsum (ofL cur :: (rl t []).map ofL) = ((ofL cur).size + 1) + lsum ((rl t []).map ofL) := by unfold lsum; rw [List.map_cons, List.sum_cons]
      rw [e2]
      have : (ofL cur).size = cur.length := rfl
      rw [List.length_cons]
      simp only [List.length_nil] at *
      omega
    · have := rl_sum t (cur ++ [c])
      rw [List.length_append] at this
      rw [List.length_cons]
      simp only [List.length_cons, List.length_nil] at *
      omega
theorem Tot.parse {T : ByteArray} {σ : PS} (h : parseS T = .ok σ) : Tot (T.size + 1) σ.all := by
  unfold parseS at h
  split at h
  · next h0 =>
    have e : linesGot T = linesOf T := by unfold linesGot; rw [if_pos h0]
    rw [e] at h
    have h1 := Tot.run _ 0 0 _ _ (fun s hs => by cases hs) h
    refine h1.mono ?_
    have := rl_sum (bl T) []
    have e2 : (bl T).length = T.size := rfl
    unfold linesOf
    simp only [List.length_nil] at this
    omega
  · simp at h
theorem parse_err {T : ByteArray} {q : Int × Nat} (h : parseS T = .error q) : q.1 ≠ 0 := by
  have key : ∀ (M : List ByteArray) (i : Nat) (σ : PS) (q : Int × Nat), runS M i σ = .error q → q.1 ≠ 0 := by
    intro M
    induction M with
    | nil => intro i σ q e; unfold runS at e; simp at e
    | cons x r ih =>
      intro i σ q e
      rw [runS] at e
      cases ht : takeS x ((i : Int) + 1) σ with
      | error k =>
        rw [ht] at e
        simp only [Except.error.injEq] at e
        subst e
        exact takeS_err ht
      | ok σ1 =>
        rw [ht] at e
        exact ih _ _ _ e
  unfold parseS at h
  split at h
  · exact key _ _ _ _ h
  · next h0 =>
    simp only [Except.error.injEq] at h
    subst h
    simp only
    omega

/-- The same but for the lines' numbers. -/
def EqP : PS → PS → Prop
  | .shut L, .shut L' => fsOf L = fsOf L'
  | .opn Lp _ Fp nm ls, .opn Lp' _ Fp' nm' ls' => fsOf Lp = fsOf Lp' ∧ Fp = Fp' ∧ nm = nm' ∧ ls = ls'
  | _, _ => False
theorem EqP.all : ∀ {σ σ' : PS}, EqP σ σ' → fsOf σ.all = fsOf σ'.all
  | .shut L, .shut L', h => h
  | .opn Lp l0 Fp nm ls, .opn Lp' l0' Fp' nm' ls', h => by
    obtain ⟨h1, rfl, rfl, rfl⟩ := h
    show fsOf (Lp ++ [_]) = fsOf (Lp' ++ [_])
    unfold fsOf at h1 ⊢
    rw [List.map_append, List.map_append, h1]
    rfl
theorem fsOf_length {L M : List St} (h : fsOf L = fsOf M) : L.length = M.length := by
  have := congrArg List.length h
  unfold fsOf at this
  simpa using this
theorem EqP.take {s : ByteArray} {ln ln' : Int} : ∀ {σ σ' σ1 : PS}, EqP σ σ' → takeS s ln σ = .ok σ1 → ∃ σ1', takeS s ln' σ' = .ok σ1' ∧ EqP σ1 σ1' := by
  intro σ σ' σ1 h ht
  unfold takeS at ht ⊢
  by_cases c1 : isRem s = true
  · rw [if_pos c1] at ht ⊢
    simp only [Except.ok.injEq] at ht
    subst ht
    exact ⟨_, rfl, h⟩
  rw [if_neg c1] at ht ⊢
  by_cases c2 : (trimB s).size = 0
  · rw [if_pos c2] at ht ⊢
    simp only [Except.ok.injEq] at ht
    subst ht
    exact ⟨_, rfl, h.all⟩
  rw [if_neg c2] at ht ⊢
  by_cases c3 : isWh s = true
  · rw [if_pos c3] at ht ⊢
    cases σ with
    | shut L => unfold furS at ht; simp at ht
    | opn Lp l0 Fp nm ls =>
      cases σ' with
      | shut L' => exact h.elim
      | opn Lp' l0' Fp' nm' ls' =>
        obtain ⟨h1, rfl, rfl, rfl⟩ := h
        unfold furS at ht ⊢
        simp only [Except.ok.injEq] at ht
        subst ht
        exact ⟨_, rfl, h1, rfl, rfl, rfl⟩
  rw [if_neg c3] at ht ⊢
  unfold fieldS at ht ⊢
  by_cases c4 : nameN s = 0 ∨ nameN s = s.size
  · rw [if_pos c4] at ht; simp at ht
  rw [if_neg c4] at ht ⊢
  cases σ with
  | shut L =>
    cases σ' with
    | opn Lp' l0' Fp' nm' ls' => exact h.elim
    | shut L' =>
      have h : fsOf L = fsOf L' := h
      simp only at ht ⊢
      by_cases c5 : L.length = 200
      · rw [if_pos c5] at ht; simp at ht
      · rw [if_neg c5] at ht
        simp only [Except.ok.injEq] at ht
        subst ht
        rw [if_neg (by rw [← fsOf_length h]; exact c5)]
        exact ⟨_, rfl, h, rfl, rfl, rfl⟩
  | opn Lp l0 Fp nm ls =>
    cases σ' with
    | shut L' => exact h.elim
    | opn Lp' l0' Fp' nm' ls' =>
      obtain ⟨h1, rfl, rfl, rfl⟩ := h
      simp only at ht ⊢
      by_cases c5 : Fp.length + 1 = 40
      · rw [if_pos c5] at ht; simp at ht
      · rw [if_neg c5] at ht ⊢
        by_cases c6 : hasN (Fp ++ [⟨nm, ls⟩]) (s.extract 0 (nameN s)) = true
        · rw [if_pos c6] at ht; simp at ht
        · rw [if_neg c6] at ht ⊢
          simp only [Except.ok.injEq] at ht
          subst ht
          exact ⟨_, rfl, h1, rfl, rfl, rfl⟩
/-- A remark. -/
def remB : ByteArray := ⟨#[35, 32, 114, 101, 109, 97, 114, 107, 58, 32, 120]⟩
/-- How many of the first five places, of the first k, are a line's. -/
def cntTo (p : List Int) (j k : Nat) : Nat := ((p.take k).take 5).countP fun x => decide (x = (j : Int))
/-- A line with its remarks ahead, and empty lines behind an empty one. -/
def remAt (p : List Int) (j : Nat) (x : List UInt8) : List (List UInt8) := List.replicate (cntTo p j p.length) (bl remB) ++ x :: (if (trimB (ofL x)).size = 0 then [[32], []] else [])
def remL (p : List Int) : List (List UInt8) → Nat → List (List UInt8)
  | [], _ => []
  | x :: r, j => remAt p j x ++ remL p r (j + 1)
theorem remL_snoc (p : List Int) (x : List UInt8) : ∀ (D : List (List UInt8)) (j : Nat), remL p (D ++ [x]) j = remL p D j ++ remAt p (j + D.length) x
  | [], j => by
    show remAt p j x ++ [] = [] ++ remAt p (j + 0) x
    simp
  | y :: D, j => by
    show remAt p j y ++ remL p (D ++ [x]) (j + 1) = (remAt p j y ++ remL p D (j + 1)) ++ remAt p (j + (D.length + 1)) x
    rw [remL_snoc p x D (j + 1), List.append_assoc, show j + 1 + D.length = j + (D.length + 1) by omega]
theorem cntTo_zero (p : List Int) (j : Nat) : cntTo p j 0 = 0 := by simp [cntTo]
theorem cntTo_step {p : List Int} {j k : Nat} (h : k < p.length) : cntTo p j (k + 1) = cntTo p j k + if k < 5 ∧ p[k] = (j : Int) then 1 else 0 := by
  unfold cntTo
  rw [List.take_succ_eq_append_getElem h]
  by_cases c : k < 5
  · rw [List.take_of_length_le (by rw [List.length_append, List.length_take]; simp; omega), List.take_of_length_le (l := p.take k) (by rw [List.length_take]; omega), List.countP_append]
    by_cases c2 : p[k] = (j : Int)
    · rw [if_pos ⟨c, c2⟩]
      simp [c2]
    · rw [if_neg (fun h => c2 h.2)]
      simp [c2]
  · rw [if_neg (fun h => c h.1), List.take_append_of_le_length (by rw [List.length_take]; omega)]
    rfl
theorem cntTo_le (p : List Int) (j k : Nat) : cntTo p j k ≤ 5 := by
  unfold cntTo
  refine Nat.le_trans List.countP_le_length ?_
  rw [List.length_take]
  omega
theorem run_rems (rest : List ByteArray) (σ : PS) : ∀ (n i : Nat), ∃ i', runS ((List.replicate n (bl remB)).map ofL ++ rest) i σ = runS rest i' σ
  | 0, i => ⟨i, rfl⟩
  | n + 1, i => by
    obtain ⟨i', e⟩ := run_rems rest σ n (i + 1)
    refine ⟨i', ?_⟩
    rw [List.replicate_succ, List.map_cons, List.cons_append, ofL_bl, runS_ok9 (takeS_rem (by decide +kernel))]
    exact e
theorem blank_all {s : ByteArray} {ln : Int} {σ σ1 : PS} (h : takeS s ln σ = .ok σ1) (h0 : (trimB s).size = 0) : ∃ L, σ1 = .shut L ∨ isRem s = true := by
  by_cases c : isRem s = true
  · exact ⟨[], .inr c⟩
  · rw [takeS_blank (by simpa using c) h0] at h
    simp only [Except.ok.injEq] at h
    exact ⟨_, .inl h.symm⟩
theorem rem_ink {s : ByteArray} (h : isRem s = true) : (trimB s).size ≠ 0 := by
  unfold isRem at h
  simp only [Bool.and_eq_true, decide_eq_true_eq] at h
  exact trim_ink h.1 (by rw [h.2]; rfl)
/-- With remarks and empty lines between, the same is read. -/
theorem run_rem (p : List Int) : ∀ (D : List (List UInt8)) (j i i' : Nat) (σ σ' σe : PS), EqP σ σ' → runS (D.map ofL) i σ = .ok σe → ∃ σe', runS ((remL p D j).map ofL) i' σ' = .ok σe' ∧ EqP σe σe'
  | [], j, i, i', σ, σ', σe, h, e => by
    have e : (Except.ok σ : Except (Int × Nat) PS) = .ok σe := e
    simp only [Except.ok.injEq] at e
    subst e
    exact ⟨σ', rfl, h⟩
  | x :: D, j, i, i', σ, σ', σe, h, e => by
    rw [List.map_cons, runS] at e
    cases ht : takeS (ofL x) ((i : Int) + 1) σ with
    | error k => rw [ht] at e; simp at e
    | ok σ1 =>
      rw [ht] at e
      simp only at e
      have e0 : (remL p (x :: D) j).map ofL = (List.replicate (cntTo p j p.length) (bl remB)).map ofL ++ (ofL x :: ((if (trimB (ofL x)).size = 0 then [[32], []] else []).map ofL ++ (remL p D (j + 1)).map ofL)) := by
        show (remAt p j x ++ remL p D (j + 1)).map ofL = _
        unfold remAt
        rw [List.map_append, List.map_append, List.append_assoc]
        rfl
      rw [e0]
      obtain ⟨i2, e2⟩ := run_rems (ofL x :: ((if (trimB (ofL x)).size = 0 then [[32], []] else []).map ofL ++ (remL p D (j + 1)).map ofL)) σ' (cntTo p j p.length) i'
      rw [e2]
      obtain ⟨σ1', t1, q1⟩ := h.take (ln' := (i2 : Int) + 1) ht
      rw [runS_ok9 t1]
      by_cases c : (trimB (ofL x)).size = 0
      · rw [if_pos c]
        have hnr : isRem (ofL x) = false := by
          cases hr : isRem (ofL x) with
          | false => rfl
          | true => exact absurd c (rem_ink hr)
        have ex : takeS (ofL x) ((i : Int) + 1) σ = .ok (.shut σ.all) := takeS_blank hnr c
        rw [ht] at ex
        simp only [Except.ok.injEq] at ex
        subst ex
        have ex' : takeS (ofL x) ((i2 : Int) + 1) σ' = .ok (.shut σ'.all) := takeS_blank hnr c
        rw [t1] at ex'
        simp only [Except.ok.injEq] at ex'
        subst ex'
        have b1 : ∀ ln, takeS (ofL [32]) ln (.shut σ'.all) = .ok (.shut σ'.all) := fun ln => takeS_blank (σ := .shut σ'.all) (by decide +kernel) (by decide +kernel)
        have b2 : ∀ ln, takeS (ofL []) ln (.shut σ'.all) = .ok (.shut σ'.all) := fun ln => takeS_blank (σ := .shut σ'.all) (by decide +kernel) (by decide +kernel)
        rw [List.map_cons, List.map_cons, List.map_nil, List.cons_append, List.cons_append, List.nil_append, runS_ok9 (b1 _), runS_ok9 (b2 _)]
        exact run_rem p D (j + 1) (i + 1) _ _ _ σe q1 e
      · rw [if_neg c, List.map_nil, List.nil_append]
        exact run_rem p D (j + 1) (i + 1) _ _ _ σe q1 e
theorem rem_fine (p : List Int) : ∀ (D : List (List UInt8)) (j : Nat), Fine D → Fine (remL p D j)
  | [], j, _ => fun x hx => by cases hx
  | y :: D, j, h => fun x hx => by
    rcases List.mem_append.1 hx with hx | hx
    · unfold remAt at hx
      rcases List.mem_append.1 hx with hx | hx
      · have := List.eq_of_mem_replicate hx
        subst this
        exact ⟨by decide, by decide +kernel⟩
      · rcases List.mem_cons.1 hx with rfl | hx
        · exact h x (List.mem_cons_self ..)
        · split at hx
          · rcases List.mem_cons.1 hx with rfl | hx
            · exact ⟨by decide, by decide +kernel⟩
            · rw [List.mem_singleton] at hx
              subst hx
              exact fine_nil
          · cases hx
    · exact rem_fine p D (j + 1) (fun z hz => h z (List.mem_cons_of_mem _ hz)) x hx
/-- How many remarks there are, of all lines. -/
def cntAll (p : List Int) : Nat → Nat → Nat
  | 0, _ => 0
  | n + 1, j => cntTo p j p.length + cntAll p n (j + 1)
def cS (q : List Int) (j : Nat) : List Nat → Nat
  | [] => 0
  | m :: r => q.countP (fun x => decide (x = ((j + m : Nat) : Int))) + cS q j r
theorem cS_nil (j : Nat) : ∀ l, cS [] j l = 0
  | [] => rfl
  | m :: r => by
    show 0 + cS [] j r = 0
    rw [cS_nil j r]
theorem cS_cons (x : Int) (q : List Int) (j : Nat) : ∀ (l : List Nat), l.Nodup → cS (x :: q) j l ≤ cS q j l + 1 ∧ ((∀ m ∈ l, x ≠ ((j + m : Nat) : Int)) → cS (x :: q) j l = cS q j l)
  | [], _ => ⟨Nat.zero_le _, fun _ => rfl⟩
  | m :: r, hn => by
    rw [List.nodup_cons] at hn
    obtain ⟨h1, h2⟩ := cS_cons x q j r hn.2
    have e : cS (x :: q) j (m :: r) = (x :: q).countP (fun x => decide (x = ((j + m : Nat) : Int))) + cS (x :: q) j r := rfl
    have e' : cS q j (m :: r) = q.countP (fun x => decide (x = ((j + m : Nat) : Int))) + cS q j r := rfl
    rw [e, e', List.countP_cons]
    by_cases c : x = ((j + m : Nat) : Int)
    · have h3 := h2 (fun m' hm' h9 => by
        have : m' = m := by omega
        subst this
        exact hn.1 hm')
      rw [if_pos (decide_eq_true c), h3]
      exact ⟨by omega, fun h => absurd c (h m (List.mem_cons_self ..))⟩
    · rw [if_neg (by simpa using c)]
      exact ⟨by omega, fun h => by rw [h2 (fun m' hm' => h m' (List.mem_cons_of_mem _ hm'))]; omega⟩
theorem cS_le (j : Nat) (l : List Nat) (hn : l.Nodup) : ∀ q, cS q j l ≤ q.length
  | [] => by rw [cS_nil]; exact Nat.zero_le _
  | x :: q => by
    have h1 := (cS_cons x q j l hn).1
    have h2 := cS_le j l hn q
    rw [List.length_cons]
    omega
theorem cS_succ (q : List Int) (j : Nat) : ∀ l : List Nat, cS q j (l.map Nat.succ) = cS q (j + 1) l
  | [] => rfl
  | m :: r => by
    show q.countP (fun x => decide (x = ((j + (m + 1) : Nat) : Int))) + cS q j (r.map Nat.succ) = q.countP (fun x => decide (x = ((j + 1 + m : Nat) : Int))) + cS q (j + 1) r
    rw [cS_succ q j r, show j + 1 + m = j + (m + 1) by omega]
theorem cntAll_eq (p : List Int) : ∀ (n j : Nat), cntAll p n j = cS (p.take 5) j (List.range n)
  | 0, j => rfl
  | n + 1, j => by
    rw [cntAll, cntAll_eq p n (j + 1), List.range_succ_eq_map]
    show _ = (p.take 5).countP (fun x => decide (x = ((j + 0 : Nat) : Int))) + cS (p.take 5) j ((List.range n).map Nat.succ)
    rw [cS_succ]
    unfold cntTo
    rw [List.take_length]
    rfl
theorem cntAll_five (p : List Int) (n j : Nat) : cntAll p n j ≤ 5 := by
  rw [cntAll_eq]
  refine Nat.le_trans (cS_le j _ List.nodup_range _) ?_
  rw [List.length_take]
  omega
theorem rems_len : ∀ n, (jn (List.replicate n (bl remB))).length = 12 * n
  | 0 => rfl
  | n + 1 => by
    rw [List.replicate_succ]
    show (bl remB ++ [10] ++ jn (List.replicate n (bl remB))).length = _
    rw [List.length_append, rems_len n]
    show 11 + 1 + 12 * n = _
    omega
theorem remL_len (p : List Int) : ∀ (D : List (List UInt8)) (j : Nat), (jn (remL p D j)).length ≤ (jn D).length + 3 * D.length + 12 * cntAll p D.length j
  | [], j => Nat.zero_le _
  | x :: D, j => by
    have ih := remL_len p D (j + 1)
    show (jn (remAt p j x ++ remL p D (j + 1))).length ≤ (x ++ [10] ++ jn D).length + 3 * (D.length + 1) + 12 * (cntTo p j p.length + cntAll p D.length (j + 1))
    rw [jn_app, List.length_append]
    unfold remAt
    rw [jn_app, List.length_append, rems_len, List.length_append, List.length_append]
    show 12 * cntTo p j p.length + (x ++ [10] ++ jn (if (trimB (ofL x)).size = 0 then [[32], []] else [])).length + _ ≤ _
    rw [List.length_append, List.length_append]
    have : (jn (if (trimB (ofL x)).size = 0 then [[32], []] else [])).length ≤ 3 := by
      split
      · exact Nat.le_refl _
      · exact Nat.zero_le _
    omega
theorem jn_sum : ∀ (D : List (List UInt8)), (jn D).length = lsum (D.map ofL)
  | [] => rfl
  | x :: D => by
    rw [List.map_cons]
    have e2 : lsum (ofL x :: D.map ofL) = ((ofL x).size + 1) + lsum (D.map ofL) := by unfold lsum; rw [List.map_cons, List.sum_cons]
    rw [e2, ← jn_sum D]
    show (x ++ [10] ++ jn D).length = _
    rw [List.length_append, List.length_append]
    rfl
/-- Remarks between lines, and more empty lines, make no difference but to where stanzas begin. -/
theorem remarks_same {T : ByteArray} {σ : PS} (p : List Int) (h : parseS T = .ok σ) (hz : T.size ≤ 3000) : (jn (remL p (rl (bl T) []) 0)).length ≤ 65536 ∧ ∃ σ', parseS (ofL (jn (remL p (rl (bl T) []) 0))) = .ok σ' ∧ fsOf σ.all = fsOf σ'.all := by
  have hs := rl_sum (bl T) []
  have e2 : (bl T).length = T.size := rfl
  simp only [List.length_nil] at hs
  have hl := rl_len (bl T) []
  have h1 := remL_len p (rl (bl T) []) 0
  have h2 := cntAll_five p (rl (bl T) []).length 0
  have e3 := jn_sum (rl (bl T) [])
  have hb : (jn (remL p (rl (bl T) []) 0)).length ≤ 65536 := by omega
  refine ⟨hb, ?_⟩
  unfold parseS at h
  split at h
  · next h0 =>
    have e : linesGot T = linesOf T := by unfold linesGot; rw [if_pos h0]
    rw [e] at h
    have hf : Fine (rl (bl T) []) := by
      unfold linesErr at h0
      split at h0
      · cases h0
      · have := (chk_fine _ 0).1 h0
        intro x hx
        have h3 := this (ofL x) (List.mem_map.2 ⟨x, hx, rfl⟩)
        exact h3
    obtain ⟨l1, l2⟩ := lines_jn (rem_fine p _ 0 hf) hb
    obtain ⟨σ', e3, e4⟩ := run_rem p (rl (bl T) []) 0 0 0 (.shut []) (.shut []) σ rfl h
    refine ⟨σ', ?_, e4.all⟩
    unfold parseS
    rw [l1, if_pos rfl, l2]
    exact e3
  · simp at h
end Go.Proofs.YtjkaigfpjebfbaaDoor
