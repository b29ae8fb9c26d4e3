/- Clauses of literals: the plain law. No program is named here. -/
import Derived.Lib.SlicesCompact
namespace Go.Proofs.Ytghfelfljblkbaa
set_option linter.unusedVariables false
namespace Cf

/-- A literal's variable. -/
def va (z : Int) : Nat := z.natAbs
theorem va_cases {x y : Int} (h : va x = va y) : x = y ∨ x = -y := by unfold va at h; omega
theorem va_neg (x : Int) : va (-x) = va x := by unfold va; omega
theorem va_zero {x : Int} : va x = 0 ↔ x = 0 := by unfold va; omega
/-- Each variable once, in order. -/
def Sd (l : List Int) : Prop := l.Pairwise fun x y => va x < va y
theorem Sd.cons {x : Int} {l : List Int} (h : Sd (x :: l)) : (∀ y ∈ l, va x < va y) ∧ Sd l := List.pairwise_cons.1 h
/-- A list that is in order is told by what it holds. -/
theorem Sd.unique : ∀ {a b : List Int}, Sd a → Sd b → (∀ x, x ∈ a ↔ x ∈ b) → a = b
  | [], [], _, _, _ => rfl
  | [], y :: b, _, _, h => absurd ((h y).2 (.head _)) (by simp)
  | x :: a, [], _, _, h => absurd ((h x).1 (.head _)) (by simp)
  | x :: a, y :: b, ha, hb, h => by
    obtain ⟨ha1, ha2⟩ := ha.cons
    obtain ⟨hb1, hb2⟩ := hb.cons
    have e : x = y := by
      rcases List.mem_cons.1 ((h x).1 (.head _)) with e | e
      · exact e
      · rcases List.mem_cons.1 ((h y).2 (.head _)) with e2 | e2
        · exact e2.symm
        · have h1 := hb1 x e
          have h2 := ha1 y e2
          omega
    subst e
    congr 1
    refine Sd.unique ha2 hb2 fun z => ⟨fun hz => ?_, fun hz => ?_⟩
    · rcases List.mem_cons.1 ((h z).1 (.tail _ hz)) with e | e
      · subst e; have := ha1 z hz; omega
      · exact e
    · rcases List.mem_cons.1 ((h z).2 (.tail _ hz)) with e | e
      · subst e; have := hb1 z hz; omega
      · exact e
/-- What a tidy clause is of literals. -/
structure Good (r c : List Int) : Prop where
  sd : Sd r
  mem : ∀ x, x ∈ r ↔ x ∈ c
  no0 : (0 : Int) ∉ c
def Bad (c : List Int) : Prop := (0 : Int) ∈ c ∨ ∃ x ∈ c, ∃ y ∈ c, va x = va y ∧ x ≠ y
theorem Good.not_bad {r c : List Int} (h : Good r c) : ¬ Bad c := by
  rintro (h0 | ⟨x, hx, y, hy, hv, hn⟩)
  · exact h.no0 h0
  · have hx' := (h.mem x).2 hx
    have hy' := (h.mem y).2 hy
    have key : ∀ l : List Int, Sd l → x ∈ l → y ∈ l → False := fun l => by
      induction l with
      | nil => intro _ h; cases h
      | cons z l ih =>
        intro hs h1 h2
        obtain ⟨hz, hl⟩ := hs.cons
        rcases List.mem_cons.1 h1 with e1 | e1
        · rcases List.mem_cons.1 h2 with e2 | e2
          · exact hn (e1.trans e2.symm)
          · subst e1; have := hz y e2; omega
        · rcases List.mem_cons.1 h2 with e2 | e2
          · subst e2; have := hz x e1; omega
          · exact ih hl e1 e2
    exact key r h.sd hx' hy'
/-- A literal more: behind all of less variables. -/
def ins (out : List Int) (l : Int) : Option (List Int) :=
  match out.dropWhile (fun x => decide (va x < va l)) with
  | [] => some (out ++ [l])
  | x :: r => if x = l then some out else if va x = va l then none else some (out.takeWhile (fun x => decide (va x < va l)) ++ l :: (x :: r))
def step (o : Option (List Int)) (l : Int) : Option (List Int) :=
  match o with
  | none => none
  | some out => if l = 0 then none else ins out l
def tidy (c : List Int) : Option (List Int) := c.foldl step (some [])
theorem step_none (c : List Int) : c.foldl step none = none := by
  induction c with
  | nil => rfl
  | cons x c ih => exact ih
theorem drop_ge {out : List Int} {l x : Int} {r : List Int} (h : Sd out) (e : out.dropWhile (fun x => decide (va x < va l)) = x :: r) : ¬ va x < va l := by
  intro hlt
  have := List.head?_dropWhile_not (fun x => decide (va x < va l)) out
  rw [e] at this
  simp [hlt] at this
theorem take_lt (out : List Int) (l : Int) : ∀ y ∈ out.takeWhile (fun x => decide (va x < va l)), va y < va l := by
  intro y hy
  have := List.all_takeWhile (l := out) (p := fun x => decide (va x < va l))
  rw [List.all_eq_true] at this
  simpa using this y hy
theorem ins_good {out : List Int} {l : Int} (h : Sd out) : (∀ r, ins out l = some r → Sd r ∧ ∀ x, x ∈ r ↔ x ∈ out ∨ x = l) ∧ (ins out l = none → ∃ x ∈ out, va x = va l ∧ x ≠ l) := by
  have htd := List.takeWhile_append_dropWhile (p := fun x => decide (va x < va l)) (l := out)
  have ht := take_lt out l
  unfold ins
  generalize hd : out.dropWhile (fun x => decide (va x < va l)) = d at *
  cases d with
  | nil =>
    dsimp only
    refine ⟨fun r hr => ?_, fun hr => by cases hr⟩
    obtain rfl := Option.some.inj hr
    rw [List.append_nil] at htd
    rw [htd] at ht
    refine ⟨?_, fun x => by simp⟩
    unfold Sd
    rw [List.pairwise_append]
    exact ⟨h, by simp, fun a ha b hb => by simp at hb; subst hb; exact ht a ha⟩
  | cons x r0 =>
    have hge := drop_ge h hd
    have hx : x ∈ out := by rw [← htd]; simp
    dsimp only
    by_cases e1 : x = l
    · rw [if_pos e1]
      refine ⟨fun r hr => ?_, fun hr => by cases hr⟩
      obtain rfl := Option.some.inj hr
      refine ⟨h, fun z => ⟨fun hz => .inl hz, fun hz => ?_⟩⟩
      rcases hz with hz | hz
      · exact hz
      · rw [hz, ← e1]; exact hx
    · rw [if_neg e1]
      by_cases e2 : va x = va l
      · rw [if_pos e2]
        exact ⟨fun r hr => (by cases hr), fun _ => ⟨x, hx, e2, e1⟩⟩
      · rw [if_neg e2]
        refine ⟨fun r hr => ?_, fun hr => by cases hr⟩
        obtain rfl := Option.some.inj hr
        have hs : Sd (out.takeWhile (fun x => decide (va x < va l)) ++ x :: r0) := by rw [htd]; exact h
        unfold Sd at hs
        rw [List.pairwise_append, List.pairwise_cons] at hs
        obtain ⟨s1, ⟨s2, s3⟩, s4⟩ := hs
        constructor
        · unfold Sd
          rw [List.pairwise_append, List.pairwise_cons, List.pairwise_cons]
          refine ⟨s1, ⟨fun b hb => ?_, s2, s3⟩, fun a ha b hb => ?_⟩
          · rcases List.mem_cons.1 hb with e | e
            · subst e; omega
            · have := s2 b e; omega
          · rcases List.mem_cons.1 hb with e | e
            · subst e; exact ht a ha
            · exact s4 a ha b e
        · intro z
          have hz : z ∈ out ↔ z ∈ out.takeWhile (fun x => decide (va x < va l)) ∨ z = x ∨ z ∈ r0 := by
            rw [← htd]
            rw [htd]
            conv => lhs; rw [← htd]
            rw [List.mem_append, List.mem_cons]
          rw [hz]
          simp only [List.mem_append, List.mem_cons]
          constructor
          · rintro (h | h | h | h)
            · exact .inl (.inl h)
            · exact .inr h
            · exact .inl (.inr (.inl h))
            · exact .inl (.inr (.inr h))
          · rintro ((h | h | h) | h)
            · exact .inl h
            · exact .inr (.inr (.inl h))
            · exact .inr (.inr (.inr h))
            · exact .inr (.inl h)
theorem fold_good : ∀ (c : List Int) (out : List Int), Sd out → (∀ r, c.foldl step (some out) = some r → Sd r ∧ (∀ x, x ∈ r ↔ x ∈ out ∨ x ∈ c) ∧ (0 : Int) ∉ c) ∧ (c.foldl step (some out) = none → (0 : Int) ∈ c ∨ ∃ x, (x ∈ out ∨ x ∈ c) ∧ ∃ y ∈ c, va x = va y ∧ x ≠ y)
  | [], out, h => ⟨fun r hr => by obtain rfl := Option.some.inj hr; exact ⟨h, fun x => (by simp), by simp⟩, fun hr => by cases hr⟩
  | l :: c, out, h => by
    rw [List.foldl_cons]
    by_cases h0 : l = 0
    · have e : step (some out) l = none := by unfold step; dsimp only; rw [if_pos h0]
      rw [e, step_none]
      exact ⟨fun r hr => (by cases hr), fun _ => .inl (by rw [h0]; exact .head _)⟩
    · have e : step (some out) l = ins out l := by unfold step; dsimp only; rw [if_neg h0]
      rw [e]
      obtain ⟨g1, g2⟩ := ins_good (l := l) h
      cases hi : ins out l with
      | none =>
        rw [step_none]
        obtain ⟨x, hx, hv, hn⟩ := g2 hi
        exact ⟨fun r hr => (by cases hr), fun _ => .inr ⟨x, .inl hx, l, .head _, hv, hn⟩⟩
      | some o2 =>
        obtain ⟨s1, s2⟩ := g1 o2 hi
        obtain ⟨f1, f2⟩ := fold_good c o2 s1
        refine ⟨fun r hr => ?_, fun hr => ?_⟩
        · obtain ⟨a1, a2, a3⟩ := f1 r hr
          refine ⟨a1, fun x => ?_, fun h => ?_⟩
          · rw [a2, s2, List.mem_cons, or_assoc]
          · rcases List.mem_cons.1 h with h | h
            · exact h0 h.symm
            · exact a3 h
        · rcases f2 hr with h | ⟨x, hx, y, hy, hv, hn⟩
          · exact .inl (.tail _ h)
          · refine .inr ⟨x, ?_, y, .tail _ hy, hv, hn⟩
            rw [s2] at hx
            rcases hx with (hx | hx) | hx
            · exact .inl hx
            · exact .inr (by rw [hx]; exact .head _)
            · exact .inr (.tail _ hx)
theorem tidy_good {c r : List Int} (h : tidy c = some r) : Good r c := by
  obtain ⟨a1, a2, a3⟩ := (fold_good c [] List.Pairwise.nil).1 r h
  exact ⟨a1, fun x => (by rw [a2]; simp), a3⟩
theorem tidy_bad {c : List Int} (h : tidy c = none) : Bad c := by
  rcases (fold_good c [] List.Pairwise.nil).2 h with h | ⟨x, hx, y, hy, hv, hn⟩
  · exact .inl h
  · exact .inr ⟨x, hx.elim (fun h => by cases h) id, y, hy, hv, hn⟩
theorem tidy_of_good {c r : List Int} (h : Good r c) : tidy c = some r := by
  cases e : tidy c with
  | none => exact absurd (tidy_bad e) h.not_bad
  | some q =>
    have g := tidy_good e
    rw [g.sd.unique h.sd fun x => by rw [g.mem, h.mem]]
theorem tidy_of_bad {c : List Int} (h : Bad c) : tidy c = none := by
  cases e : tidy c with
  | none => rfl
  | some q => exact absurd h (tidy_good e).not_bad
/-- In order by variables, no two alike. -/
def Ws (k : List Int) : Prop := k.Pairwise fun x y => va x ≤ va y ∧ x ≠ y
theorem Ws.at {k : List Int} (h : Ws k) {i j : Nat} (hi : i < j) (hj : j < k.length) : va (k[i]'(by omega)) ≤ va k[j] ∧ k[i]'(by omega) ≠ k[j] := List.pairwise_iff_getElem.1 h i j (by omega) hj hi
theorem tidy_some {k c : List Int} (h : Ws k) (hm : ∀ x, x ∈ k ↔ x ∈ c) (hok : ∀ i (hi : i < k.length), k[i] ≠ 0 ∧ (∀ h0 : 0 < i, va (k[i - 1]'(by omega)) ≠ va k[i])) : tidy c = some k := by
  refine tidy_of_good ⟨?_, hm, fun h0 => ?_⟩
  · refine List.pairwise_iff_getElem.2 fun i j hi hj hij => ?_
    have h1 := (hok j hj).2 (by omega)
    have h2 := (h.at (i := j - 1) (j := j) (by omega) hj).1
    rcases Nat.lt_or_ge i (j - 1) with h3 | h3
    · have h4 := (h.at (i := i) (j := j - 1) h3 (by omega)).1
      omega
    · have e : i = j - 1 := by omega
      subst e
      omega
  · obtain ⟨i, hi, e⟩ := List.mem_iff_getElem.1 ((hm 0).2 h0)
    exact (hok i hi).1 e
theorem tidy_none {k c : List Int} (h : Ws k) (hm : ∀ x, x ∈ k ↔ x ∈ c) {i : Nat} (hi : i < k.length) (hb : k[i] = 0 ∨ ∃ h0 : 0 < i, va (k[i - 1]'(by omega)) = va k[i]) : tidy c = none := by
  refine tidy_of_bad ?_
  rcases hb with h0 | ⟨h0, hv⟩
  · exact .inl ((hm 0).1 (h0 ▸ List.getElem_mem hi))
  · exact .inr ⟨_, (hm _).1 (List.getElem_mem (l := k) (n := i - 1) (by omega)), _, (hm _).1 (List.getElem_mem hi), hv, (h.at (i := i - 1) (j := i) (by omega) hi).2⟩
/-- Runs of one number each made one, of a list in order. -/
theorem compact_ws {s : List Int} {le : Int → Int → Prop} (hs : ∀ i j, i < j → j < s.length → le s.toArray[i]! s.toArray[j]!) (hanti : ∀ x y, x ∈ s → y ∈ s → le x y → le y x → x = y) (htr : ∀ x y z, x ∈ s → y ∈ s → z ∈ s → le x y → le y z → le x z) (hva : ∀ x y, x ∈ s → y ∈ s → le x y → va x ≤ va y) :
    Ws (Lib.compact s) ∧ ∀ x, x ∈ Lib.compact s ↔ x ∈ s := by
  have hmem : ∀ j, j < s.length → s.toArray[j]! ∈ s := fun j hj => by
    have : s.toArray[j]! = s[j] := by simp [hj]
    rw [this]; exact List.getElem_mem hj
  have key : ∀ m, m ≤ s.length → (Lib.compactUpTo s.toArray m).Pairwise (fun x y => le x y ∧ x ≠ y) ∧ ∀ x, x ∈ Lib.compactUpTo s.toArray m ↔ ∃ j, j < m ∧ s.toArray[j]! = x := by
    intro m
    induction m with
    | zero => intro _; exact ⟨by simp [Lib.compactUpTo], fun x => by simp [Lib.compactUpTo]⟩
    | succ m ih =>
      intro hm
      obtain ⟨p1, p2⟩ := ih (by omega)
      rw [Lib.compactUpTo_succ]
      by_cases hk : m = 0 ∨ s.toArray[m]! ≠ s.toArray[m - 1]!
      · have e : Lib.keeps s.toArray m = true := decide_eq_true hk
        rw [e, if_pos rfl]
        refine ⟨?_, fun x => ?_⟩
        · rw [List.pairwise_append]
          refine ⟨p1, by simp, fun a ha b hb => ?_⟩
          simp only [List.mem_singleton] at hb
          subst hb
          obtain ⟨j, hj, rfl⟩ := (p2 a).1 ha
          have h1 := hs j m hj (by omega)
          refine ⟨h1, fun e2 => ?_⟩
          rcases hk with hk | hk
          · omega
          · rcases Nat.lt_or_ge j (m - 1) with h3 | h3
            · have h4 := hs j (m - 1) h3 (by omega)
              have h5 := hs (m - 1) m (by omega) (by omega)
              rw [e2] at h4
              exact hk (hanti _ _ (hmem _ (by omega)) (hmem _ (by omega)) h4 h5)
            · have e3 : j = m - 1 := by omega
              subst e3
              exact hk e2.symm
        · rw [List.mem_append, p2, List.mem_singleton]
          constructor
          · rintro (⟨j, hj, e3⟩ | e3)
            · exact ⟨j, by omega, e3⟩
            · exact ⟨m, by omega, e3.symm⟩
          · rintro ⟨j, hj, e3⟩
            rcases Nat.lt_or_ge j m with h3 | h3
            · exact .inl ⟨j, h3, e3⟩
            · have : j = m := by omega
              subst this
              exact .inr e3.symm
      · have e : Lib.keeps s.toArray m = false := decide_eq_false hk
        have hk0 : ¬ m = 0 := fun h => hk (.inl h)
        have hke : s.toArray[m]! = s.toArray[m - 1]! := Classical.byContradiction fun h => hk (.inr h)
        rw [e, if_neg (by decide), List.append_nil]
        refine ⟨p1, fun x => ?_⟩
        rw [p2]
        constructor
        · rintro ⟨j, hj, e3⟩
          exact ⟨j, by omega, e3⟩
        · rintro ⟨j, hj, e3⟩
          rcases Nat.lt_or_ge j m with h3 | h3
          · exact ⟨j, h3, e3⟩
          · have : j = m := by omega
            subst this
            exact ⟨j - 1, by omega, hke.symm.trans e3⟩
  obtain ⟨p1, p2⟩ := key s.length (Nat.le_refl _)
  have hmm : ∀ x, x ∈ Lib.compact s ↔ x ∈ s := fun x => by
    unfold Lib.compact
    rw [p2]
    constructor
    · rintro ⟨j, hj, rfl⟩; exact hmem j hj
    · intro hx
      obtain ⟨j, hj, e⟩ := List.mem_iff_getElem.1 hx
      exact ⟨j, hj, by simp [hj, e]⟩
  refine ⟨?_, hmm⟩
  refine List.Pairwise.imp_of_mem (fun {a b} ha hb h => ⟨hva a b ((hmm a).1 ha) ((hmm b).1 hb) h.1, h.2⟩) p1
theorem ins_len {out r : List Int} {l : Int} (h : ins out l = some r) : r.length ≤ out.length + 1 := by
  have htd := List.takeWhile_append_dropWhile (p := fun x => decide (va x < va l)) (l := out)
  unfold ins at h
  generalize hd : out.dropWhile (fun x => decide (va x < va l)) = d at *
  cases d with
  | nil => obtain rfl := Option.some.inj h; simp
  | cons x r0 =>
    dsimp only at h
    split at h
    · obtain rfl := Option.some.inj h; omega
    · split at h
      · cases h
      · obtain rfl := Option.some.inj h
        have hl := congrArg List.length htd
        rw [List.length_append, List.length_cons] at hl
        rw [List.length_append, List.length_cons, List.length_cons]
        omega
theorem fold_len : ∀ (c out r : List Int), c.foldl step (some out) = some r → r.length ≤ out.length + c.length
  | [], out, r, h => by obtain rfl := Option.some.inj h; simp
  | l :: c, out, r, h => by
    rw [List.foldl_cons] at h
    cases hs : step (some out) l with
    | none => rw [hs, step_none] at h; cases h
    | some o2 =>
      rw [hs] at h
      have h1 := fold_len c o2 r h
      have h2 : o2.length ≤ out.length + 1 := by
        unfold step at hs
        dsimp only at hs
        split at hs
        · cases hs
        · exact ins_len hs
      rw [List.length_cons]; omega
theorem tidy_len {c r : List Int} (h : tidy c = some r) : r.length ≤ c.length := by
  have := fold_len c [] r h
  simpa using this
theorem split_at {l : Int} : ∀ {o : List Int} {k : Nat}, k ≤ o.length → (∀ j, j < k → va (o.getD j 0) < va l) → (k < o.length → ¬ va (o.getD k 0) < va l) →
    o.takeWhile (fun x => decide (va x < va l)) = o.take k ∧ o.dropWhile (fun x => decide (va x < va l)) = o.drop k
  | [], k, hk, _, _ => by simp
  | x :: o, 0, _, _, h2 => by
    have h := h2 (by simp)
    have e : decide (va x < va l) = false := decide_eq_false h
    exact ⟨by simp [e], by simp [e]⟩
  | x :: o, k + 1, hk, h1, h2 => by
    have h := h1 0 (by omega)
    have e : decide (va x < va l) = true := decide_eq_true h
    obtain ⟨e1, e2⟩ := split_at (o := o) (k := k) (by simpa using hk) (fun j hj => by simpa using h1 (j + 1) (by omega)) (fun h => by simpa using h2 (by simpa using h))
    exact ⟨by simp [e, e1], by simp [e, e2]⟩
theorem ins_end {o : List Int} {l : Int} {k : Nat} (hk : k ≤ o.length) (h1 : ∀ j, j < k → va (o.getD j 0) < va l) (h2 : k < o.length → ¬ va (o.getD k 0) < va l) (h3 : ¬ (k < o.length ∧ o.getD k 0 = l)) (h4 : ¬ (k < o.length ∧ va (o.getD k 0) = va l)) : ins o l = some (o.take k ++ l :: o.drop k) := by
  obtain ⟨e1, e2⟩ := split_at hk h1 h2
  unfold ins
  rw [e1, e2]
  rcases Nat.lt_or_ge k o.length with h | h
  · rw [List.drop_eq_getElem_cons h]
    dsimp only
    have e3 : o.getD k 0 = o[k] := by rw [List.getD_eq_getElem?_getD, List.getElem?_eq_getElem h]; rfl
    rw [e3] at h3 h4
    rw [if_neg (fun e => h3 ⟨h, e⟩), if_neg (fun e => h4 ⟨h, e⟩)]
  · rw [List.drop_of_length_le h]
    dsimp only
    rw [List.take_of_length_le h]
theorem ins_is {o : List Int} {l : Int} {k : Nat} (h1 : ∀ j, j < k → va (o.getD j 0) < va l) (h2 : k < o.length → ¬ va (o.getD k 0) < va l) (h : k < o.length) (h3 : o.getD k 0 = l) : ins o l = some o := by
  obtain ⟨e1, e2⟩ := split_at (Nat.le_of_lt h) h1 h2
  unfold ins
  rw [e1, e2, List.drop_eq_getElem_cons h]
  dsimp only
  have e3 : o.getD k 0 = o[k] := by rw [List.getD_eq_getElem?_getD, List.getElem?_eq_getElem h]; rfl
  rw [e3] at h3
  rw [if_pos h3]
theorem ins_bad {o : List Int} {l : Int} {k : Nat} (h1 : ∀ j, j < k → va (o.getD j 0) < va l) (h2 : k < o.length → ¬ va (o.getD k 0) < va l) (h : k < o.length) (h3 : o.getD k 0 ≠ l) (h4 : va (o.getD k 0) = va l) : ins o l = none := by
  obtain ⟨e1, e2⟩ := split_at (Nat.le_of_lt h) h1 h2
  unfold ins
  rw [e1, e2, List.drop_eq_getElem_cons h]
  dsimp only
  have e3 : o.getD k 0 = o[k] := by rw [List.getD_eq_getElem?_getD, List.getElem?_eq_getElem h]; rfl
  rw [e3] at h3 h4
  rw [if_neg h3, if_pos h4]
end Cf
end Go.Proofs.Ytghfelfljblkbaa
