/- A region that draws its order, over an order of worlds: an operation whose value another one waits for may be taken first if it yields one value in every later world; what is ready alone is carried out where it stands; behind the last operation the world is the very one that it left. -/
import Derived.Test.YtjkaigfpjebfbaaGreatDoorMono2
namespace Go.Proofs.YtjkaigfpjebfbaaGreatDoor
open Go.RowKit
set_option linter.unusedVariables false

section
variable {P : Program} {ops : Array Oper} {Q : Exit → Act → World → Prop} {md : Region.Mode} {R : World → World → Prop}
/-- Something has not come up yet. -/
def Nd (ops : Array Oper) (listed : Array Bool) : Prop := ∃ k, k < ops.size ∧ listed.getD k true = false
def wpAnyX (P : Program) (md : Region.Mode) (ops : Array Oper) (Q : Exit → Act → World → Prop) (R : World → World → Prop) : Nat → Array Bool → Act → World → Prop
  | 0, listed, a, w => ∀ w1, (w1 = w ∨ (Nd ops listed ∧ R w w1)) → Region.ready md ops listed = [] ∧ Q .normal a w1
  | fuel + 1, listed, a, w => ∀ w1, (w1 = w ∨ (Nd ops listed ∧ R w w1)) →
    (Region.ready md ops listed = [] → Q .normal a w1) ∧
    ∀ i ∈ Region.ready md ops listed, wpOp P ops Q i (fun a' w' => R w1 w' ∧ wpAnyX P md ops Q R fuel (listed.setIfInBounds i true) a' w') a w1
theorem wpAnyX_later (hp : Pre R) {fuel : Nat} {listed : Array Bool} {a : Act} {w w1 : World} (h : wpAnyX P md ops Q R fuel listed a w) (hn : Nd ops listed) (h1 : R w w1) : wpAnyX P md ops Q R fuel listed a w1 := by
  cases fuel with
  | zero =>
    intro w2 h2
    rcases h2 with rfl | ⟨_, h2⟩
    · exact h _ (.inr ⟨hn, h1⟩)
    · exact h _ (.inr ⟨hn, hp.trans _ _ _ h1 h2⟩)
  | succ n =>
    intro w2 h2
    rcases h2 with rfl | ⟨_, h2⟩
    · exact h _ (.inr ⟨hn, h1⟩)
    · exact h _ (.inr ⟨hn, hp.trans _ _ _ h1 h2⟩)
theorem wpAny_of_X : ∀ (fuel : Nat) (listed : Array Bool) (a : Act) (w : World), wpAnyX P md ops Q R fuel listed a w → wpAny P md ops Q fuel listed a w
  | 0, _, _, w, h => h w (.inl rfl)
  | fuel + 1, _, _, w, h => ⟨(h w (.inl rfl)).1, fun i hi => wpOp_mono (fun a' w' h' => wpAny_of_X fuel _ a' w' h'.2) ((h w (.inl rfl)).2 i hi)⟩
/-- Does an operation that has not come up yet wait for number i? -/
def waited (md : Region.Mode) (ops : Array Oper) (listed : Array Bool) (i : Nat) : Bool :=
  (List.range ops.size).any fun f => f != i && !(listed.getD f true) && (match ops[f]? with | none => false | some o => o.after.any fun e => Region.binds md e && e.on == i)
theorem waited_spec {listed : Array Bool} {i : Nat} (h : waited md ops listed i = true) : ∃ f o, f < ops.size ∧ f ≠ i ∧ listed.getD f true = false ∧ ops[f]? = some o ∧ ∃ e ∈ o.after, Region.binds md e = true ∧ e.on = i := by
  unfold waited at h
  rw [List.any_eq_true] at h
  obtain ⟨f, hf, h⟩ := h
  rw [List.mem_range] at hf
  simp only [Bool.and_eq_true, bne_iff_ne, Bool.not_eq_true'] at h
  obtain ⟨⟨h1, h2⟩, h3⟩ := h
  have ho : ops[f]? = some ops[f] := Array.getElem?_eq_getElem hf
  rw [ho] at h3
  simp only [Array.any_eq_true] at h3
  obtain ⟨k, hk, h3⟩ := h3
  simp only [Bool.and_eq_true, beq_iff_eq] at h3
  exact ⟨f, ops[f], hf, h1, h2, ho, _, Array.getElem_mem hk, h3.1, h3.2⟩
theorem wpAnyX_first (hp : Pre R) {i : Nat} {oi : Oper} {v : Value} (hi : ops[i]? = some oi) (hsel : ∀ (j : Nat) (o : Oper) cs b, ops[j]? = some o → o.op ≠ .select cs b)
    (hQ : ∀ c d v a w, Q (.panic c) (Act.put a d v) w → Q (.panic c) a w) {f : Nat} {of : Oper} (hfs : f < ops.size) (hfi : f ≠ i) (hof : ops[f]? = some of) (hfa : ∃ e ∈ of.after, Region.binds md e = true ∧ e.on = i) :
    ∀ (fuel : Nat) (listed : Array Bool) (a : Act) (w : World), listed.getD f true = false →
      (∀ j oj, ops[j]? = some oj → j ≠ i → listed.getD j true = false → (∀ e ∈ oj.after, Region.binds md e = true → e.on ≠ i) → oi.apart ops oj = true) →
      i ∈ Region.ready md ops listed → YieldsM P ops R w oi v a →
      wpAnyX P md ops Q R fuel (listed.setIfInBounds i true) (a.put oi.dst v) w → wpAnyX P md ops Q R (fuel + 1) listed a w := by
  have later : ∀ {listed : Array Bool} {w w1 : World}, (w1 = w ∨ (Nd ops listed ∧ R w w1)) → R w w1 := fun h => by
    rcases h with rfl | h
    · exact hp.refl _
    · exact h.2
  intro fuel
  induction fuel with
  | zero =>
    intro listed a w hfl _ hrd hy H w1 hw1
    have hR := later hw1
    have hn : Nd ops (listed.setIfInBounds i true) := ⟨f, hfs, by rw [getD_set_ne true (Ne.symm hfi)]; exact hfl⟩
    refine ⟨fun h => (by rw [h] at hrd; cases hrd), fun j hj => ?_⟩
    by_cases hji : j = i
    · subst hji
      exact (hy.later hp.trans hR).wpOp hp.refl hi (fun w' hw' => ⟨hw', wpAnyX_later hp H hn (hp.trans _ _ _ hR hw')⟩)
    · have := ready_mono hj hji
      rw [(H w (.inl rfl)).1] at this
      cases this
  | succ fuel ih =>
    intro listed a w hfl hfree hrd hy H w1 hw1
    have hR := later hw1
    have hn : Nd ops (listed.setIfInBounds i true) := ⟨f, hfs, by rw [getD_set_ne true (Ne.symm hfi)]; exact hfl⟩
    refine ⟨fun h => (by rw [h] at hrd; cases hrd), fun j hj => ?_⟩
    by_cases hji : j = i
    · subst hji
      exact (hy.later hp.trans hR).wpOp hp.refl hi (fun w' hw' => ⟨hw', wpAnyX_later hp H hn (hp.trans _ _ _ hR hw')⟩)
    · have h1 := (H w1 (.inr ⟨hn, hR⟩)).2 j (ready_mono hj hji)
      obtain ⟨hjun, oj, hoj, hall⟩ := mem_ready.1 hj
      have hnot : ∀ e ∈ oj.after, Region.binds md e = true → e.on ≠ i := fun e he hb heq => by
        have h1 := hall e he hb
        have h0 := (mem_ready.1 hrd).1
        rw [heq] at h1
        rcases Nat.lt_or_ge i listed.size with h' | h'
        · simp [h'] at h0 h1; rw [h0] at h1; cases h1
        · simp [Array.getElem?_eq_none h'] at h1
      have hjf : j ≠ f := fun e => by
        subst e
        obtain ⟨e, he, hb, ho⟩ := hfa
        rw [hof] at hoj
        injection hoj with hoj
        subst hoj
        exact hnot e he hb ho
      have h2 := wpOp_putM hoj (hfree j oj hoj hji hjun hnot) (fun cs b => hsel i oi cs b hi) (fun cs b => hsel j oj cs b hoj) hQ hy h1
      have hfree' : ∀ k ok, ops[k]? = some ok → k ≠ i → (listed.setIfInBounds j true).getD k true = false →
          (∀ e ∈ ok.after, Region.binds md e = true → e.on ≠ i) → oi.apart ops ok = true := fun k ok hk hki hun hno => by
        refine hfree k ok hk hki ?_ hno
        by_cases hjk : j = k
        · subst hjk; exact hjun
        · rw [getD_set_ne true hjk] at hun; exact hun
      refine wpOp_mono (fun a' w' h3 => ⟨h3.2.1, ih (listed.setIfInBounds j true) a' w' (by rw [getD_set_ne true hjf]; exact hfl) hfree' (ready_mono hrd (Ne.symm hji)) (h3.1.later hp.trans (hp.trans _ _ _ hR h3.2.1)) ?_⟩) h2
      rw [Array.setIfInBounds_comm _ _ hji]
      exact h3.2.2
end
section
variable {P : Program} {ops : Array Oper} {Q : Exit → Act → World → Prop} {R : World → World → Prop}
theorem takeX (hp : Pre R) (i : Nat) {oi : Oper} {fuel : Nat} {listed : Array Bool} {a : Act} {w : World} (hi : ops[i]? = some oi)
    (hs : Region.noSelect ops = true) (hf : Region.free .any ops listed i = true) (hrd : (Region.ready .any ops listed).contains i = true) (hwt : waited .any ops listed i = true)
    (hQ : ∀ c d v a w, Q (.panic c) (Act.put a d v) w → Q (.panic c) a w)
    (h : ∀ K : Act → Prop, (∀ a, wpAnyX P .any ops Q R fuel (listed.setIfInBounds i true) a w → K a) → if Region.wanted oi (yielded ops a.tmps) then (∃ v, (∀ w1, R w w1 → oi.quietAt P a (R w1) w1 v) ∧ K (a.put oi.dst v)) else K (a.put oi.dst undef)) : wpAnyX P .any ops Q R (fuel + 1) listed a w := by
  obtain ⟨f, of, a1, a2, a3, a4, a5⟩ := waited_spec hwt
  have h1 := h (fun a => wpAnyX P .any ops Q R fuel (listed.setIfInBounds i true) a w) (fun _ h => h)
  by_cases hw : Region.wanted oi (yielded ops a.tmps) = true
  · rw [if_pos hw] at h1
    obtain ⟨v, h2, h3⟩ := h1
    exact wpAnyX_first hp hi (Region.noSelect_spec hs) hQ a1 a2 a4 a5 fuel listed a w a3 (Region.free_spec hi hf) (by simpa using hrd) (.inl ⟨hw, h2⟩) h3
  · rw [if_neg hw] at h1
    exact wpAnyX_first hp hi (Region.noSelect_spec hs) hQ a1 a2 a4 a5 fuel listed a w a3 (Region.free_spec hi hf) (by simpa using hrd) (.inr ⟨by simpa using hw, rfl⟩) h1
theorem laterX (hp : Pre R) {listed : Array Bool} {w w1 : World} (h : w1 = w ∨ (Nd ops listed ∧ R w w1)) : R w w1 := by
  rcases h with rfl | h
  · exact hp.refl _
  · exact h.2
theorem stepX {i : Nat} {oi : Oper} {fuel : Nat} {listed : Array Bool} {a : Act} {w1 : World} (hi : ops[i]? = some oi)
    (h : ∀ K : Act → World → Prop, (∀ a w', R w1 w' → wpAnyX P .any ops Q R fuel (listed.setIfInBounds i true) a w' → K a w') → if Region.wanted oi (yielded ops a.tmps) then Oper.wp P oi a w1 K Q else K (a.put oi.dst undef) w1) :
    wpOp P ops Q i (fun a' w' => R w1 w' ∧ wpAnyX P .any ops Q R fuel (listed.setIfInBounds i true) a' w') a w1 := by
  have h1 := h (fun a' w' => R w1 w' ∧ wpAnyX P .any ops Q R fuel (listed.setIfInBounds i true) a' w') (fun _ _ a b => ⟨a, b⟩)
  unfold wpOp
  simp only [hi]
  split
  · next hw => rw [if_pos hw] at h1; exact .inl h1
  · next hw => rw [if_neg hw] at h1; exact h1
theorem soloX (hp : Pre R) (i : Nat) {oi : Oper} {fuel : Nat} {listed : Array Bool} {a : Act} {w : World} (hi : ops[i]? = some oi) (hrd : Region.ready .any ops listed = [i])
    (h : ∀ w1, R w w1 → ∀ K : Act → World → Prop, (∀ a w', R w1 w' → wpAnyX P .any ops Q R fuel (listed.setIfInBounds i true) a w' → K a w') → if Region.wanted oi (yielded ops a.tmps) then Oper.wp P oi a w1 K Q else K (a.put oi.dst undef) w1) : wpAnyX P .any ops Q R (fuel + 1) listed a w := by
  intro w1 hw1
  refine ⟨fun h0 => (by rw [h0] at hrd; cases hrd), fun j hj => ?_⟩
  rw [hrd, List.mem_singleton] at hj
  subst hj
  exact stepX hi (h w1 (laterX hp hw1))
theorem twoX (hp : Pre R) (i j : Nat) {oi oj : Oper} {fuel : Nat} {listed : Array Bool} {a : Act} {w : World} (hi : ops[i]? = some oi) (hj : ops[j]? = some oj) (hrd : Region.ready .any ops listed = [i, j])
    (h : ∀ w1, R w w1 → ∀ K : Act → World → Prop, (∀ a w', R w1 w' → wpAnyX P .any ops Q R fuel (listed.setIfInBounds i true) a w' → K a w') → if Region.wanted oi (yielded ops a.tmps) then Oper.wp P oi a w1 K Q else K (a.put oi.dst undef) w1)
    (h' : ∀ w1, R w w1 → ∀ K : Act → World → Prop, (∀ a w', R w1 w' → wpAnyX P .any ops Q R fuel (listed.setIfInBounds j true) a w' → K a w') → if Region.wanted oj (yielded ops a.tmps) then Oper.wp P oj a w1 K Q else K (a.put oj.dst undef) w1) : wpAnyX P .any ops Q R (fuel + 1) listed a w := by
  intro w1 hw1
  refine ⟨fun h0 => (by rw [h0] at hrd; cases hrd), fun k hk => ?_⟩
  rw [hrd] at hk
  rcases List.mem_cons.1 hk with rfl | hk
  · exact stepX hi (h w1 (laterX hp hw1))
  · rw [List.mem_singleton] at hk
    subst hk
    exact stepX hj (h' w1 (laterX hp hw1))
/-- All have come up. -/
theorem doneX {listed : Array Bool} {a : Act} {w : World} (hn : (List.range ops.size).all (fun k => listed.getD k true) = true) (h : Q .normal a w) : ∀ fuel, wpAnyX P .any ops Q R fuel listed a w := by
  have hnd : ¬ Nd ops listed := fun ⟨k, hk, h9⟩ => by
    rw [List.all_eq_true] at hn
    have := hn k (List.mem_range.2 hk)
    rw [h9] at this
    cases this
  have hr : Region.ready .any ops listed = [] := by
    cases hrd : Region.ready .any ops listed with
    | nil => rfl
    | cons i r =>
      have hm : i ∈ Region.ready .any ops listed := by rw [hrd]; simp
      obtain ⟨h1, o, ho, _⟩ := mem_ready.1 hm
      exact absurd ⟨i, (Array.getElem?_eq_some_iff.1 ho).1, h1⟩ hnd
  intro fuel
  cases fuel with
  | zero =>
    intro w1 hw1
    rcases hw1 with rfl | h9
    · exact ⟨hr, h⟩
    · exact absurd h9.1 hnd
  | succ n =>
    intro w1 hw1
    rcases hw1 with rfl | h9
    · exact ⟨fun _ => h, by rw [hr]; simp⟩
    · exact absurd h9.1 hnd
theorem regionX {id : Nat} {a : Act} {w : World} (hm : P.follows .mixedOrders = true)
    (h : wpAnyX P .any ops (NoPanic Q) R ops.size (Array.replicate ops.size false) a w.drew) : (Code.region id ops true).wp P Q a w :=
  wp_region_noPanic (wp_region_any hm (wpAny_of_X _ _ _ _ h))
end
end Go.Proofs.YtjkaigfpjebfbaaGreatDoor
