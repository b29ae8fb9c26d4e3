/- A region that draws its order, whose calls only make memory: an operation that yields one value in every later world is taken first; one that is ready alone is carried out where it stands. -/
import Derived.OrdersHeld
import Derived.Deep.Quiet
import Derived.Below
import Derived.Deep.RegionHeld3
namespace Go.Proofs.YtjkaigfpjebfbaaGreatDoor
open Go.RowKit
set_option linter.unusedVariables false

section
variable {P : Program} {ops : Array Oper} {Q : Exit → Act → World → Prop} {md : Region.Mode} {R : World → World → Prop}
/-- Whatever order is picked from here on, in whatever later world; behind every operation the world is a later one. -/
def wpAnyM (P : Program) (md : Region.Mode) (ops : Array Oper) (Q : Exit → Act → World → Prop) (R : World → World → Prop) : Nat → Array Bool → Act → World → Prop
  | 0, listed, a, w => ∀ w1, R w w1 → Region.ready md ops listed = [] ∧ Q .normal a w1
  | fuel + 1, listed, a, w => ∀ w1, R w w1 →
    (Region.ready md ops listed = [] → Q .normal a w1) ∧
    ∀ i ∈ Region.ready md ops listed, wpOp P ops Q i (fun a' w' => R w1 w' ∧ wpAnyM P md ops Q R fuel (listed.setIfInBounds i true) a' w') a w1
theorem wpAnyM_later (ht : ∀ a b c, R a b → R b c → R a c) : ∀ {fuel : Nat} {listed : Array Bool} {a : Act} {w w1 : World}, wpAnyM P md ops Q R fuel listed a w → R w w1 → wpAnyM P md ops Q R fuel listed a w1
  | 0, _, _, _, _, h, h1 => fun w2 h2 => h w2 (ht _ _ _ h1 h2)
  | _ + 1, _, _, _, _, h, h1 => fun w2 h2 => h w2 (ht _ _ _ h1 h2)
theorem wpAny_of_M (hr : ∀ a, R a a) : ∀ (fuel : Nat) (listed : Array Bool) (a : Act) (w : World), wpAnyM P md ops Q R fuel listed a w → wpAny P md ops Q fuel listed a w
  | 0, _, _, w, h => h w (hr w)
  | fuel + 1, _, _, w, h => ⟨(h w (hr w)).1, fun i hi => wpOp_mono (fun a' w' h' => wpAny_of_M hr fuel _ a' w' h'.2) ((h w (hr w)).2 i hi)⟩
/-- In state a operation o yields v in every world later than w, and leaves a later one. -/
def YieldsM (P : Program) (ops : Array Oper) (R : World → World → Prop) (w : World) (o : Oper) (v : Value) (a : Act) : Prop :=
  (Region.wanted o (yielded ops a.tmps) = true ∧ ∀ w1, R w w1 → o.quietAt P a (R w1) w1 v) ∨
  (Region.wanted o (yielded ops a.tmps) = false ∧ v = undef)
theorem YieldsM.of_same {w : World} {o : Oper} {v : Value} {a a' : Act} (hy : YieldsM P ops R w o v a) (he : execOp a'.eval o = execOp a.eval o)
    (hw : Region.wanted o (yielded ops a'.tmps) = Region.wanted o (yielded ops a.tmps)) : YieldsM P ops R w o v a' := by
  unfold YieldsM Oper.quietAt at *
  rw [he, hw]
  exact hy
theorem YieldsM.later (ht : ∀ a b c, R a b → R b c → R a c) {w w1 : World} {o : Oper} {v : Value} {a : Act} (hy : YieldsM P ops R w o v a) (h : R w w1) : YieldsM P ops R w1 o v a :=
  hy.imp (fun ⟨h1, h2⟩ => ⟨h1, fun w2 h3 => h2 w2 (ht _ _ _ h h3)⟩) id
theorem YieldsM.wpOp (hr : ∀ a, R a a) {i : Nat} {o : Oper} {v : Value} {a : Act} {w : World} (hi : ops[i]? = some o) (hy : YieldsM P ops R w o v a)
    {K : Act → World → Prop} (h : ∀ w', R w w' → K (a.put o.dst v) w') : wpOp P ops Q i K a w := by
  unfold Go.wpOp
  simp only [hi]
  rcases hy with ⟨hw, hv⟩ | ⟨hw, rfl⟩
  · simp only [hw, if_true]
    refine .inl ?_
    have h3 := hv w (hr w)
    unfold Oper.quietAt at h3
    unfold Oper.wp
    generalize (execOp a.eval o).run P w = r at *
    cases r with
    | ok n w' =>
      cases n <;> simp only [Oper.quietUpon] at h3 <;> simp only [Oper.upon]
      case value u =>
        obtain ⟨e1, e2⟩ := h3
        rw [e1, e2]
        exact h _ (hr w)
      case skip =>
        obtain ⟨e1, e2⟩ := h3
        rw [e1, ← e2]
        exact h _ (hr w)
      case enter f args =>
        obtain ⟨e1, hc⟩ := h3
        rw [e1]
        exact hc.mono fun e w'' ⟨he, hw''⟩ => by subst he; exact h _ hw''
    | halt x w' => simp only [Oper.quietUpon] at h3
  · simp only [hw, Bool.false_eq_true, if_false]; exact h w (hr w)
theorem wpOp_putM {w0 : World} {j : Nat} {oi oj : Oper} {v : Value} (hj : ops[j]? = some oj) (hap : oi.apart ops oj = true)
    (hsi : ∀ cs b, oi.op ≠ .select cs b) (hsj : ∀ cs b, oj.op ≠ .select cs b)
    (hQ : ∀ c d v a w, Q (.panic c) (Act.put a d v) w → Q (.panic c) a w) {K : Act → World → Prop} {a : Act} {w : World}
    (hy : YieldsM P ops R w0 oi v a) (h : Go.wpOp P ops Q j K (a.put oi.dst v) w) :
    Go.wpOp P ops Q j (fun a' w' => YieldsM P ops R w0 oi v a' ∧ K (a'.put oi.dst v) w') a w := by
  obtain ⟨h1, h2, h3⟩ := Oper.apart_spec hap
  have keep : ∀ (a : Act), YieldsM P ops R w0 oi v a → ∀ u, YieldsM P ops R w0 oi v (a.put oj.dst u) := fun a hy u =>
    hy.of_same (execOp_put oi hsi a oj.dst u h3) (wanted_put oi a oj.dst u h3)
  have keepD : ∀ d, YieldsM P ops R w0 oi v { a with defers := d :: a.defers } := fun d => hy.of_same rfl rfl
  unfold Go.wpOp at *
  simp only [hj] at *
  rw [wanted_put oj a oi.dst v h1] at h
  split
  · rename_i hw
    simp only [hw, if_true] at h
    rcases h with h | ⟨hasks, hlets⟩
    case inr => exact .inr ⟨by unfold Oper.asks at *; rw [execOp_put oj hsj a oi.dst v h1] at hasks; exact hasks, hlets⟩
    refine .inl ?_
    unfold Oper.wp at *
    rw [execOp_put oj hsj a oi.dst v h1] at h
    generalize (execOp a.eval oj).run P w = r at *
    cases r with
    | ok n w' =>
      cases n <;> simp only [Oper.upon] at h ⊢
      case value u => exact ⟨keep a hy u, by rw [← Act.put_comm a v u h2]; exact h⟩
      case skip => exact ⟨keep a hy _, by rw [← Act.put_comm a v undef h2]; exact h⟩
      case defer d =>
        refine ⟨keep _ (keepD d) _, ?_⟩
        rw [← Act.put_comm _ v undef h2, ← Act.put_defers]
        exact h
      case enter f args =>
        refine Calls.mono h fun e w'' he => ?_
        cases e with
        | returned u => exact ⟨keep a hy u, by rw [← Act.put_comm a v u h2]; exact he⟩
        | panicked c => exact hQ _ _ _ _ _ he
        | outgrown => exact he
      case row row args => exact Rows.mono h fun u w'' he => ⟨keep a hy u, by rw [← Act.put_comm a v u h2]; exact he⟩
    | halt x w' =>
      cases x <;> simp only [Oper.upon] at h ⊢
      case panic u => exact hQ _ _ _ _ _ h
  · rename_i hw
    simp only [hw] at h
    exact ⟨keep a hy _, by rw [← Act.put_comm a v undef h2]; exact h⟩
theorem wpAnyM_first (hr : ∀ a, R a a) (ht : ∀ a b c, R a b → R b c → R a c) {i : Nat} {oi : Oper} {v : Value} (hi : ops[i]? = some oi) (hsel : ∀ (j : Nat) (o : Oper) cs b, ops[j]? = some o → o.op ≠ .select cs b)
    (hQ : ∀ c d v a w, Q (.panic c) (Act.put a d v) w → Q (.panic c) a w) :
    ∀ (fuel : Nat) (listed : Array Bool) (a : Act) (w : World),
      (∀ j oj, ops[j]? = some oj → j ≠ i → listed.getD j true = false → (∀ e ∈ oj.after, Region.binds md e = true → e.on ≠ i) → oi.apart ops oj = true) →
      i ∈ Region.ready md ops listed → YieldsM P ops R w oi v a →
      wpAnyM P md ops Q R fuel (listed.setIfInBounds i true) (a.put oi.dst v) w → wpAnyM P md ops Q R (fuel + 1) listed a w := by
  intro fuel
  induction fuel with
  | zero =>
    intro listed a w _ hrd hy H w1 hw1
    refine ⟨fun h => (by rw [h] at hrd; cases hrd), fun j hj => ?_⟩
    by_cases hji : j = i
    · subst hji
      exact (hy.later ht hw1).wpOp hr hi (fun w' hw' => ⟨hw', wpAnyM_later ht H (ht _ _ _ hw1 hw')⟩)
    · have := ready_mono hj hji
      rw [(H w1 hw1).1] at this
      cases this
  | succ fuel ih =>
    intro listed a w hfree hrd hy H w1 hw1
    refine ⟨fun h => (by rw [h] at hrd; cases hrd), fun j hj => ?_⟩
    by_cases hji : j = i
    · subst hji
      exact (hy.later ht hw1).wpOp hr hi (fun w' hw' => ⟨hw', wpAnyM_later ht H (ht _ _ _ hw1 hw')⟩)
    · have h1 := (H w1 hw1).2 j (ready_mono hj hji)
      obtain ⟨hjun, oj, hoj, hall⟩ := mem_ready.1 hj
      have hnot : ∀ e ∈ oj.after, Region.binds md e = true → e.on ≠ i := fun e he hb heq => by
        have h1 := hall e he hb
        have h0 := (mem_ready.1 hrd).1
        rw [heq] at h1
        rcases Nat.lt_or_ge i listed.size with h' | h'
        · simp [h'] at h0 h1; rw [h0] at h1; cases h1
        · simp [Array.getElem?_eq_none h'] at h1
      have h2 := wpOp_putM hoj (hfree j oj hoj hji hjun hnot) (fun cs b => hsel i oi cs b hi) (fun cs b => hsel j oj cs b hoj) hQ hy h1
      have hfree' : ∀ k ok, ops[k]? = some ok → k ≠ i → (listed.setIfInBounds j true).getD k true = false →
          (∀ e ∈ ok.after, Region.binds md e = true → e.on ≠ i) → oi.apart ops ok = true := fun k ok hk hki hun hno => by
        refine hfree k ok hk hki ?_ hno
        by_cases hjk : j = k
        · subst hjk; exact hjun
        · rw [getD_set_ne true hjk] at hun; exact hun
      refine wpOp_mono (fun a' w' h3 => ⟨h3.2.1, ih (listed.setIfInBounds j true) a' w' hfree' (ready_mono hrd (Ne.symm hji)) (h3.1.later ht (ht _ _ _ hw1 h3.2.1)) ?_⟩) h2
      rw [Array.setIfInBounds_comm _ _ hji]
      exact h3.2.2
end
theorem NoPanic.normal' {Q : Exit → Act → World → Prop} {a : Act} {w : World} (h : Q .normal a w) : NoPanic Q .normal a w := h
/-- Later: below the heap's size nothing has turned. -/
def Lat (w w' : World) : Prop := Below w.heap.size w w'
theorem Lat.refl (w : World) : Lat w w := Below.refl _ _
theorem Lat.trans {a b c : World} (h1 : Lat a b) (h2 : Lat b c) : Lat a c := Below.trans h1 (h2.mono h1.size)
section
variable {P : Program} {ops : Array Oper} {Q : Exit → Act → World → Prop}
/-- Number i is taken first. -/
theorem wpAnyM_take (i : Nat) {oi : Oper} {fuel : Nat} {listed : Array Bool} {a : Act} {w : World} (hi : ops[i]? = some oi)
    (hs : Region.noSelect ops = true) (hf : Region.free .any ops listed i = true) (hrd : (Region.ready .any ops listed).contains i = true)
    (hQ : ∀ c d v a w, Q (.panic c) (Act.put a d v) w → Q (.panic c) a w)
    (h : ∀ K : Act → Prop, (∀ a, wpAnyM P .any ops Q Lat fuel (listed.setIfInBounds i true) a w → K a) → if Region.wanted oi (yielded ops a.tmps) then (∃ v, (∀ w1, Lat w w1 → oi.quietAt P a (Lat w1) w1 v) ∧ K (a.put oi.dst v)) else K (a.put oi.dst undef)) : wpAnyM P .any ops Q Lat (fuel + 1) listed a w := by
  have h1 := h (fun a => wpAnyM P .any ops Q Lat fuel (listed.setIfInBounds i true) a w) (fun _ h => h)
  by_cases hw : Region.wanted oi (yielded ops a.tmps) = true
  · rw [if_pos hw] at h1
    obtain ⟨v, h2, h3⟩ := h1
    exact wpAnyM_first Lat.refl (fun _ _ _ => Lat.trans) hi (Region.noSelect_spec hs) hQ fuel listed a w (Region.free_spec hi hf) (by simpa using hrd) (.inl ⟨hw, h2⟩) h3
  · rw [if_neg hw] at h1
    exact wpAnyM_first Lat.refl (fun _ _ _ => Lat.trans) hi (Region.noSelect_spec hs) hQ fuel listed a w (Region.free_spec hi hf) (by simpa using hrd) (.inr ⟨by simpa using hw, rfl⟩) h1
/-- Number i alone may come up. -/
theorem wpAnyM_solo (i : Nat) {oi : Oper} {fuel : Nat} {listed : Array Bool} {a : Act} {w : World} (hi : ops[i]? = some oi) (hrd : Region.ready .any ops listed = [i])
    (h : ∀ w1, Lat w w1 → ∀ K : Act → World → Prop, (∀ a w', Lat w1 w' → wpAnyM P .any ops Q Lat fuel (listed.setIfInBounds i true) a w' → K a w') → if Region.wanted oi (yielded ops a.tmps) then Oper.wp P oi a w1 K Q else K (a.put oi.dst undef) w1) : wpAnyM P .any ops Q Lat (fuel + 1) listed a w := by
  intro w1 hw1
  refine ⟨fun h0 => (by rw [h0] at hrd; cases hrd), fun j hj => ?_⟩
  rw [hrd, List.mem_singleton] at hj
  subst hj
  have h1 := h w1 hw1 (fun a' w' => Lat w1 w' ∧ wpAnyM P .any ops Q Lat fuel (listed.setIfInBounds j true) a' w') (fun _ _ a b => ⟨a, b⟩)
  unfold wpOp
  simp only [hi]
  split
  · next hw => rw [if_pos hw] at h1; exact .inl h1
  · next hw => rw [if_neg hw] at h1; exact h1
/-- Two may come up. -/
theorem wpAnyM_two (i j : Nat) {oi oj : Oper} {fuel : Nat} {listed : Array Bool} {a : Act} {w : World} (hi : ops[i]? = some oi) (hj : ops[j]? = some oj) (hrd : Region.ready .any ops listed = [i, j])
    (h : ∀ w1, Lat w w1 → ∀ K : Act → World → Prop, (∀ a w', Lat w1 w' → wpAnyM P .any ops Q Lat fuel (listed.setIfInBounds i true) a w' → K a w') → if Region.wanted oi (yielded ops a.tmps) then Oper.wp P oi a w1 K Q else K (a.put oi.dst undef) w1)
    (h' : ∀ w1, Lat w w1 → ∀ K : Act → World → Prop, (∀ a w', Lat w1 w' → wpAnyM P .any ops Q Lat fuel (listed.setIfInBounds j true) a w' → K a w') → if Region.wanted oj (yielded ops a.tmps) then Oper.wp P oj a w1 K Q else K (a.put oj.dst undef) w1) : wpAnyM P .any ops Q Lat (fuel + 1) listed a w := by
  intro w1 hw1
  refine ⟨fun h0 => (by rw [h0] at hrd; cases hrd), fun k hk => ?_⟩
  rw [hrd] at hk
  rcases List.mem_cons.1 hk with rfl | hk
  · have h1 := h w1 hw1 (fun a' w' => Lat w1 w' ∧ wpAnyM P .any ops Q Lat fuel (listed.setIfInBounds k true) a' w') (fun _ _ a b => ⟨a, b⟩)
    unfold wpOp
    simp only [hi]
    split
    · next hw => rw [if_pos hw] at h1; exact .inl h1
    · next hw => rw [if_neg hw] at h1; exact h1
  · rw [List.mem_singleton] at hk
    subst hk
    have h1 := h' w1 hw1 (fun a' w' => Lat w1 w' ∧ wpAnyM P .any ops Q Lat fuel (listed.setIfInBounds k true) a' w') (fun _ _ a b => ⟨a, b⟩)
    unfold wpOp
    simp only [hj]
    split
    · next hw => rw [if_pos hw] at h1; exact .inl h1
    · next hw => rw [if_neg hw] at h1; exact h1
theorem wpAnyM_done {listed : Array Bool} {a : Act} {w : World} (hr : Region.ready .any ops listed = []) (h : ∀ w1, Lat w w1 → Q .normal a w1) :
    ∀ fuel, wpAnyM P .any ops Q Lat fuel listed a w
  | 0 => fun w1 hw1 => ⟨hr, h w1 hw1⟩
  | _ + 1 => fun w1 hw1 => ⟨fun _ => h w1 hw1, by rw [hr]; simp⟩
theorem wp_region_M {id : Nat} {a : Act} {w : World} (hm : P.follows .mixedOrders = true)
    (h : wpAnyM P .any ops (NoPanic Q) Lat ops.size (Array.replicate ops.size false) a w.drew) : (Code.region id ops true).wp P Q a w :=
  wp_region_noPanic (wp_region_any hm (wpAny_of_M Lat.refl _ _ _ _ h))
end
end Go.Proofs.YtjkaigfpjebfbaaGreatDoor
