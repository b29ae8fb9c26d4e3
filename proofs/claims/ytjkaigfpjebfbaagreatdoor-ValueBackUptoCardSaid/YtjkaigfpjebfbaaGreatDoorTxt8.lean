/- Lines: the plain law. -/
import Derived.Test.YtjkaigfpjebfbaaGreatDoorZA
import Derived.Lib.Split
namespace Go.Proofs.YtjkaigfpjebfbaaGreatDoor
open Go.Lib
set_option linter.unusedVariables false

/-- What stands between line feeds, the last piece also where it is empty. -/
def nl : List UInt8 → List UInt8 → List (List UInt8)
  | [], cur => [cur]
  | c :: t, cur => if c = 10 then cur :: nl t [] else nl t (cur ++ [c])
/-- Lines. -/
def rl : List UInt8 → List UInt8 → List (List UInt8)
  | [], cur => if cur = [] then [] else [cur]
  | c :: t, cur => if c = 10 then cur :: rl t [] else rl t (cur ++ [c])
theorem nl_free : ∀ (a cur : List UInt8), (∀ c ∈ a, c ≠ 10) → nl a cur = [cur ++ a]
  | [], cur, _ => by rw [List.append_nil]; rfl
  | c :: a, cur, h => by
    show (if c = 10 then _ else nl a (cur ++ [c])) = _
    rw [if_neg (h c (List.mem_cons_self ..)), nl_free a _ (fun d hd => h d (List.mem_cons_of_mem _ hd)), List.append_assoc]
    rfl
theorem nl_cut (b : List UInt8) : ∀ (a cur : List UInt8), (∀ c ∈ a, c ≠ 10) → nl (a ++ 10 :: b) cur = (cur ++ a) :: nl b []
  | [], cur, _ => by
    show (if (10 : UInt8) = 10 then cur :: nl b [] else _) = _
    rw [if_pos rfl, List.append_nil]
  | c :: a, cur, h => by
    show (if c = 10 then _ else nl (a ++ 10 :: b) (cur ++ [c])) = _
    rw [if_neg (h c (List.mem_cons_self ..)), nl_cut b a _ (fun d hd => h d (List.mem_cons_of_mem _ hd)), List.append_assoc]
    rfl
theorem occ_at (s : List UInt8) (j : Nat) : occAt s [10] j = true ↔ s[j]? = some 10 := by
  unfold occAt
  rcases Nat.lt_or_ge j s.length with h | h
  · rw [List.drop_eq_getElem_cons h, List.getElem?_eq_getElem h]
    simp [List.isPrefixOf]
    exact eq_comm
  · rw [List.drop_of_length_le h, List.getElem?_eq_none h]
    simp [List.isPrefixOf]
theorem free_of (s : List UInt8) (i : Nat) (h : ∀ j, j < i → occAt s [10] j = false) : ∀ c ∈ s.take i, c ≠ 10 := by
  intro c hc e
  obtain ⟨j, hj, rfl⟩ := List.mem_iff_getElem.1 hc
  rw [List.length_take] at hj
  have h1 := h j (by omega)
  have h2 : occAt s [10] j = true := (occ_at s j).2 (by rw [List.getElem?_eq_getElem (by omega)]; rw [List.getElem_take] at e; rw [e])
  rw [h1] at h2; cases h2
theorem splitK_nl : ∀ (n : Nat) (s : List UInt8), s.length ≤ n → splitK [10] 0 (count s [10]) s = nl s []
  | n, s, hn => by
    rcases index_spec s [10] with ⟨h, hno⟩ | ⟨i, h, hi, hoc, hno⟩
    · rw [count_miss h]
      have hf := free_of s s.length (fun j hj => hno j (by omega))
      rw [List.take_length] at hf
      rw [nl_free s [] hf]
      rfl
    · have hc := count_hit (s := s) (sub := [10]) (i := i) (by simp) h
      have hget := (occ_at s i).1 hoc
      have hlt : i < s.length := by
        rcases Nat.lt_or_ge i s.length with h' | h'
        · exact h'
        · rw [List.getElem?_eq_none h'] at hget; cases hget
      have hs : s = s.take i ++ 10 :: s.drop (i + 1) := by
        have e2 : s[i] = 10 := by rw [List.getElem?_eq_getElem hlt] at hget; exact Option.some.inj hget
        rw [← e2, ← List.drop_eq_getElem_cons hlt, List.take_append_drop]
      have hfree : ∀ j, j < i → occAt s [10] j = false := fun j hj => hno j hj
      rw [hc, Nat.add_comm 1]
      have e0 : ([10] : List UInt8).length = 1 := rfl
      rw [e0]
      have e1 : splitK [10] 0 (count (s.drop (i + 1)) [10] + 1) s = s.take i :: splitK [10] 0 (count (s.drop (i + 1)) [10]) (s.drop (i + 1)) := by
        show (if index s [10] == -1 then [s] else s.take ((index s [10]).toNat + 0) :: splitK [10] 0 _ (s.drop ((index s [10]).toNat + 1))) = _
        rw [h, if_neg (by rw [beq_iff_eq]; omega)]
        rfl
      rw [e1]
      match n with
      | 0 => omega
      | n + 1 =>
        rw [splitK_nl n (s.drop (i + 1)) (by rw [List.length_drop]; omega)]
        have := nl_cut (s.drop (i + 1)) (s.take i) [] (free_of s i hfree)
        rw [← hs, List.nil_append] at this
        exact this.symm
theorem nl_ends : ∀ (t cur : List UInt8), ∃ r x, nl t cur = r ++ [x] ∧ rl t cur = if x = [] then r else r ++ [x]
  | [], cur => ⟨[], cur, rfl, rfl⟩
  | c :: t, cur => by
    by_cases h : c = 10
    · obtain ⟨r, x, e1, e2⟩ := nl_ends t []
      refine ⟨cur :: r, x, ?_, ?_⟩
      · show (if c = 10 then cur :: nl t [] else _) = _
        rw [if_pos h, e1]; rfl
      · show (if c = 10 then cur :: rl t [] else _) = _
        rw [if_pos h, e2]
        split <;> rfl
    · obtain ⟨r, x, e1, e2⟩ := nl_ends t (cur ++ [c])
      refine ⟨r, x, ?_, ?_⟩
      · show (if c = 10 then _ else nl t (cur ++ [c])) = _
        rw [if_neg h, e1]
      · show (if c = 10 then _ else rl t (cur ++ [c])) = _
        rw [if_neg h, e2]
def ofL (l : List UInt8) : ByteArray := ⟨l.toArray⟩
theorem bl_ofL (l : List UInt8) : bl (ofL l) = l := rfl
theorem ofL_bl (s : ByteArray) : ofL (bl s) = s := bl_inj rfl
/-- A text's lines. -/
def linesOf (s : ByteArray) : List ByteArray := (rl (bl s) []).map ofL
theorem map_ofL_bl (l : List ByteArray) : (l.map bl).map ofL = l := by
  rw [List.map_map]
  have : (ofL ∘ bl) = id := funext ofL_bl
  rw [this, List.map_id]
theorem lines_bl (s : ByteArray) : (linesOf s).map bl = rl (bl s) [] := by
  unfold linesOf
  rw [List.map_map]
  have : (bl ∘ ofL) = id := funext bl_ofL
  rw [this, List.map_id]
def cutsOf (s : ByteArray) : List ByteArray := splitB ⟨#[10]⟩ 0 (countB s ⟨#[10]⟩) s
theorem cuts_nl (s : ByteArray) : (cutsOf s).map bl = nl (bl s) [] := by
  have h := splitB_data ⟨#[10]⟩ 0 (countB s ⟨#[10]⟩) s
  exact h.trans (splitK_nl _ _ (Nat.le_refl _))
/-- The pieces between line feeds end in one that is left out where it is empty. -/
theorem cuts_end (s : ByteArray) : ∃ r x, cutsOf s = r ++ [x] ∧ (x.size = 0 → linesOf s = r) ∧ (x.size ≠ 0 → linesOf s = cutsOf s) := by
  obtain ⟨r, x, e1, e2⟩ := nl_ends (bl s) []
  have h := cuts_nl s
  rw [e1] at h
  have h2 := congrArg (List.map ofL) h
  rw [map_ofL_bl, List.map_append] at h2
  refine ⟨r.map ofL, ofL x, h2, fun h0 => ?_, fun h0 => ?_⟩
  · have hx : x = [] := List.eq_nil_of_length_eq_zero h0
    unfold linesOf
    rw [e2, if_pos hx]
  · have hx : x ≠ [] := fun e => h0 (by rw [e]; rfl)
    unfold linesOf
    rw [e2, if_neg hx, List.map_append, h2]
/-- The first line that may not be: which error, and where. -/
def chk : List ByteArray → Nat → Nat × Nat
  | [], _ => (0, 0)
  | x :: r, i => if 1000 < x.size then (2, i + 1) else if 0 ≤ goodZ x then (3, i + 1) else chk r (i + 1)
theorem chk_fine : ∀ (l : List ByteArray) (i : Nat), (chk l i).1 = 0 ↔ ∀ x ∈ l, x.size ≤ 1000 ∧ goodZ x < 0
  | [], i => ⟨fun _ x h => (by cases h), fun _ => rfl⟩
  | x :: r, i => by
    unfold chk
    have ih := chk_fine r (i + 1)
    by_cases h1 : 1000 < x.size
    · rw [if_pos h1]
      exact ⟨fun h => (by cases h), fun h => by have := (h x (List.mem_cons_self ..)).1; omega⟩
    · rw [if_neg h1]
      by_cases h2 : 0 ≤ goodZ x
      · rw [if_pos h2]
        exact ⟨fun h => (by cases h), fun h => by have := (h x (List.mem_cons_self ..)).2; omega⟩
      · rw [if_neg h2, ih]
        refine ⟨fun h y hy => ?_, fun h y hy => h y (List.mem_cons_of_mem _ hy)⟩
        cases hy with
        | head => omega
        | tail _ hy => exact h y hy
theorem chk_app : ∀ (a b : List ByteArray) (i : Nat), (∀ x ∈ a, x.size ≤ 1000 ∧ goodZ x < 0) → chk (a ++ b) i = chk b (i + a.length)
  | [], b, i, _ => rfl
  | x :: a, b, i, h => by
    have h0 := h x (List.mem_cons_self ..)
    show (if 1000 < x.size then _ else if 0 ≤ goodZ x then _ else chk (a ++ b) (i + 1)) = _
    rw [if_neg (by omega), if_neg (by omega), chk_app a b (i + 1) (fun y hy => h y (List.mem_cons_of_mem _ hy)), List.length_cons]
    congr 1
    omega
theorem chk_long (x : ByteArray) (r : List ByteArray) (i : Nat) (h : 1000 < x.size) : chk (x :: r) i = (2, i + 1) := by unfold chk; rw [if_pos h]
theorem chk_bad (x : ByteArray) (r : List ByteArray) (i : Nat) (h : x.size ≤ 1000) (h2 : 0 ≤ goodZ x) : chk (x :: r) i = (3, i + 1) := by unfold chk; rw [if_neg (by omega), if_pos h2]
theorem chk_ok (l : List ByteArray) (h : ∀ x ∈ l, x.size ≤ 1000 ∧ goodZ x < 0) (i : Nat) : chk l i = (0, 0) := by
  have := chk_app l [] i h
  rw [List.append_nil] at this
  exact this
/-- What a text's lines come to. -/
def linesErr (s : ByteArray) : Nat × Nat := if 65536 < s.size then (2, 0) else chk (linesOf s) 0
def linesGot (s : ByteArray) : List ByteArray := if (linesErr s).1 = 0 then linesOf s else []
theorem linesErr_le (s : ByteArray) : (linesErr s).1 ≤ 3 := by
  have : ∀ (l : List ByteArray) (i : Nat), (chk l i).1 ≤ 3 := by
    intro l
    induction l with
    | nil => intro i; exact Nat.zero_le _
    | cons x r ih =>
      intro i
      unfold chk
      split
      · exact (by decide : 2 ≤ 3)
      · split
        · exact (by decide : 3 ≤ 3)
        · exact ih _
  unfold linesErr
  split
  · exact (by decide : 2 ≤ 3)
  · exact this _ _
end Go.Proofs.YtjkaigfpjebfbaaGreatDoor
