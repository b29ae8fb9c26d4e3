/- Lines put together; words put together: the plain law. -/
import Derived.Test.YtdchnllflodmkaaDoorTxt8
namespace Go.Proofs.YtdchnllflodmkaaDoor
open Go.Lib
set_option linter.unusedVariables false

/-- Lines, each with its line feed. -/
def jn : List (List UInt8) → List UInt8
  | [] => []
  | x :: r => x ++ [10] ++ jn r
theorem jn_snoc (x : List UInt8) : ∀ (a : List (List UInt8)), jn (a ++ [x]) = jn a ++ (x ++ [10])
  | [] => by show x ++ [10] ++ [] = _; rw [List.append_nil]; rfl
  | y :: a => by
    show y ++ [10] ++ jn (a ++ [x]) = (y ++ [10] ++ jn a) ++ _
    rw [jn_snoc x a, List.append_assoc, List.append_assoc, List.append_assoc]
def fin (cur t : List UInt8) : List UInt8 := cur ++ t ++ (if cur ++ t = [] then [] else if (cur ++ t).getLast? = some 10 ∧ t ≠ [] then [] else [10])
theorem fin_feed (cur t : List UInt8) : fin cur (10 :: t) = cur ++ [10] ++ fin [] t := by
  unfold fin
  rw [if_neg (by simp), List.nil_append]
  by_cases h : t = []
  · subst h
    rw [if_pos ⟨by simp, by simp⟩, if_pos rfl]
    simp
  · rw [if_neg h]
    have e : (cur ++ 10 :: t).getLast? = t.getLast? := by
      rw [List.getLast?_append]
      cases t with
      | nil => exact absurd rfl h
      | cons c r =>
        cases h9 : (c :: r).getLast? with
        | none => exact absurd h9 (by simp)
        | some v => simp [h9]
    rw [e]
    by_cases h2 : t.getLast? = some 10
    · rw [if_pos ⟨h2, by simp⟩, if_pos ⟨h2, h⟩]; simp
    · rw [if_neg (fun h3 => h2 h3.1), if_neg (fun h3 => h2 h3.1)]; simp
theorem fin_ink (cur t : List UInt8) (c : UInt8) (hc : c ≠ 10) : fin cur (c :: t) = fin (cur ++ [c]) t := by
  unfold fin
  have e1 : cur ++ [c] ++ t = cur ++ c :: t := by simp
  rw [e1, if_neg (show ¬ cur ++ c :: t = [] by simp), if_neg (show ¬ cur ++ c :: t = [] by simp)]
  congr 1
  by_cases h : t = []
  · subst h
    rw [if_neg (fun h3 => hc (by simpa using h3.1)), if_neg (fun h3 => h3.2 rfl)]
  · by_cases h2 : (cur ++ c :: t).getLast? = some 10
    · rw [if_pos ⟨h2, by simp⟩, if_pos ⟨h2, h⟩]
    · rw [if_neg (fun h3 => h2 h3.1), if_neg (fun h3 => h2 h3.1)]
theorem jn_rl : ∀ (t cur : List UInt8), jn (rl t cur) = fin cur t
  | [], cur => by
    show jn (if cur = [] then [] else [cur]) = _
    unfold fin
    rw [List.append_nil]
    by_cases h : cur = []
    · rw [if_pos h, if_pos h, h]; rfl
    · rw [if_neg h, if_neg h, if_neg (fun h2 => h2.2 rfl)]
      show cur ++ [10] ++ [] = _
      rw [List.append_nil]
  | c :: t, cur => by
    show jn (if c = 10 then cur :: rl t [] else rl t (cur ++ [c])) = _
    by_cases h : c = 10
    · rw [if_pos h, h, fin_feed, ← jn_rl t []]; rfl
    · rw [if_neg h, fin_ink _ _ _ h, jn_rl t _]
/-- Lines put together as far as a place. -/
def AllTo (M : List ByteArray) (i : Nat) (a : ByteArray) : Prop := bl a = jn ((M.take i).map bl)
theorem AllTo.start (M : List ByteArray) : AllTo M 0 ⟨#[]⟩ := rfl
theorem AllTo.step {M : List ByteArray} {i : Nat} {a : ByteArray} (h : AllTo M i a) (hi : i < M.length) : AllTo M (i + 1) (a ++ (M[i] ++ ⟨#[10]⟩)) := by
  unfold AllTo at *
  rw [bl_app, bl_app, h, List.take_succ_eq_append_getElem hi, List.map_append, List.map_cons, List.map_nil, jn_snoc]
  rfl
theorem AllTo.done {s a : ByteArray} {i : Nat} (h : AllTo (linesOf s) i a) (hi : (linesOf s).length ≤ i) : bl a = fin [] (bl s) := by
  unfold AllTo at h
  rw [List.take_of_length_le hi, lines_bl, jn_rl] at h
  exact h
theorem all_empty {s a : ByteArray} (h : bl a = fin [] (bl s)) (h0 : s.size = 0) : a = s := by
  apply bl_inj
  have e : bl s = [] := List.eq_nil_of_length_eq_zero h0
  rw [h, e]
  rfl
theorem last_at (s : ByteArray) (h0 : 0 < s.size) : ∃ c, (bl s).getLast? = some c ∧ c.toNat = byteAt s (s.size - 1) := by
  have hlt : s.size - 1 < (bl s).length := by rw [bl_len]; omega
  refine ⟨(bl s)[s.size - 1], ?_, bl_get s _ hlt⟩
  rw [List.getLast?_eq_getElem?, List.getElem?_eq_getElem (show (bl s).length - 1 < (bl s).length by rw [bl_len] at *; omega)]
  rfl
theorem all_ends {s a : ByteArray} (h : bl a = fin [] (bl s)) (h0 : 0 < s.size) (hl : byteAt s (s.size - 1) = 10) : a = s := by
  apply bl_inj
  obtain ⟨c, e, hc⟩ := last_at s h0
  have hne : bl s ≠ [] := fun e2 => by have h7 : s.size = 0 := congrArg List.length e2; omega
  have hc10 : c = 10 := UInt8.toNat_inj.1 (by rw [hc, hl]; rfl)
  rw [h]
  unfold fin
  rw [List.nil_append, if_neg hne, if_pos ⟨by rw [e, hc10], hne⟩, List.append_nil]
theorem all_open {s a : ByteArray} (h : bl a = fin [] (bl s)) (h0 : 0 < s.size) (hl : byteAt s (s.size - 1) ≠ 10) : a = s ++ ⟨#[10]⟩ := by
  apply bl_inj
  obtain ⟨c, e, hc⟩ := last_at s h0
  have hne : bl s ≠ [] := fun e2 => by have h7 : s.size = 0 := congrArg List.length e2; omega
  have hc10 : c ≠ 10 := fun e2 => hl (by rw [← hc, e2]; rfl)
  rw [h, bl_app]
  unfold fin
  rw [List.nil_append, if_neg hne, if_neg (fun h3 => hc10 (by rw [e] at h3; exact Option.some.inj h3.1))]
  rfl
/-- How much texts hold. -/
def tot : List ByteArray → Nat
  | [] => 0
  | x :: r => x.size + tot r
theorem tot_wl : ∀ (t cur : List UInt8), ((wl t cur).map List.length).sum ≤ cur.length + t.length
  | [], cur => by
    show ((if cur = [] then [] else [cur]).map List.length).sum ≤ _
    split <;> simp
  | c :: t, cur => by
    show ((if wU c = true then (if cur = [] then wl t [] else cur :: wl t []) else wl t (cur ++ [c])).map List.length).sum ≤ _
    have h1 := tot_wl t []
    have h2 := tot_wl t (cur ++ [c])
    rw [List.length_append] at h2
    simp only [List.length_cons, List.length_nil] at *
    split
    · split
      · omega
      · simp only [List.map_cons, List.sum_cons]; omega
    · omega
theorem tot_words (s : ByteArray) : tot (wordsOf s) ≤ s.size := by
  have h := tot_wl (bl s) []
  rw [← words_wl, List.map_map] at h
  have key : ∀ l : List ByteArray, tot l = (l.map (List.length ∘ bl)).sum := by
    intro l
    induction l with
    | nil => rfl
    | cons x r ih => show x.size + tot r = _; rw [ih, List.map_cons, List.sum_cons]; rfl
  rw [key]
  simpa [bl_len] using h
theorem words_nil : wordsOf ⟨#[]⟩ = [] := rfl
end Go.Proofs.YtdchnllflodmkaaDoor
