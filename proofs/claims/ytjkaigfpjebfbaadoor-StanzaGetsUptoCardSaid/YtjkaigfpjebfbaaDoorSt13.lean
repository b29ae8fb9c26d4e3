/- Fold: the plain law, and strings.Join over a row that is owned. -/
import Derived.Test.YtjkaigfpjebfbaaDoorSt4
namespace Go.Proofs.YtjkaigfpjebfbaaDoor
open Go.RowKit
set_option linter.unusedVariables false

def fstep (acc t : List UInt8) : List UInt8 := if t = [] then acc else if acc = [] then t else acc ++ 32 :: t
/-- Lines as one text. -/
def foldL (ls : List ByteArray) : List UInt8 := (ls.map fun s => bl (trimB s)).foldl fstep []
def foldB (ls : List ByteArray) : ByteArray := ofL (foldL ls)
/-- The lines that are more than white space, trimmed. -/
def foldW (ls : List ByteArray) : List ByteArray := (ls.map trimB).filter fun t => decide (t.size ≠ 0)
theorem fl_snoc (f : ByteArray → ByteArray) (ls : List ByteArray) (s : ByteArray) : ((ls ++ [s]).map fun s => bl (f s)).foldl fstep [] = fstep ((ls.map fun s => bl (f s)).foldl fstep []) (bl (f s)) := by
  rw [List.map_append, List.foldl_append]
  rfl
theorem foldL_snoc (ls : List ByteArray) (s : ByteArray) : foldL (ls ++ [s]) = fstep (foldL ls) (bl (trimB s)) := fl_snoc trimB ls s
theorem flt_yes (f : ByteArray → ByteArray) (ls : List ByteArray) (s : ByteArray) (h : (f s).size ≠ 0) : ((ls ++ [s]).map f).filter (fun t => decide (t.size ≠ 0)) = (ls.map f).filter (fun t => decide (t.size ≠ 0)) ++ [f s] := by
  rw [List.map_append, List.filter_append]
  congr 1
  show List.filter _ [f s] = _
  rw [List.filter_cons, if_pos (decide_eq_true h)]
  rfl
theorem flt_no (f : ByteArray → ByteArray) (ls : List ByteArray) (s : ByteArray) (h : (f s).size = 0) : ((ls ++ [s]).map f).filter (fun t => decide (t.size ≠ 0)) = (ls.map f).filter (fun t => decide (t.size ≠ 0)) := by
  rw [List.map_append, List.filter_append]
  show _ ++ List.filter _ [f s] = _
  rw [List.filter_cons, if_neg (by simp [h])]
  simp
theorem foldW_yes (ls : List ByteArray) (s : ByteArray) (h : (trimB s).size ≠ 0) : foldW (ls ++ [s]) = foldW ls ++ [trimB s] := flt_yes trimB ls s h
theorem foldW_no (ls : List ByteArray) (s : ByteArray) (h : (trimB s).size = 0) : foldW (ls ++ [s]) = foldW ls := flt_no trimB ls s h
theorem foldW_mem {ls : List ByteArray} {t : ByteArray} (h : t ∈ foldW ls) : bl t ≠ [] := by
  have := (List.mem_filter.1 h).2
  intro e
  have h2 : t.size ≠ 0 := by simpa using this
  exact h2 (by have := congrArg List.length e; rw [bl_len] at this; exact this)
theorem fold_tail : ∀ (l : List (List UInt8)) (acc : List UInt8), acc ≠ [] → (∀ t ∈ l, t ≠ []) → l.foldl fstep acc = acc ++ Lib.joinTail [32] l
  | [], acc, _, _ => by simp [Lib.joinTail]
  | t :: r, acc, h, hl => by
    have ht := hl t (List.mem_cons_self ..)
    show r.foldl fstep (fstep acc t) = _
    have e : fstep acc t = acc ++ 32 :: t := by unfold fstep; rw [if_neg ht, if_neg h]
    rw [e, fold_tail r _ (by simp) (fun u hu => hl u (List.mem_cons_of_mem _ hu))]
    simp [Lib.joinTail]
theorem fold_join : ∀ (l : List (List UInt8)), (∀ t ∈ l, t ≠ []) → l.foldl fstep [] = Lib.join l [32]
  | [], _ => rfl
  | t :: r, hl => by
    have ht := hl t (List.mem_cons_self ..)
    show r.foldl fstep (fstep [] t) = _
    have e : fstep [] t = t := by unfold fstep; rw [if_neg ht, if_pos rfl]
    rw [e, fold_tail r t ht (fun u hu => hl u (List.mem_cons_of_mem _ hu)), Lib.join_cons]
theorem fold_filter (f : ByteArray → ByteArray) : ∀ (l : List ByteArray) (acc : List UInt8), (l.map fun s => bl (f s)).foldl fstep acc = (((l.map f).filter (fun t => decide (t.size ≠ 0))).map bl).foldl fstep acc
  | [], acc => rfl
  | s :: r, acc => by
    rw [List.map_cons, List.map_cons, List.filter_cons]
    show (r.map fun s => bl (f s)).foldl fstep (fstep acc (bl (f s))) = _
    by_cases h : (f s).size = 0
    · have hb : bl (f s) = [] := List.eq_nil_of_length_eq_zero (by rw [bl_len]; exact h)
      have e : fstep acc (bl (f s)) = acc := by unfold fstep; rw [if_pos hb]
      rw [e, if_neg (by simp [h])]
      exact fold_filter f r acc
    · rw [if_pos (by simp [h])]
      exact fold_filter f r _
theorem foldW_join (ls : List ByteArray) : Lib.join ((foldW ls).map bl) [32] = foldL ls := by
  unfold foldL
  rw [fold_filter trimB, fold_join _ (fun t ht => by obtain ⟨u, hu, rfl⟩ := List.mem_map.1 ht; exact foldW_mem hu)]
  rfl
/-- How much lines are. -/
def lsum (ls : List ByteArray) : Nat := (ls.map fun s => s.size + 1).sum
theorem lsum_snoc (ls : List ByteArray) (s : ByteArray) : lsum (ls ++ [s]) = lsum ls + (s.size + 1) := by unfold lsum; rw [List.map_append, List.sum_append]; simp
theorem fstep_len (acc t : List UInt8) : (fstep acc t).length ≤ acc.length + (t.length + 1) := by
  unfold fstep
  split
  · omega
  · split
    · omega
    · simp
theorem foldl_len : ∀ (l : List (List UInt8)) (acc : List UInt8), (l.foldl fstep acc).length ≤ acc.length + (l.map fun t => t.length + 1).sum
  | [], acc => by simp
  | t :: r, acc => by
    have h1 := foldl_len r (fstep acc t)
    have h2 := fstep_len acc t
    show (r.foldl fstep (fstep acc t)).length ≤ _
    rw [List.map_cons, List.sum_cons]
    omega
theorem trimB_le (s : ByteArray) : (trimB s).size ≤ s.size := by
  obtain ⟨g1, g2, _, _, e, _⟩ := trimB_is s
  have := congrArg List.length e
  rw [List.length_append, List.length_append, bl_len, bl_len] at this
  omega
theorem foldL_len (ls : List ByteArray) : (foldL ls).length ≤ lsum ls := by
  have h := foldl_len (ls.map fun s => bl (trimB s)) []
  have h2 : ∀ l : List ByteArray, ((l.map fun s => bl (trimB s)).map fun t => t.length + 1).sum ≤ lsum l := by
    intro l
    induction l with
    | nil => exact Nat.le_refl _
    | cons s r ih =>
      unfold lsum at ih ⊢
      rw [List.map_cons, List.map_cons, List.sum_cons, List.map_cons, List.sum_cons, bl_len]
      have := trimB_le s
      omega
  have := h2 ls
  unfold foldL
  rw [List.length_nil] at h
  omega
theorem Join_own {base : Nat} {v : Value} {acc : List ByteArray} {W : World} (h : W.ownsRow base 9 1 v acc.length (acc.map Value.string)) (hn : acc.length ≤ 140737488355328) (hlen : (Lib.join (acc.map bl) [32]).length ≤ 140737488355328) :
    Calls Tryd.prog 32 #[v, .string ⟨#[32]⟩] W fun e w' => e = .returned (.string (ofL (Lib.join (acc.map bl) [32]))) ∧ Below W.heap.size W w' := by
  rcases h.2 with ⟨rfl, h0⟩ | ⟨g, cap, cur, rfl, hg, hh, hle, _⟩
  · have e : acc = [] := List.eq_nil_of_length_eq_zero h0
    subst e
    exact (Tryd.strings_Join_none none 0 ⟨#[32]⟩ W).mono fun e w' ⟨he, hw⟩ => ⟨he, by rw [hw]; exact Below.refl _ _⟩
  · exact Tryd.strings_Join g 0 cap acc ⟨#[32]⟩ W (fun j x hj => by
      rw [Nat.zero_add, h.cellAt j (by have := (List.getElem?_eq_some_iff.1 hj).1; omega), List.getElem?_map, hj]
      rfl) (Blk.lt hh) hn hle hlen
end Go.Proofs.YtjkaigfpjebfbaaDoor
