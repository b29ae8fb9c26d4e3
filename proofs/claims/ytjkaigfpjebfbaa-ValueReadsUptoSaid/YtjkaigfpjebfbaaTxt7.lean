/- Words and trims as rows of bytes: the plain law. -/
import Derived.Test.YtjkaigfpjebfbaaTxt6
namespace Go.Proofs.Ytjkaigfpjebfbaa
open Go.Lib
set_option linter.unusedVariables false

def bl (s : ByteArray) : List UInt8 := s.data.toList
theorem bl_app (a b : ByteArray) : bl (a ++ b) = bl a ++ bl b := by unfold bl; rw [ByteArray.data_append, Array.toList_append]
theorem bl_inj {a b : ByteArray} (h : bl a = bl b) : a = b := ByteArray.ext (Array.toList_inj.1 h)
theorem bl_len (s : ByteArray) : (bl s).length = s.size := rfl
theorem bl_get (s : ByteArray) (k : Nat) (h : k < (bl s).length) : ((bl s)[k]).toNat = byteAt s k := by
  rw [byteAt_get s k h]
  rfl
theorem bl_part (s : ByteArray) (a b : Nat) : bl (s.extract a b) = ((bl s).drop a).take (b - a) := Lib.extract_data s a b
def wU (c : UInt8) : Bool := wB c.toNat
/-- The words of a row of bytes, behind the beginning of one. -/
def wl : List UInt8 → List UInt8 → List (List UInt8)
  | [], cur => if cur = [] then [] else [cur]
  | c :: t, cur => if wU c = true then (if cur = [] then wl t [] else cur :: wl t []) else wl t (cur ++ [c])
def White (g : List UInt8) : Prop := ∀ c ∈ g, wU c = true
def Ink (g : List UInt8) : Prop := ∀ c ∈ g, wU c = false
def curOf (s : ByteArray) (pos : Nat) : Option Nat → List UInt8
  | none => []
  | some a => ((bl s).drop a).take (pos - a)
theorem W_wl (s : ByteArray) : ∀ (n pos : Nat) (st : Option Nat) (acc : List (Nat × Nat)), s.size - pos = n → pos ≤ s.size → (∀ a, st = some a → a < pos) →
    (closeSpans s (W s pos st acc)).map (fun x => bl (s.extract x.1 x.2)) = acc.map (fun x => bl (s.extract x.1 x.2)) ++ wl ((bl s).drop pos) (curOf s pos st)
  | 0, pos, st, acc, hn, hp, hst => by
    have e : pos = s.size := by omega
    have hd : (bl s).drop pos = [] := List.drop_of_length_le (by rw [bl_len]; omega)
    rw [W_end _ _ _ _ (by omega), hd]
    cases st with
    | none =>
      show (acc).map _ = _ ++ wl [] []
      simp [wl]
    | some a =>
      have ha := hst a rfl
      have hne : curOf s pos (some a) ≠ [] := by
        intro h
        have h2 : (curOf s pos (some a)).length = 0 := by rw [h]; rfl
        unfold curOf at h2
        rw [List.length_take, List.length_drop, bl_len] at h2
        omega
      show (acc ++ [(a, s.size)]).map _ = _
      rw [List.map_append]
      unfold wl
      rw [if_neg hne]
      show _ ++ [bl (s.extract a s.size)] = _
      rw [bl_part, e]
      rfl
  | n + 1, pos, st, acc, hn, hp, hst => by
    have hlt : pos < s.size := by omega
    have hlt' : pos < (bl s).length := hlt
    have hd : (bl s).drop pos = (bl s)[pos] :: (bl s).drop (pos + 1) := List.drop_eq_getElem_cons hlt'
    have hw : wU (bl s)[pos] = wB (byteAt s pos) := by unfold wU; rw [bl_get]
    rw [hd]
    unfold wl
    rw [hw]
    cases hb : wB (byteAt s pos) with
    | true =>
      rw [if_pos rfl]
      cases st with
      | none =>
        rw [W_white_none _ _ _ hlt hb, W_wl s n (pos + 1) none acc (by omega) (by omega) (fun a h => by cases h)]
        show _ = _ ++ (if ([] : List UInt8) = [] then wl ((bl s).drop (pos + 1)) [] else _)
        rw [if_pos rfl]
        rfl
      | some a =>
        have ha := hst a rfl
        have hne : curOf s pos (some a) ≠ [] := by
          intro h
          have h2 : (curOf s pos (some a)).length = 0 := by rw [h]; rfl
          unfold curOf at h2
          rw [List.length_take, List.length_drop, bl_len] at h2
          omega
        rw [W_white_some _ _ _ _ hlt hb, W_wl s n (pos + 1) none _ (by omega) (by omega) (fun a h => by cases h), if_neg hne, List.map_append]
        show (_ ++ [bl (s.extract a pos)]) ++ _ = _
        rw [bl_part, List.append_assoc]
        rfl
    | false =>
      rw [if_neg (by decide), W_ink _ _ _ _ hlt hb, W_wl s n (pos + 1) _ acc (by omega) (by omega) (fun a h => by
        cases st with
        | none => have h2 : pos = a := Option.some.inj h; omega
        | some b => have h2 : b = a := Option.some.inj h; have h3 := hst b rfl; omega)]
      congr 2
      cases st with
      | none =>
        show ((bl s).drop pos).take (pos + 1 - pos) = [] ++ [_]
        rw [show pos + 1 - pos = 1 by omega, hd]
        rfl
      | some a =>
        have ha := hst a rfl
        show ((bl s).drop a).take (pos + 1 - a) = ((bl s).drop a).take (pos - a) ++ [_]
        have h3 : pos - a < ((bl s).drop a).length := by rw [List.length_drop]; omega
        rw [show pos + 1 - a = (pos - a) + 1 by omega, List.take_succ_eq_append_getElem h3]
        congr 2
        rw [List.getElem_drop]
        congr 1
        omega
theorem words_wl (s : ByteArray) : (wordsOf s).map bl = wl (bl s) [] := by
  have := W_wl s s.size 0 none [] (by omega) (by omega) (fun a h => by cases h)
  unfold wordsOf
  rw [List.map_map]
  exact this
theorem words_eq {s t : ByteArray} (h : wl (bl s) [] = wl (bl t) []) : wordsOf s = wordsOf t := by
  have h1 := words_wl s
  have h2 := words_wl t
  rw [← h, ← h1] at h2
  have key : ∀ (a b : List ByteArray), a.map bl = b.map bl → a = b := by
    intro a
    induction a with
    | nil => intro b hb; cases b with
      | nil => rfl
      | cons x b => cases hb
    | cons y a ih => intro b hb; cases b with
      | nil => cases hb
      | cons x b =>
        rw [List.map_cons, List.map_cons] at hb
        obtain ⟨e1, e2⟩ := List.cons.inj hb
        rw [bl_inj e1, ih b e2]
  exact (key _ _ h2).symm
theorem wl_white_head (t : List UInt8) : ∀ (g : List UInt8), White g → wl (g ++ t) [] = wl t []
  | [], _ => rfl
  | c :: g, h => by
    show (if wU c = true then (if ([] : List UInt8) = [] then wl (g ++ t) [] else _) else _) = _
    rw [if_pos (h c (List.mem_cons_self ..)), if_pos rfl]
    exact wl_white_head t g (fun d hd => h d (List.mem_cons_of_mem _ hd))
theorem wl_white_only (cur : List UInt8) : ∀ (g : List UInt8), White g → wl g cur = wl [] cur
  | [], _ => rfl
  | c :: g, h => by
    have h0 := wl_white_head [] g (fun d hd => h d (List.mem_cons_of_mem _ hd))
    rw [List.append_nil] at h0
    show (if wU c = true then (if cur = [] then wl g [] else cur :: wl g []) else _) = (if cur = [] then [] else [cur])
    rw [if_pos (h c (List.mem_cons_self ..)), h0]
    rfl
theorem wl_white_tail (g : List UInt8) (h : White g) : ∀ (t cur : List UInt8), wl (t ++ g) cur = wl t cur
  | [], cur => wl_white_only cur g h
  | c :: t, cur => by
    show (if wU c = true then (if cur = [] then wl (t ++ g) [] else cur :: wl (t ++ g) []) else wl (t ++ g) (cur ++ [c])) = (if wU c = true then (if cur = [] then wl t [] else cur :: wl t []) else wl t (cur ++ [c]))
    rw [wl_white_tail g h t [], wl_white_tail g h t (cur ++ [c])]
theorem wl_cut (c : UInt8) (hc : wU c = true) (b : List UInt8) : ∀ (a cur : List UInt8), wl (a ++ c :: b) cur = wl a cur ++ wl b []
  | [], cur => by
    show (if wU c = true then (if cur = [] then wl b [] else cur :: wl b []) else _) = (if cur = [] then [] else [cur]) ++ wl b []
    rw [if_pos hc]
    by_cases h : cur = []
    · rw [if_pos h, if_pos h]; rfl
    · rw [if_neg h, if_neg h]; rfl
  | d :: a, cur => by
    show (if wU d = true then (if cur = [] then wl (a ++ c :: b) [] else cur :: wl (a ++ c :: b) []) else wl (a ++ c :: b) (cur ++ [d])) = (if wU d = true then (if cur = [] then wl a [] else cur :: wl a []) else wl a (cur ++ [d])) ++ wl b []
    rw [wl_cut c hc b a [], wl_cut c hc b a (cur ++ [d])]
    by_cases h1 : wU d = true
    · rw [if_pos h1, if_pos h1]
      by_cases h : cur = []
      · rw [if_pos h, if_pos h]
      · rw [if_neg h, if_neg h]; rfl
    · rw [if_neg h1, if_neg h1]
theorem wl_ink : ∀ (x cur : List UInt8), Ink x → wl x cur = if cur ++ x = [] then [] else [cur ++ x]
  | [], cur, _ => by rw [List.append_nil]; rfl
  | c :: x, cur, h => by
    show (if wU c = true then _ else wl x (cur ++ [c])) = _
    rw [if_neg (by rw [h c (List.mem_cons_self ..)]; decide), wl_ink x _ (fun d hd => h d (List.mem_cons_of_mem _ hd)), List.append_assoc]
    rfl
theorem wl_parts : ∀ (t cur : List UInt8), Ink cur → ∀ x ∈ wl t cur, x ≠ [] ∧ Ink x
  | [], cur, hi, x, hx => by
    by_cases h : cur = []
    · have : wl [] cur = [] := by show (if cur = [] then [] else [cur]) = []; rw [if_pos h]
      rw [this] at hx; cases hx
    · have : wl [] cur = [cur] := by show (if cur = [] then [] else [cur]) = [cur]; rw [if_neg h]
      rw [this] at hx
      cases hx with
      | head => exact ⟨h, hi⟩
      | tail _ hx => cases hx
  | c :: t, cur, hi, x, hx => by
    have hn : Ink [] := fun d hd => by cases hd
    change x ∈ (if wU c = true then (if cur = [] then wl t [] else cur :: wl t []) else wl t (cur ++ [c])) at hx
    by_cases h1 : wU c = true
    · rw [if_pos h1] at hx
      by_cases h : cur = []
      · rw [if_pos h] at hx; exact wl_parts t [] hn x hx
      · rw [if_neg h] at hx
        cases hx with
        | head => exact ⟨h, hi⟩
        | tail _ hx => exact wl_parts t [] hn x hx
    · rw [if_neg h1] at hx
      refine wl_parts t _ (fun d hd => ?_) x hx
      rcases List.mem_append.1 hd with hd | hd
      · exact hi d hd
      · cases hd with
        | head => exact Bool.eq_false_iff.2 h1
        | tail _ hx => cases hx
/-- A row with more behind each white. -/
def wd (g : List UInt8) : List UInt8 → List UInt8
  | [] => []
  | c :: t => (c :: (if wU c = true then g else [])) ++ wd g t
theorem wl_wd (g : List UInt8) (hg : White g) : ∀ (t cur : List UInt8), wl (wd g t) cur = wl t cur
  | [], cur => rfl
  | c :: t, cur => by
    show wl (c :: ((if wU c = true then g else []) ++ wd g t)) cur = (if wU c = true then (if cur = [] then wl t [] else cur :: wl t []) else wl t (cur ++ [c]))
    by_cases h1 : wU c = true
    · rw [if_pos h1, if_pos h1]
      show (if wU c = true then (if cur = [] then wl (g ++ wd g t) [] else cur :: wl (g ++ wd g t) []) else _) = _
      rw [if_pos h1, wl_white_head _ _ hg, wl_wd g hg t []]
    · rw [if_neg h1, if_neg h1]
      show (if wU c = true then _ else wl ([] ++ wd g t) (cur ++ [c])) = _
      rw [if_neg h1]
      exact wl_wd g hg t _
theorem wd_snoc (g : List UInt8) (c : UInt8) : ∀ (t : List UInt8), wd g (t ++ [c]) = wd g t ++ (c :: (if wU c = true then g else []))
  | [] => by
    show (c :: _) ++ [] = _
    rw [List.append_nil]; rfl
  | d :: t => by
    show (d :: _) ++ wd g (t ++ [c]) = ((d :: _) ++ wd g t) ++ _
    rw [wd_snoc g c t, List.append_assoc]
/-- A word of a text is its own one word. -/
theorem word_one {s x : ByteArray} (h : x ∈ wordsOf s) : wordsOf x = [x] ∧ bl x ≠ [] ∧ Ink (bl x) := by
  have h1 : bl x ∈ wl (bl s) [] := by rw [← words_wl]; exact List.mem_map_of_mem h
  obtain ⟨hne, hi⟩ := wl_parts (bl s) [] (fun d hd => by cases hd) _ h1
  refine ⟨?_, hne, hi⟩
  have h2 := words_wl x
  rw [wl_ink _ _ hi, List.nil_append, if_neg hne] at h2
  match hw : wordsOf x with
  | [] => rw [hw] at h2; cases h2
  | [y] =>
    rw [hw] at h2
    rw [bl_inj (List.cons.inj h2).1]
  | _ :: _ :: _ => rw [hw] at h2; cases (List.cons.inj h2).2
/-- What a text without white at both ends is. -/
def IsTrim (t m : List UInt8) : Prop := ∃ g1 g2, White g1 ∧ White g2 ∧ t = g1 ++ m ++ g2 ∧ (∀ c r, m = c :: r → wU c = false) ∧ (∀ c r, m = r ++ [c] → wU c = false)
theorem drop_white : ∀ (g t : List UInt8), White g → (∀ c r, t = c :: r → wU c = false) → (g ++ t).dropWhile wU = t
  | [], [], _, _ => rfl
  | [], c :: r, _, h => by rw [List.nil_append, List.dropWhile_cons_of_neg (by rw [h c r rfl]; decide)]
  | c :: g, t, hg, h => by
    rw [List.cons_append, List.dropWhile_cons_of_pos (hg c (List.mem_cons_self ..))]
    exact drop_white g t (fun d hd => hg d (List.mem_cons_of_mem _ hd)) h
theorem IsTrim.one {t m m' : List UInt8} (h : IsTrim t m) (h' : IsTrim t m') : m = m' := by
  obtain ⟨g1, g2, w1, w2, e, hh, hl⟩ := h
  obtain ⟨g1', g2', w1', w2', e', hh', hl'⟩ := h'
  have nil_of : ∀ {m g1 g2 t : List UInt8}, White t → t = g1 ++ m ++ g2 → (∀ c r, m = c :: r → wU c = false) → m = [] := by
    intro m g1 g2 t hw e hh
    cases m with
    | nil => rfl
    | cons c r =>
      have h1 := hh c r rfl
      have h2 := hw c (by rw [e]; simp)
      rw [h1] at h2; cases h2
  have white3 : ∀ {g1 g2 t : List UInt8}, White g1 → White g2 → t = g1 ++ [] ++ g2 → White t := by
    intro g1 g2 t w1 w2 e c hc
    rw [e, List.append_nil] at hc
    rcases List.mem_append.1 hc with hc | hc
    · exact w1 c hc
    · exact w2 c hc
  by_cases hm : m = []
  · rw [hm] at e
    rw [hm, nil_of (white3 w1 w2 e) e' hh']
  · by_cases hm' : m' = []
    · rw [hm'] at e'
      exact absurd (nil_of (white3 w1' w2' e') e hh) hm
    · have front : ∀ {m g : List UInt8}, m ≠ [] → (∀ c r, m = c :: r → wU c = false) → ∀ c r, m ++ g = c :: r → wU c = false := by
        intro m g hne hh c r he
        cases m with
        | nil => exact absurd rfl hne
        | cons d k => rw [List.cons_append] at he; obtain ⟨rfl, _⟩ := List.cons.inj he; exact hh _ _ rfl
      have k1 : m ++ g2 = m' ++ g2' := by
        have a1 := drop_white g1 (m ++ g2) w1 (front hm hh)
        have a2 := drop_white g1' (m' ++ g2') w1' (front hm' hh')
        rw [← List.append_assoc, ← e] at a1
        rw [← List.append_assoc, ← e', a1] at a2
        exact a2
      have k2 : g2.reverse ++ m.reverse = g2'.reverse ++ m'.reverse := by rw [← List.reverse_append, ← List.reverse_append, k1]
      have wr : ∀ {g : List UInt8}, White g → White g.reverse := fun h c hc => h c (List.mem_reverse.1 hc)
      have lr : ∀ {m : List UInt8}, (∀ c r, m = r ++ [c] → wU c = false) → ∀ c r, m.reverse = c :: r → wU c = false := by
        intro m h c r he
        refine h c r.reverse ?_
        have := congrArg List.reverse he
        rwa [List.reverse_reverse, List.reverse_cons] at this
      have b1 := drop_white _ m.reverse (wr w2) (lr hl)
      have b2 := drop_white _ m'.reverse (wr w2') (lr hl')
      rw [k2, b2] at b1
      have := congrArg List.reverse b1
      rw [List.reverse_reverse, List.reverse_reverse] at this
      exact this.symm
theorem lo_facts (s : ByteArray) : ∀ (f pos : Nat), s.size ≤ pos + f → pos ≤ s.size →
    pos ≤ loB s f pos ∧ loB s f pos ≤ s.size ∧ (∀ k, pos ≤ k → k < loB s f pos → wB (byteAt s k) = true) ∧ (loB s f pos < s.size → wB (byteAt s (loB s f pos)) = false)
  | 0, pos, h, hp => ⟨Nat.le_refl _, hp, fun k h1 h2 => by unfold loB at h2; omega, fun h2 => by unfold loB at h2; omega⟩
  | f + 1, pos, h, hp => by
    unfold loB
    by_cases hc : pos < s.size ∧ wB (byteAt s pos) = true
    · rw [if_pos hc]
      obtain ⟨a, b, c, d⟩ := lo_facts s f (pos + 1) (by omega) (by omega)
      refine ⟨by omega, b, fun k h1 h2 => ?_, d⟩
      by_cases e : k = pos
      · rw [e]; exact hc.2
      · exact c k (by omega) h2
    · rw [if_neg hc]
      refine ⟨Nat.le_refl _, hp, fun k h1 h2 => by omega, fun h2 => ?_⟩
      cases hb : wB (byteAt s pos) with
      | false => rfl
      | true => exact absurd ⟨h2, hb⟩ hc
theorem hi_facts (s : ByteArray) : ∀ (i : Nat), (∀ k, hiB s i ≤ k → k < i → wB (byteAt s k) = true) ∧ (0 < hiB s i → wB (byteAt s (hiB s i - 1)) = false)
  | 0 => ⟨fun k h1 h2 => by omega, fun h => by unfold hiB at h; omega⟩
  | i + 1 => by
    unfold hiB
    by_cases hc : wB (byteAt s i) = true
    · rw [if_pos hc]
      obtain ⟨a, b⟩ := hi_facts s i
      refine ⟨fun k h1 h2 => ?_, b⟩
      by_cases e : k = i
      · rw [e]; exact hc
      · exact a k h1 (by omega)
    · rw [if_neg hc]
      exact ⟨fun k h1 h2 => by omega, fun _ => Bool.eq_false_iff.2 hc⟩
theorem white_of (s : ByteArray) (a b : Nat) (h : ∀ k, a ≤ k → k < b → wB (byteAt s k) = true) : White (((bl s).drop a).take (b - a)) := by
  intro c hc
  obtain ⟨k, hk, rfl⟩ := List.mem_iff_getElem.1 hc
  rw [List.length_take, List.length_drop] at hk
  rw [List.getElem_take, List.getElem_drop]
  unfold wU
  rw [bl_get]
  exact h _ (by omega) (by omega)
theorem trimB_is (s : ByteArray) : IsTrim (bl s) (bl (trimB s)) := by
  obtain ⟨_, a, b, c⟩ := lo_facts s s.size 0 (by omega) (by omega)
  have eL : bl (trimL s) = (bl s).drop (lo s) := by
    unfold trimL
    rw [bl_part]
    exact List.take_of_length_le (by rw [List.length_drop, bl_len]; omega)
  obtain ⟨d, e⟩ := hi_facts (trimL s) (trimL s).size
  have hle : hiB (trimL s) (trimL s).size ≤ (trimL s).size := hiB_le _ _
  have eR : bl (trimB s) = (bl (trimL s)).take (hi (trimL s)) := by
    unfold trimB trimR
    rw [bl_part]
    rfl
  refine ⟨(bl s).take (lo s), (bl (trimL s)).drop (hi (trimL s)), ?_, ?_, ?_, ?_, ?_⟩
  · have := white_of s 0 (lo s) (fun k _ h => b k (Nat.zero_le _) h)
    simpa using this
  · have := white_of (trimL s) (hi (trimL s)) (trimL s).size d
    rwa [List.take_of_length_le (by rw [List.length_drop, bl_len]; omega)] at this
  · rw [eR, List.append_assoc, List.take_append_drop, eL, List.take_append_drop]
  · intro x r he
    have h0 : (bl (trimB s))[0]? = some x := by rw [he]; rfl
    rw [eR, List.getElem?_take] at h0
    by_cases l1 : 0 < hi (trimL s)
    · rw [if_pos l1, eL, List.getElem?_drop, Nat.add_zero] at h0
      obtain ⟨l3, e3⟩ := List.getElem?_eq_some_iff.1 h0
      unfold wU
      rw [← e3, bl_get]
      exact c l3
    · rw [if_neg l1] at h0; cases h0
  · intro x r he
    have h0 : (bl (trimB s))[r.length]? = some x := by rw [he]; simp
    have hlen : (bl (trimB s)).length = r.length + 1 := by rw [he]; simp
    have l1 : r.length + 1 = hi (trimL s) := by
      rw [eR, List.length_take, bl_len] at hlen
      unfold hi at hlen ⊢
      omega
    rw [eR, List.getElem?_take, if_pos (by omega)] at h0
    obtain ⟨l3, e3⟩ := List.getElem?_eq_some_iff.1 h0
    unfold wU
    rw [← e3, bl_get]
    have e4 : r.length = hiB (trimL s) (trimL s).size - 1 := by unfold hi at l1; omega
    rw [e4]
    exact e (by unfold hi at l1; omega)
theorem trim_eq {s t : ByteArray} (h : IsTrim (bl s) (bl t)) : trimB s = t := bl_inj ((trimB_is s).one h)
theorem IsTrim.wide {t m g g' : List UInt8} (h : IsTrim t m) (hg : White g) (hg' : White g') : IsTrim (g ++ t ++ g') m := by
  obtain ⟨g1, g2, w1, w2, e, hh, hl⟩ := h
  have wa : ∀ {a b : List UInt8}, White a → White b → White (a ++ b) := fun ha hb c hc => (List.mem_append.1 hc).elim (ha c) (hb c)
  refine ⟨g ++ g1, g2 ++ g', wa hg w1, wa w2 hg', ?_, hh, hl⟩
  rw [e]
  simp only [List.append_assoc]
theorem IsTrim.self {t m : List UInt8} (h : IsTrim t m) : IsTrim m m := by
  obtain ⟨g1, g2, w1, w2, e, hh, hl⟩ := h
  exact ⟨[], [], fun c h => (by cases h), fun c h => (by cases h), by simp, hh, hl⟩
theorem isTrim_ink {x : List UInt8} (h : Ink x) : IsTrim x x :=
  ⟨[], [], fun c h => (by cases h), fun c h => (by cases h), by simp, fun c r e => h c (by rw [e]; simp), fun c r e => h c (by rw [e]; simp)⟩
theorem IsTrim.words {t m : List UInt8} (h : IsTrim t m) : wl m [] = wl t [] := by
  obtain ⟨g1, g2, w1, w2, e, hh, hl⟩ := h
  rw [e, wl_white_tail g2 w2, wl_white_head _ _ w1]
/-- Words with one white between. -/
theorem join_step {s j x : ByteArray} (c : ByteArray) (l : List ByteArray) (hc : ∃ d, bl c = [d] ∧ wU d = true) (hj : wordsOf j = l) (hx : wordsOf x = [x]) : wordsOf (j ++ c ++ x) = l ++ [x] := by
  obtain ⟨d, e, hd⟩ := hc
  have h1 := words_wl (j ++ c ++ x)
  rw [bl_app, bl_app, e, List.append_assoc, List.singleton_append, wl_cut d hd, ← words_wl, ← words_wl, hj, hx, ← List.map_append] at h1
  have key : ∀ (a b : List ByteArray), a.map bl = b.map bl → a = b := by
    intro a
    induction a with
    | nil => intro b hb; cases b with
      | nil => rfl
      | cons x b => cases hb
    | cons y a ih => intro b hb; cases b with
      | nil => cases hb
      | cons x b =>
        rw [List.map_cons, List.map_cons] at hb
        obtain ⟨e1, e2⟩ := List.cons.inj hb
        rw [bl_inj e1, ih b e2]
  exact key _ _ h1
end Go.Proofs.Ytjkaigfpjebfbaa
