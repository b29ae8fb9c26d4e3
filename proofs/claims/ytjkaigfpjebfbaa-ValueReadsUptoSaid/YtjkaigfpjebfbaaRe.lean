/- Relation: what the readers hand back, as data; an atom's text; light. -/
import Derived.Lib.Join
import Derived.Test.YtjkaigfpjebfbaaRd
namespace Go.Proofs.Ytjkaigfpjebfbaa
open Go.RowKit
set_option linter.unusedVariables false

/-- An atom, as it may come. -/
def raA (a : Rl.Atm) : RA := ⟨Rl.tob a.name, (a.rel : Int), Rl.tob a.ver⟩
def rpA (a : Rl.Atm) : RP := ⟨Rl.tob a.name, Rl.tob a.ver⟩
theorem raA_inj {a b : Rl.Atm} (h : raA a = raA b) : a = b := by
  unfold raA at h
  injection h with h1 h2 h3
  cases a; cases b
  have e1 := congrArg bl h1
  have e3 := congrArg bl h3
  simp only [Rl.bl_tob] at e1 e3
  simp only [Int.ofNat_inj] at h2
  simp_all
theorem catA_at : ∀ (l : List Rl.Atm) (j : Nat) (h : j < l.length), (catA l)[j * 3]? = some (.string (raA l[j]).n) ∧ (catA l)[j * 3 + 1]? = some (.int .i64 (raA l[j]).r) ∧ (catA l)[j * 3 + 2]? = some (.string (raA l[j]).v)
  | [], j, h => absurd h (by simp)
  | a :: r, 0, h => ⟨rfl, rfl, rfl⟩
  | a :: r, j + 1, h => by
    have hr := catA_at r j (by simpa using h)
    have e : catA (a :: r) = atC a ++ catA r := rfl
    have hl : (atC a).length = 3 := rfl
    have h3 : ∀ k, (catA (a :: r))[(j + 1) * 3 + k]? = (catA r)[j * 3 + k]? := fun k => by
      rw [e, List.getElem?_append_right (by omega), hl]
      congr 1
      omega
    exact ⟨(h3 0).trans hr.1, (h3 1).trans hr.2.1, (h3 2).trans hr.2.2⟩
theorem catP_at : ∀ (l : List Rl.Atm) (j : Nat) (h : j < l.length), (catP l)[j * 2]? = some (.string (rpA l[j]).n) ∧ (catP l)[j * 2 + 1]? = some (.string (rpA l[j]).v)
  | [], j, h => absurd h (by simp)
  | a :: r, 0, h => ⟨rfl, rfl⟩
  | a :: r, j + 1, h => by
    have hr := catP_at r j (by simpa using h)
    have e : catP (a :: r) = prC a ++ catP r := rfl
    have hl : (prC a).length = 2 := rfl
    have h3 : ∀ k, (catP (a :: r))[(j + 1) * 2 + k]? = (catP r)[j * 2 + k]? := fun k => by
      rw [e, List.getElem?_append_right (by omega), hl]
      congr 1
      omega
    exact ⟨(h3 0).trans hr.1, (h3 1).trans hr.2⟩
theorem addN (b o j : Nat) : (⟨b, o, none⟩ : Addr).add j = ⟨b, o + j, none⟩ := by unfold Addr.add; split <;> simp_all
theorem AtsAt.of_reads {w : World} {B : Nat} {A : Option Addr} {c : Nat} {l : List Rl.Atm} (h : Reads w B 3 A l.length (catA l)) (hc : l.length ≤ c) (hs : ∀ a, A = some a → a.spot = none) : AtsAt w (.slice A l.length c) (l.map raA) := by
  refine ⟨A, c, by rw [List.length_map], by rw [List.length_map]; exact hc, fun j hj => ?_⟩
  rw [List.length_map] at hj
  obtain ⟨ad, e, hb, hc2⟩ := h.2 (by omega)
  have h0 := hs _ e
  obtain ⟨g, o, sp⟩ := ad
  have h0 : sp = none := h0
  subst h0 e
  have ha := catA_at l j hj
  rw [List.getElem_map]
  refine ⟨g, o, rfl, ?_, ?_, ?_⟩
  · have := hc2 _ _ ha.1; rwa [addN] at this
  · have := hc2 _ _ ha.2.1; rwa [addN] at this
  · have := hc2 _ _ ha.2.2; rwa [addN] at this
theorem row_shape {w : World} {base : Nat} {t : TypeId} {k m c : Nat} {A : Option Addr} {xs : List Value} (h : w.ownsRow base t k (.slice A m c) m xs) : m ≤ c ∧ ∀ a, A = some a → a.spot = none := by
  rcases h.2 with ⟨h9, h8⟩ | ⟨g, cap, cur, h9, _, _, hle, _⟩
  · injection h9 with h1 h2 h3
    subst h1 h2 h3
    exact ⟨Nat.le_refl _, fun a e => by cases e⟩
  · injection h9 with h1 h2 h3
    subst h1 h3
    exact ⟨hle, fun a e => by cases e; rfl⟩
theorem AtsAt.of_own {w : World} {base m c : Nat} {A : Option Addr} {l : List Rl.Atm} (h : w.ownsRow base 79 3 (.slice A m c) m (catA l)) (hm : m = l.length) : AtsAt w (.slice A m c) (l.map raA) := by
  subst hm
  exact AtsAt.of_reads (Reads.of_own h) (row_shape h).1 (row_shape h).2
theorem PrsAt.of_own {w : World} {base m c : Nat} {A : Option Addr} {l : List Rl.Atm} (h : w.ownsRow base 82 2 (.slice A m c) m (catP l)) (hm : m = l.length) : PrsAt w (.slice A m c) (l.map rpA) := by
  subst hm
  refine ⟨A, c, by rw [List.length_map], by rw [List.length_map]; exact (row_shape h).1, fun j hj => ?_⟩
  rw [List.length_map] at hj
  obtain ⟨ad, e, hb, hc2⟩ := (Reads.of_own h).2 (by omega)
  have h0 := (row_shape h).2 _ e
  obtain ⟨g, o, sp⟩ := ad
  have h0 : sp = none := h0
  subst h0 e
  have ha := catP_at l j hj
  rw [List.getElem_map]
  refine ⟨g, o, rfl, ?_, ?_⟩
  · have := hc2 _ _ ha.1; rwa [addN] at this
  · have := hc2 _ _ ha.2; rwa [addN] at this
theorem OwnC.cls {w : World} {base : Nat} {v : Value} {L : List (List Rl.Atm)} (h : OwnC w base v L) : ClsAt w v (L.map (·.map raA)) := by
  obtain ⟨A, c, xs, rfl, ho, hi⟩ := h
  refine ⟨A, c, by rw [List.length_map], by rw [List.length_map]; exact (row_shape ho).1, fun j hj => ?_⟩
  rw [List.length_map] at hj
  obtain ⟨g, Aj, cj, e, hg, hc, hle, hr, hs⟩ := row_at ho hi rfl hj
  have e2 : L.getD j [] = L[j] := by rw [List.getD_eq_getElem?_getD, List.getElem?_eq_getElem hj]; rfl
  rw [e2] at hc hle hr
  refine ⟨g, 0, _, e, by rw [Nat.zero_add]; exact hc, ?_⟩
  rw [List.getElem_map]
  exact AtsAt.of_reads hr hle hs
/-- May an atom be? -/
def mayR (a : RA) : Bool := mayB a.n a.r a.v
/-- An atom's text. -/
def atx (a : RA) : Rl.Bs := if mayR a then (if a.r = 0 then bl a.n else bl a.n ++ [32, 40] ++ bl (sgnB a.r) ++ [32] ++ bl a.v ++ [41]) else []
theorem mayR_len {a : RA} (h : mayR a = true) : a.n.size ≤ 24 ∧ a.v.size ≤ 48 ∧ 0 ≤ a.r ∧ a.r ≤ 5 := by
  unfold mayR mayB at h
  simp only [Bool.and_eq_true, decide_eq_true_eq] at h
  obtain ⟨⟨⟨h1, h2⟩, h3⟩, h4⟩ := h
  unfold nameB at h1
  simp only [Bool.and_eq_true, decide_eq_true_eq] at h1
  refine ⟨h1.1.2, ?_, h2, h3⟩
  split at h4
  · have := of_decide_eq_true h4; omega
  · unfold verB at h4
    simp only [Bool.and_eq_true, decide_eq_true_eq] at h4
    exact h4.1.1.2
theorem sgnB_len (k : Int) : (sgnB k).size ≤ 2 := by
  unfold sgnB
  split
  · exact Nat.le_refl _
  split
  · exact Nat.le_refl _
  split
  · show 1 ≤ 2; omega
  split
  · exact Nat.le_refl _
  split
  · exact Nat.le_refl _
  · show 0 ≤ 2; omega
theorem atx_len (a : RA) : (atx a).length ≤ 78 := by
  unfold atx
  split
  · next h =>
    have h1 := mayR_len h
    have h2 := sgnB_len a.r
    split
    · rw [bl_len]; omega
    · simp only [List.length_append, bl_len, List.length_cons, List.length_nil]; omega
  · exact Nat.zero_le _
/-- Clauses that may be. -/
def okC (c : List RA) : Bool := decide (1 ≤ c.length) && decide (c.length ≤ 6) && c.all mayR
def okL (L : List (List RA)) : Bool := decide (L.length ≤ 12) && L.all okC
def ctx (c : List RA) : Rl.Bs := Lib.join (c.map atx) [32, 124, 32]
/-- A relation's text. -/
def ltx (L : List (List RA)) : Rl.Bs := if okL L then Lib.join (L.map ctx) [44, 32] else []
/-- Is a relation light? -/
def lightB (L : List (List RA)) : Bool := decide (L.length ≤ 30) && L.all (fun c => decide (c.length ≤ 30))
end Go.Proofs.Ytjkaigfpjebfbaa
