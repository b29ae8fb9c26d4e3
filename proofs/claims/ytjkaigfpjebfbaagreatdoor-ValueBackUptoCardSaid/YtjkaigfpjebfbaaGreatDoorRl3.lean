/- Relation: the plain law: the words of a text that was written, and what they read as. -/
import Derived.Test.YtjkaigfpjebfbaaGreatDoorRl1
namespace Go.Proofs.YtjkaigfpjebfbaaGreatDoor
set_option linter.unusedVariables false
namespace Rl
def atoks (a : Atm) : List Bs := if a.rel = 0 then [a.name] else [a.name, [40], sgn a.rel, a.ver, [41]]
def ctoks : List Atm → List Bs
  | [] => []
  | [a] => atoks a
  | a :: b :: r => atoks a ++ [124] :: ctoks (b :: r)
def ltoks : List (List Atm) → List Bs
  | [] => []
  | [c] => ctoks c
  | c :: b :: r => ctoks c ++ [44] :: ltoks (b :: r)
theorem ctoks_cons (a b : Atm) (r : List Atm) : ctoks (a :: b :: r) = atoks a ++ [124] :: ctoks (b :: r) := rfl
theorem ltoks_cons (c b : List Atm) (r : List (List Atm)) : ltoks (c :: b :: r) = ctoks c ++ [44] :: ltoks (b :: r) := rfl
theorem atoks_ne (a : Atm) : atoks a ≠ [] := by unfold atoks; split <;> simp
theorem ctoks_ne {c : List Atm} (h : c ≠ []) : ctoks c ≠ [] := by
  match c, h with
  | [a], _ => exact atoks_ne a
  | a :: b :: r, _ => rw [ctoks_cons]; simp
theorem ltoks_ne {L : List (List Atm)} (h : L ≠ []) (hc : ∀ c ∈ L, c ≠ []) : ltoks L ≠ [] := by
  match L, h with
  | [c], _ => exact ctoks_ne (hc c (by simp))
  | a :: b :: r, _ => rw [ltoks_cons]; simp
theorem ltoks_app : ∀ (A B : List (List Atm)), A ≠ [] → B ≠ [] → ltoks (A ++ B) = ltoks A ++ [44] :: ltoks B
  | [c], b :: r, _, _ => rfl
  | c :: d :: r, B, _, hB => by
    have := ltoks_app (d :: r) B (by simp) hB
    rw [List.cons_append, List.cons_append, ltoks_cons, ltoks_cons, ← List.cons_append, this]
    simp
section
variable (nm ver : Bs → Bool)
theorem atomP_toks {a : Atm} {T : List Bs} (ha : mayA nm ver a = true) (hT : isT [40] T = none) : atomP nm ver (atoks a ++ T) = (some a, T) := by
  obtain ⟨n, k, v⟩ := a
  have hm := ha
  unfold mayA at ha
  simp only [Bool.and_eq_true] at ha
  obtain ⟨h1, h2⟩ := ha
  by_cases hk : k = 0
  · subst hk
    rw [if_pos rfl, decide_eq_true_eq] at h2
    subst h2
    have e : atoks ⟨n, 0, []⟩ = [n] := rfl
    rw [e]
    show (match isT [40] T with | none => _ | some T2 => _) = _
    rw [hT]
    show (may1 nm ver ⟨n, 0, []⟩, T) = _
    rw [may_yes hm]
  · rw [if_neg hk, Bool.and_eq_true, decide_eq_true_eq] at h2
    have hs := sgn_cls k (by omega) h2.1
    have e : atoks ⟨n, k, v⟩ = [n, [40], sgn k, v, [41]] := by unfold atoks; rw [if_neg hk]
    rw [e]
    show parP nm ver n (sgn k :: v :: [41] :: T) = _
    rw [parP_go hs.2.1 hk]
    show (may1 nm ver ⟨n, k, v⟩, T) = _
    rw [may_yes hm]
variable (mf : Atm → Bool) (one : Bool)
theorem clauseP_toks : ∀ (c : List Atm) (d : Nat) (out : List Atm) (T : List Bs), c ≠ [] → c.length ≤ d → (∀ a ∈ c, mayA nm ver a = true ∧ mf a = true) → (one = true → c.length = 1) → isT [40] T = none → isT [124] T = none →
    clauseP nm ver mf one d (ctoks c ++ T) out = .ok (out ++ c, T)
  | [], _, _, _, h, _, _, _, _, _ => absurd rfl h
  | [a], d, out, T, _, hd, ha, ho, h40, h124 => by
    match d, hd with
    | d + 1, _ =>
      show (match atomP nm ver (atoks a ++ T) with | (none, _) => _ | (some a, T1) => _) = _
      rw [atomP_toks nm ver (ha a (by simp)).1 h40]
      show (if mf a = true then _ else _) = _
      rw [if_pos (ha a (by simp)).2]
      cases one with
      | true => rfl
      | false =>
        show (match isT [124] T with | none => _ | some T2 => _) = _
        rw [h124]
  | a :: b :: r, d, out, T, _, hd, ha, ho, h40, h124 => by
    match d, hd with
    | d + 1, hd =>
      have h1 : one = false := by
        cases one with
        | false => rfl
        | true => have := ho rfl; simp at this
      rw [ctoks_cons, List.append_assoc, List.cons_append]
      show (match atomP nm ver (atoks a ++ [124] :: (ctoks (b :: r) ++ T)) with | (none, _) => _ | (some a, T1) => _) = _
      rw [atomP_toks nm ver (ha a (by simp)).1 rfl]
      show (if mf a = true then (if one = true then _ else _) else _) = _
      rw [if_pos (ha a (by simp)).2, if_neg (by rw [h1]; simp)]
      show clauseP nm ver mf one d (ctoks (b :: r) ++ T) (out ++ [a]) = _
      rw [clauseP_toks (b :: r) d (out ++ [a]) T (by simp) (by simp at hd ⊢; omega) (fun x hx => ha x (.tail _ hx)) (fun h => by rw [h1] at h; cases h) h40 h124]
      simp
/-- What clauses must be, to be read. -/
def Rd1 (c : List Atm) : Prop := c ≠ [] ∧ c.length ≤ 6 ∧ (∀ a ∈ c, mayA nm ver a = true ∧ mf a = true) ∧ (one = true → c.length = 1)
theorem parseP_toks : ∀ (L : List (List Atm)) (d : Nat) (out : List (List Atm)), L ≠ [] → L.length ≤ d → (∀ c ∈ L, Rd1 nm ver mf one c) → parseP nm ver mf one d (ltoks L) out = .ok (out ++ L)
  | [], _, _, h, _, _ => absurd rfl h
  | [c], d, out, _, hd, hc => by
    match d, hd with
    | d + 1, _ =>
      obtain ⟨h1, h2, h3, h4⟩ := hc c (by simp)
      have := clauseP_toks nm ver mf one c 6 [] [] h1 h2 h3 h4 rfl rfl
      rw [List.append_nil] at this
      show (match clauseP nm ver mf one 6 (ctoks c) [] with | .many => _ | .form => _ | .ok (c, T1) => _) = _
      rw [this]
      rfl
  | c :: b :: r, d, out, _, hd, hc => by
    match d, hd with
    | d + 1, hd =>
      obtain ⟨h1, h2, h3, h4⟩ := hc c (by simp)
      have := clauseP_toks nm ver mf one c 6 [] ([44] :: ltoks (b :: r)) h1 h2 h3 h4 rfl rfl
      rw [ltoks_cons]
      show (match clauseP nm ver mf one 6 (ctoks c ++ [44] :: ltoks (b :: r)) [] with | .many => _ | .form => _ | .ok (c, T1) => _) = _
      rw [this]
      show parseP nm ver mf one d (ltoks (b :: r)) (out ++ [[] ++ c]) = _
      rw [parseP_toks (b :: r) d _ (by simp) (by simp at hd ⊢; omega) (fun x hx => hc x (.tail _ hx))]
      simp
theorem parseP_over : ∀ (L : List (List Atm)) (d : Nat) (out : List (List Atm)), d < L.length → (∀ c ∈ L, Rd1 nm ver mf one c) → parseP nm ver mf one d (ltoks L) out = .many
  | L, 0, out, _, _ => rfl
  | [], d + 1, out, h, _ => absurd h (by simp)
  | [c], d + 1, out, h, _ => absurd h (by simp)
  | c :: b :: r, d + 1, out, hd, hc => by
    obtain ⟨h1, h2, h3, h4⟩ := hc c (by simp)
    have := clauseP_toks nm ver mf one c 6 [] ([44] :: ltoks (b :: r)) h1 h2 h3 h4 rfl rfl
    rw [ltoks_cons]
    show (match clauseP nm ver mf one 6 (ctoks c ++ [44] :: ltoks (b :: r)) [] with | .many => _ | .form => _ | .ok (c, T1) => _) = _
    rw [this]
    show parseP nm ver mf one d (ltoks (b :: r)) (out ++ [[] ++ c]) = _
    exact parseP_over (b :: r) d _ (by simp at hd ⊢; omega) (fun x hx => hc x (.tail _ hx))
/-- A text whose words are the clauses' reads as they. -/
theorem allP_toks {l : Bs} {L : List (List Atm)} (h : toks l = ltoks L) (hl : L.length ≤ 12) (hc : ∀ c ∈ L, Rd1 nm ver mf one c) : allP nm ver mf one l = .ok L := by
  unfold allP
  rw [h]
  by_cases hL : L = []
  · subst hL; rfl
  · rw [if_neg (ltoks_ne hL (fun c h => (hc c h).1)), parseP_toks nm ver mf one L 12 [] hL hl hc]
    rfl
theorem allP_over {l : Bs} {L : List (List Atm)} (h : toks l = ltoks L) (hl : 12 < L.length) (hc : ∀ c ∈ L, Rd1 nm ver mf one c) : allP nm ver mf one l = .many := by
  unfold allP
  have hL : L ≠ [] := by intro e; rw [e] at hl; simp at hl
  rw [h, if_neg (ltoks_ne hL (fun c h => (hc c h).1)), parseP_over nm ver mf one L 12 [] hl hc]
end
/-- A mark parts a text. -/
theorem tk_app {m : UInt8} (hm : cls m = 2) (y : Bs) : ∀ (x cur : Bs) (was : Nat), tk (x ++ m :: y) cur was = tk x cur was ++ [m] :: toks y
  | [], cur, was => by
    show tk (m :: y) cur was = _
    rw [tk_cons, if_pos (.inr hm), hm, tk_mark _ _ (by simp)]
    unfold tk
    by_cases h : was ≠ 1 ∧ cur ≠ []
    · rw [if_pos h, if_pos h]; rfl
    · rw [if_neg h, if_neg h]; rfl
  | b :: r, cur, was => by
    show tk (b :: (r ++ m :: y)) cur was = _
    rw [tk_cons, tk_cons, tk_app hm y r, tk_app hm y r]
    split
    · split <;> rfl
    · rfl
theorem toks_app {m : UInt8} (hm : cls m = 2) (x y : Bs) : toks (x ++ m :: y) = toks x ++ [m] :: toks y := tk_app hm y x [] 1
/-- A run of one class is one word. -/
theorem toks_word {c : Nat} (h1 : c ≠ 1) (h2 : c ≠ 2) {t rest : Bs} (ht : ∀ b ∈ t, cls b = c) (hn : t ≠ []) (hr : ∀ b r, rest = b :: r → cls b ≠ c) : toks (t ++ rest) = t :: toks rest := by
  have hta := take_app (p := fun b => cls b == c) t rest (fun x hx => by simpa using ht x hx)
  have e1 : rest.takeWhile (fun b => cls b == c) = [] := by
    cases rest with
    | nil => rfl
    | cons b r => rw [List.takeWhile_cons, if_neg (by simpa using hr b r rfl)]
  have e2 : rest.dropWhile (fun b => cls b == c) = rest := by
    cases rest with
    | nil => rfl
    | cons b r => rw [List.dropWhile_cons, if_neg (by simpa using hr b r rfl)]
  rw [e1, List.append_nil] at hta
  rw [e2] at hta
  cases t with
  | nil => exact absurd rfl hn
  | cons b t =>
    rw [List.cons_append] at hta ⊢
    rw [toks_run (ht b (by simp)) h1 h2, hta.1, hta.2]
/-- An atom's text, clauses', all. -/
def atxt (a : Atm) : Bs := if a.rel = 0 then a.name else a.name ++ ([32, 40] ++ (sgn a.rel ++ ([32] ++ (a.ver ++ [41]))))
def ctxt : List Atm → Bs
  | [] => []
  | [a] => atxt a
  | a :: b :: r => atxt a ++ ([32, 124, 32] ++ ctxt (b :: r))
def ltxt : List (List Atm) → Bs
  | [] => []
  | [c] => ctxt c
  | c :: b :: r => ctxt c ++ ([44, 32] ++ ltxt (b :: r))
theorem ctxt_cons (a b : Atm) (r : List Atm) : ctxt (a :: b :: r) = atxt a ++ ([32, 124, 32] ++ ctxt (b :: r)) := rfl
theorem ltxt_cons (c b : List Atm) (r : List (List Atm)) : ltxt (c :: b :: r) = ctxt c ++ ([44, 32] ++ ltxt (b :: r)) := rfl
section
variable {nm ver : Bs → Bool} (hN : Plain nm) (hv : Plain ver)
include hN hv
theorem atxt_toks {a : Atm} (ha : mayA nm ver a = true) {rest : Bs} (hr : ∀ b r, rest = b :: r → cls b ≠ 0) : toks (atxt a ++ rest) = atoks a ++ toks rest := by
  obtain ⟨n, k, v⟩ := a
  unfold mayA at ha
  simp only [Bool.and_eq_true] at ha
  obtain ⟨h1, h2⟩ := ha
  have hn0 : n ≠ [] := fun e => by rw [e, hN.ne] at h1; cases h1
  by_cases hk : k = 0
  · subst hk
    have e1 : atxt ⟨n, 0, v⟩ = n := rfl
    have e2 : atoks ⟨n, 0, v⟩ = [n] := rfl
    rw [e1, e2, toks_word (by omega) (by omega) (hN.word n h1) hn0 hr]
    rfl
  · rw [if_neg hk, Bool.and_eq_true, decide_eq_true_eq] at h2
    have hs := sgn_cls k (by omega) h2.1
    have hv0 : v ≠ [] := fun e => by rw [e, hv.ne] at h2; cases h2.2
    have e1 : atxt ⟨n, k, v⟩ ++ rest = n ++ (32 :: 40 :: (sgn k ++ (32 :: (v ++ (41 :: rest))))) := by
      unfold atxt
      rw [if_neg hk]
      simp
    have e2 : atoks ⟨n, k, v⟩ = [n, [40], sgn k, v, [41]] := by unfold atoks; rw [if_neg hk]
    rw [e1, e2, toks_word (by omega) (by omega) (hN.word n h1) hn0 (fun b r e => by injection e with e _; subst e; decide), toks_white (by decide), toks_mark (by decide),
      toks_word (c := 3) (by omega) (by omega) hs.1 hs.2.2 (fun b r e => by injection e with e _; subst e; decide), toks_white (by decide),
      toks_word (by omega) (by omega) (hv.word v h2.2) hv0 (fun b r e => by injection e with e _; subst e; decide), toks_mark (by decide)]
    rfl
theorem ctxt_toks : ∀ {c : List Atm}, (∀ a ∈ c, mayA nm ver a = true) → ∀ {rest : Bs}, (∀ b r, rest = b :: r → cls b ≠ 0) → toks (ctxt c ++ rest) = ctoks c ++ toks rest
  | [], _, rest, _ => rfl
  | [a], h, rest, hr => atxt_toks hN hv (h a (by simp)) hr
  | a :: b :: r, h, rest, hr => by
    rw [ctxt_cons, ctoks_cons, List.append_assoc, atxt_toks hN hv (h a (by simp)) (fun b r e => by injection e with e _; subst e; decide)]
    have e : [32, 124, 32] ++ ctxt (b :: r) ++ rest = 32 :: 124 :: 32 :: (ctxt (b :: r) ++ rest) := rfl
    rw [e, toks_white (by decide), toks_mark (by decide), toks_white (by decide), ctxt_toks (fun x hx => h x (.tail _ hx)) hr]
    simp
theorem ltxt_toks : ∀ {L : List (List Atm)}, (∀ c ∈ L, ∀ a ∈ c, mayA nm ver a = true) → toks (ltxt L) = ltoks L
  | [], _ => rfl
  | [c], h => by
    have := ctxt_toks hN hv (h c (by simp)) (rest := []) (fun b r e => by cases e)
    rw [List.append_nil, toks_nil, List.append_nil] at this
    exact this
  | c :: b :: r, h => by
    rw [ltxt_cons, ltoks_cons, ctxt_toks hN hv (h c (by simp)) (fun b r e => by injection e with e _; subst e; decide)]
    have e : [44, 32] ++ ltxt (b :: r) = 44 :: 32 :: ltxt (b :: r) := rfl
    rw [e, toks_mark (by decide), toks_white (by decide), ltxt_toks (fun x hx => h x (.tail _ hx))]
end
/-- Where white space may be left out: between a word and a sign, or beside a mark. -/
def gapOk : Nat → Bs → Prop
  | _, [] => True
  | was, b :: r => if cls b = 1 then b = 32 ∧ (∃ x q, r = x :: q ∧ cls x ≠ 1 ∧ (cls x ≠ was ∨ cls x = 2)) ∧ gapOk 1 r else gapOk (cls b) r
theorem gapOk_run {c : Nat} (h1 : c ≠ 1) {rest : Bs} (hr : gapOk c rest) : ∀ (t : Bs) (was : Nat), t ≠ [] → (∀ b ∈ t, cls b = c) → gapOk was (t ++ rest)
  | [], _, h, _ => absurd rfl h
  | [b], was, _, h => by
    have hb := h b (by simp)
    show gapOk was (b :: rest)
    unfold gapOk
    rw [if_neg (by rw [hb]; exact h1), hb]
    exact hr
  | b :: d :: r, was, _, h => by
    show gapOk was (b :: (d :: r ++ rest))
    unfold gapOk
    rw [if_neg (by rw [h b (by simp)]; exact h1)]
    exact gapOk_run h1 hr (d :: r) _ (by simp) (fun x hx => h x (.tail _ hx))
theorem gapOk_space {was : Nat} {x : UInt8} {q : Bs} (h1 : cls x ≠ 1) (h2 : cls x ≠ was ∨ cls x = 2) (h : gapOk 1 (x :: q)) : gapOk was (32 :: x :: q) := by
  unfold gapOk
  rw [if_pos (by decide)]
  exact ⟨rfl, ⟨x, q, rfl, h1, h2⟩, h⟩
theorem gapOk_ink {was : Nat} {x : UInt8} {q : Bs} (h1 : cls x ≠ 1) (h : gapOk (cls x) q) : gapOk was (x :: q) := by
  unfold gapOk
  rw [if_neg h1]
  exact h
section
variable {nm ver : Bs → Bool} (hN : Plain nm) (hv : Plain ver)
include hN hv
omit hv in
theorem atxt_head {a : Atm} (ha : mayA nm ver a = true) : ∃ x q, atxt a = x :: q ∧ cls x = 0 := by
  obtain ⟨n, k, v⟩ := a
  unfold mayA at ha
  simp only [Bool.and_eq_true] at ha
  have hn0 : n ≠ [] := fun e => by rw [e, hN.ne] at ha; cases ha.1
  match n, hn0, hN.word n ha.1 with
  | x :: r, _, hw =>
    unfold atxt
    split
    · exact ⟨x, r, rfl, hw x (by simp)⟩
    · exact ⟨x, _, rfl, hw x (by simp)⟩
theorem atxt_gap {a : Atm} (ha : mayA nm ver a = true) {rest : Bs} (h0 : gapOk 0 rest) (h2 : gapOk 2 rest) (was : Nat) : gapOk was (atxt a ++ rest) := by
  obtain ⟨n, k, v⟩ := a
  unfold mayA at ha
  simp only [Bool.and_eq_true] at ha
  obtain ⟨h1, h3⟩ := ha
  have hn0 : n ≠ [] := fun e => by rw [e, hN.ne] at h1; cases h1
  by_cases hk : k = 0
  · subst hk
    have e1 : atxt ⟨n, 0, v⟩ = n := rfl
    rw [e1]
    exact gapOk_run (by omega) h0 n was hn0 (hN.word n h1)
  · rw [if_neg hk, Bool.and_eq_true, decide_eq_true_eq] at h3
    have hs := sgn_cls k (by omega) h3.1
    have hv0 : v ≠ [] := fun e => by rw [e, hv.ne] at h3; cases h3.2
    have e1 : atxt ⟨n, k, v⟩ ++ rest = n ++ (32 :: 40 :: (sgn k ++ (32 :: (v ++ (41 :: rest))))) := by
      unfold atxt
      rw [if_neg hk]
      simp
    rw [e1]
    refine gapOk_run (by omega) ?_ n was hn0 (hN.word n h1)
    refine gapOk_space (by decide) (.inr (by decide)) (gapOk_ink (x := 40) (by decide) ?_)
    refine gapOk_run (c := 3) (by omega) ?_ _ _ hs.2.2 hs.1
    have hv1 : gapOk 1 (v ++ (41 :: rest)) := gapOk_run (by omega) (gapOk_ink (x := 41) (by decide) h2) v 1 hv0 (hv.word v h3.2)
    match v, hv0, hv.word v h3.2, hv1 with
    | x :: r, _, hw, hv1 =>
      have hx := hw x (by simp)
      exact gapOk_space (by omega) (.inl (by omega)) hv1
theorem ctxt_gap : ∀ {c : List Atm}, c ≠ [] → (∀ a ∈ c, mayA nm ver a = true) → ∀ {rest : Bs}, gapOk 0 rest → gapOk 2 rest → ∀ was, gapOk was (ctxt c ++ rest) ∧ ∃ x q, ctxt c = x :: q ∧ cls x = 0
  | [], h, _, _, _, _, _ => absurd rfl h
  | [a], _, h, rest, h0, h2, was => ⟨atxt_gap hN hv (h a (by simp)) h0 h2 was, atxt_head hN (h a (by simp))⟩
  | a :: b :: r, _, h, rest, h0, h2, was => by
    obtain ⟨hg, x, q, hx, hc⟩ := ctxt_gap (c := b :: r) (by simp) (fun x hx => h x (.tail _ hx)) h0 h2 1
    have hsp : ∀ was, gapOk was ([32, 124, 32] ++ ctxt (b :: r) ++ rest) := fun was => by
      rw [hx] at hg ⊢
      exact gapOk_space (by decide) (.inr (by decide)) (gapOk_ink (by decide) (gapOk_space (by omega) (.inl (by rw [hc]; decide)) hg))
    constructor
    · rw [ctxt_cons, List.append_assoc]
      exact atxt_gap hN hv (h a (by simp)) (hsp 0) (hsp 2) was
    · obtain ⟨y, q2, hy, hyc⟩ := atxt_head hN (h a (by simp))
      exact ⟨y, _, by rw [ctxt_cons, hy]; rfl, hyc⟩
theorem ltxt_gap : ∀ {L : List (List Atm)}, (∀ c ∈ L, c ≠ [] ∧ ∀ a ∈ c, mayA nm ver a = true) → ∀ was, gapOk was (ltxt L) ∧ (L ≠ [] → ∃ x q, ltxt L = x :: q ∧ cls x = 0)
  | [], _, _ => ⟨trivial, fun h => absurd rfl h⟩
  | [c], h, was => by
    have := ctxt_gap hN hv (h c (by simp)).1 (h c (by simp)).2 (rest := []) trivial trivial was
    rw [List.append_nil] at this
    exact ⟨this.1, fun _ => this.2⟩
  | c :: b :: r, h, was => by
    obtain ⟨hg, hx⟩ := ltxt_gap (L := b :: r) (fun x hx => h x (.tail _ hx)) 1
    obtain ⟨x, q, hx, hc⟩ := hx (by simp)
    have hsp : ∀ was, gapOk was ([44, 32] ++ ltxt (b :: r)) := fun was => by
      rw [hx] at hg ⊢
      exact gapOk_ink (by decide) (gapOk_space (by omega) (.inl (by rw [hc]; decide)) hg)
    have h1 := ctxt_gap hN hv (h c (by simp)).1 (h c (by simp)).2 (hsp 0) (hsp 2) was
    rw [ltxt_cons]
    refine ⟨h1.1, fun _ => ?_⟩
    obtain ⟨y, q2, hy, hyc⟩ := h1.2
    exact ⟨y, _, by rw [hy]; rfl, hyc⟩
end
/-- The text with its white space as it is told: at place i a space becomes gp i, round a mark stands gp i. -/
def wideF (gp : Nat → Bs) : Nat → Bs → Bs
  | _, [] => []
  | i, b :: r => (if b = 32 then gp i else if cls b = 2 then gp i ++ (b :: gp i) else [b]) ++ wideF gp (i + 1) r
theorem tk_flush {l cur : Bs} {was : Nat} (h1 : was ≠ 1) (hc : cur ≠ []) (h : ∀ x q, l = x :: q → cls x ≠ was ∨ cls x = 2) : tk l cur was = cur :: toks l := by
  cases l with
  | nil => simp [tk, toks, h1, hc]
  | cons x q =>
    rw [tk_cons, if_pos (h x q rfl), if_pos ⟨h1, hc⟩]
    by_cases hx : cls x = 1
    · rw [hx, tk_white, toks_white hx]
    · rw [toks_ink hx]
theorem toks_gap : ∀ (g l : Bs), (∀ b ∈ g, cls b = 1) → toks (g ++ l) = toks l
  | [], _, _ => rfl
  | b :: r, l, h => by
    rw [List.cons_append, toks_white (h b (by simp))]
    exact toks_gap r l (fun x hx => h x (.tail _ hx))
theorem toks_end : ∀ (l cur : Bs) (was : Nat) (g : Bs), (∀ b ∈ g, cls b = 1) → tk (l ++ g) cur was = tk l cur was
  | [], cur, was, g, h => by
    by_cases h1 : was = 1
    · subst h1
      rw [List.nil_append, tk_white]
      have := toks_gap g [] h
      rw [List.append_nil] at this
      rw [this]
      simp [tk, toks]
    · by_cases hc : cur = []
      · subst hc
        cases g with
        | nil => rfl
        | cons b r =>
          have hb := h b (by simp)
          have := toks_gap r [] (fun x hx => h x (.tail _ hx))
          rw [List.append_nil] at this
          show tk (b :: r) [] was = _
          rw [tk_cons, if_pos (.inl (by omega)), if_neg (by simp), hb, tk_white, this]
          simp [tk, toks]
      · rw [List.nil_append, tk_flush h1 hc (fun x q e => .inl (by rw [h x (by rw [e]; simp)]; omega))]
        have := toks_gap g [] h
        rw [List.append_nil] at this
        rw [this]
        simp [tk, toks, h1, hc]
  | b :: r, cur, was, g, h => by
    rw [List.cons_append, tk_cons, tk_cons, toks_end r _ _ g h, toks_end r _ _ g h]
theorem wide_tk (gp : Nat → Bs) (hg : ∀ i, ∀ b ∈ gp i, cls b = 1) : ∀ (s : Bs) (i : Nat) (cur : Bs) (was : Nat), gapOk was s → (was = 1 ∨ cur ≠ []) → tk (wideF gp i s) cur was = tk s cur was
  | [], i, cur, was, _, _ => rfl
  | b :: r, i, cur, was, h, hc => by
    unfold gapOk at h
    have htoks : ∀ l : Bs, tk l cur 1 = toks l := fun l => tk_white l cur
    by_cases hb : cls b = 1
    · rw [if_pos hb] at h
      obtain ⟨rfl, ⟨x, q, hr, h4, h5⟩, h6⟩ := h
      have ih := wide_tk gp hg r (i + 1) [] 1 h6 (.inl rfl)
      have ih : toks (wideF gp (i + 1) r) = toks r := ih
      have e : wideF gp i (32 :: r) = gp i ++ wideF gp (i + 1) r := rfl
      rw [e]
      by_cases hw : was = 1
      · subst hw
        rw [tk_white, tk_white, toks_gap _ _ (hg i), ih, toks_white (by decide)]
      · have hcur : cur ≠ [] := hc.resolve_left hw
        have hne : ∀ x' q', gp i ++ wideF gp (i + 1) r = x' :: q' → cls x' ≠ was ∨ cls x' = 2 := by
          intro x' q' e9
          have hgi := hg i
          have hgj := hg (i + 1)
          cases hgp : gp i with
          | cons z zs =>
            rw [hgp] at e9 hgi
            injection e9 with e9 _
            subst e9
            left
            rw [hgi z (by simp)]
            omega
          | nil =>
            rw [hgp, hr] at e9
            have e9 : (if x = 32 then gp (i + 1) else if cls x = 2 then gp (i + 1) ++ (x :: gp (i + 1)) else [x]) ++ wideF gp (i + 1 + 1) q = x' :: q' := e9
            rw [if_neg (fun e => h4 (by rw [e]; decide))] at e9
            by_cases hx2 : cls x = 2
            · rw [if_pos hx2] at e9
              cases hgp2 : gp (i + 1) with
              | nil =>
                rw [hgp2] at e9
                injection e9 with e9 _
                subst e9
                exact .inr hx2
              | cons z zs =>
                rw [hgp2] at e9 hgj
                injection e9 with e9 _
                subst e9
                left
                rw [hgj z (by simp)]
                omega
            · rw [if_neg hx2] at e9
              injection e9 with e9 _
              subst e9
              exact h5
        rw [tk_flush hw hcur hne, toks_gap _ _ (hg i), ih, tk_flush hw hcur (fun x' q' e9 => by injection e9 with e9 _; subst e9; left; have : cls 32 = 1 := by decide
                                                                                                omega), toks_white (by decide)]
    · rw [if_neg hb] at h
      have hb32 : b ≠ 32 := fun e => hb (by rw [e]; decide)
      by_cases hb2 : cls b = 2
      · have e : wideF gp i (b :: r) = gp i ++ (b :: (gp i ++ wideF gp (i + 1) r)) := by
          show (if b = 32 then gp i else if cls b = 2 then gp i ++ (b :: gp i) else [b]) ++ wideF gp (i + 1) r = _
          rw [if_neg hb32, if_pos hb2]
          simp
        have ih := wide_tk gp hg r (i + 1) [b] (cls b) h (.inr (by simp))
        rw [hb2, tk_mark _ _ (by simp), tk_mark _ _ (by simp)] at ih
        injection ih with _ ih
        have hT : toks (gp i ++ (b :: (gp i ++ wideF gp (i + 1) r))) = toks (b :: r) := by
          rw [toks_gap _ _ (hg i), toks_mark hb2, toks_gap _ _ (hg i), toks_mark hb2, ih]
        rw [e]
        by_cases hw : was = 1
        · subst hw
          rw [tk_white, tk_white, hT]
        · have hcur : cur ≠ [] := hc.resolve_left hw
          rw [tk_flush hw hcur (fun x' q' e9 => by
            have hgi := hg i
            cases hgp : gp i with
            | nil =>
              rw [hgp] at e9
              injection e9 with e9 _
              subst e9
              exact .inr hb2
            | cons z zs =>
              rw [hgp] at e9 hgi
              injection e9 with e9 _
              subst e9
              left
              rw [hgi z (by simp)]
              omega), hT, tk_flush hw hcur (fun x' q' e9 => by injection e9 with e9 _; subst e9; exact .inr hb2)]
      · have e : wideF gp i (b :: r) = b :: wideF gp (i + 1) r := by
          show (if b = 32 then gp i else if cls b = 2 then gp i ++ (b :: gp i) else [b]) ++ wideF gp (i + 1) r = _
          rw [if_neg hb32, if_neg hb2]
          rfl
        rw [e, tk_cons, tk_cons]
        by_cases hne : cls b ≠ was ∨ cls b = 2
        · rw [if_pos hne, if_pos hne, wide_tk gp hg r (i + 1) [b] (cls b) h (.inr (by simp))]
        · rw [if_neg hne, if_neg hne]
          have hw : cls b = was := Classical.byContradiction fun e => hne (.inl e)
          rw [hw] at h
          exact wide_tk gp hg r (i + 1) (cur ++ [b]) was h (.inr (by simp))
/-- White space at the ends and between makes no difference. -/
theorem wide_toks (gp : Nat → Bs) (hg : ∀ i, ∀ b ∈ gp i, cls b = 1) {s : Bs} (h : gapOk 1 s) (a b : Bs) (ha : ∀ x ∈ a, cls x = 1) (hb : ∀ x ∈ b, cls x = 1) : toks (a ++ (wideF gp 0 s ++ b)) = toks s := by
  rw [toks_gap _ _ ha]
  show tk (wideF gp 0 s ++ b) [] 1 = _
  rw [toks_end _ _ _ _ hb]
  exact wide_tk gp hg s 0 [] 1 h (.inl rfl)
end Rl
end Go.Proofs.YtjkaigfpjebfbaaGreatDoor
