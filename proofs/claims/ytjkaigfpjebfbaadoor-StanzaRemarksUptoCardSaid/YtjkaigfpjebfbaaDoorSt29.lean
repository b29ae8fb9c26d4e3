/- What is parsed may be printed: the plain law. -/
import Derived.Test.YtjkaigfpjebfbaaDoorB9
namespace Go.Proofs.YtjkaigfpjebfbaaDoor
open Go.RowKit Go.Lib
set_option linter.unusedVariables false

theorem decodeN_white (n n' b0 b1 b2 b3 c1 c2 c3 : Nat) (hn : n ≤ n') (h1 : 1 < n → c1 = b1) (h2 : 2 < n → c2 = b2) (h3 : 3 < n → c3 = b3) (k1 : ¬ 1 < n → c1 / 64 ≠ 2) (k2 : ¬ 2 < n → c2 / 64 ≠ 2) (k3 : ¬ 3 < n → c3 / 64 ≠ 2) :
    decodeN n' b0 c1 c2 c3 = decodeN n b0 b1 b2 b3 := by
  have e1 : (1 < n' ∧ c1 / 64 = 2) → 1 < n ∧ b1 / 64 = 2 := fun h => by
    by_cases q : 1 < n
    · rw [← h1 q]; exact ⟨q, h.2⟩
    · exact absurd h.2 (k1 q)
  have e2 : (2 < n' ∧ c2 / 64 = 2) → 2 < n ∧ b2 / 64 = 2 := fun h => by
    by_cases q : 2 < n
    · rw [← h2 q]; exact ⟨q, h.2⟩
    · exact absurd h.2 (k2 q)
  have e3 : (3 < n' ∧ c3 / 64 = 2) → 3 < n ∧ b3 / 64 = 2 := fun h => by
    by_cases q : 3 < n
    · rw [← h3 q]; exact ⟨q, h.2⟩
    · exact absurd h.2 (k3 q)
  unfold decodeN at *
  by_cases ha : b0 < 128
  · rw [if_pos ha, if_pos ha]
  · rw [if_neg ha, if_neg ha]
    by_cases hb : b0 / 32 = 6 ∧ (1 < n ∧ b1 / 64 = 2)
    · obtain rfl := h1 hb.2.1
      rw [if_pos hb, if_pos ⟨hb.1, by omega, hb.2.2⟩]
    · rw [if_neg hb, if_neg (fun h => hb ⟨h.1, e1 h.2⟩)]
      by_cases hc : b0 / 16 = 14 ∧ (1 < n ∧ b1 / 64 = 2) ∧ (2 < n ∧ b2 / 64 = 2)
      · obtain rfl := h1 hc.2.1.1
        obtain rfl := h2 hc.2.2.1
        rw [if_pos hc, if_pos ⟨hc.1, ⟨by omega, hc.2.1.2⟩, by omega, hc.2.2.2⟩]
      · rw [if_neg hc, if_neg (fun h => hc ⟨h.1, e1 h.2.1, e2 h.2.2⟩)]
        by_cases hd : b0 / 8 = 30 ∧ (1 < n ∧ b1 / 64 = 2) ∧ (2 < n ∧ b2 / 64 = 2) ∧ (3 < n ∧ b3 / 64 = 2)
        · obtain rfl := h1 hd.2.1.1
          obtain rfl := h2 hd.2.2.1.1
          obtain rfl := h3 hd.2.2.2.1
          rw [if_pos hd, if_pos ⟨hd.1, ⟨by omega, hd.2.1.2⟩, ⟨by omega, hd.2.2.1.2⟩, by omega, hd.2.2.2.2⟩]
        · rw [if_neg hd, if_neg (fun h => hd ⟨h.1, e1 h.2.1, e2 h.2.2.1, e3 h.2.2.2⟩)]
theorem low_div {x : Nat} (h : x < 128) : x / 64 ≠ 2 := by omega
theorem decode_white (a b : ByteArray) (hb : ∀ k, k < b.size → byteAt b k < 128) (i : Nat) (h : i < a.size) : Utf8.decode (a ++ b) i = Utf8.decode a i := by
  have key : ∀ k, ¬ k < a.size - i → byteAt (a ++ b) (i + k) < 128 := fun k hk => by
    have e := byteAt_right a b (i + k - a.size)
    rw [show a.size + (i + k - a.size) = i + k by omega] at e
    rw [e]
    by_cases q : i + k - a.size < b.size
    · exact hb _ q
    · rw [byteAt_out b _ q]; decide
  rw [decode_at, decode_at a i]
  have e0 := byteAt_left a b i h
  unfold byteAt at e0 key
  rw [e0]
  refine decodeN_white _ _ _ _ _ _ _ _ _ (by rw [app_size]; omega) (fun hh => ?_) (fun hh => ?_) (fun hh => ?_) (fun hh => low_div (key 1 hh)) (fun hh => low_div (key 2 hh)) (fun hh => low_div (key 3 hh))
  · exact byteAt_left a b (i + 1) (by omega)
  · exact byteAt_left a b (i + 2) (by omega)
  · exact byteAt_left a b (i + 3) (by omega)
/-- A text without the white space behind it is as good. -/
theorem good_white {a b : ByteArray} (hb : ∀ k, k < b.size → byteAt b k < 128) (h : goodZ (a ++ b) < 0) : goodZ a < 0 := by
  have key : ∀ (f i : Nat) (x : Int), 0 ≤ x → i ≤ a.size → a.size ≤ i + f → goodFrom a f i = x → goodFrom (a ++ b) (f + b.size) i = x := by
    intro f
    induction f with
    | zero =>
      intro i x h0 h1 h2 h3
      rw [goodFrom] at h3
      omega
    | succ f ih =>
      intro i x h0 h1 h2 h3
      by_cases hi : i < a.size
      · unfold goodFrom at h3
        rw [if_pos hi] at h3
        have hd := decode_white a b hb i hi
        rw [show f + 1 + b.size = (f + b.size) + 1 by omega, goodFrom, if_pos (by rw [app_size]; omega), stop_of_eq hd, hd]
        cases hst : stop a i with
        | true =>
          rw [hst] at h3
          simp only [if_true] at h3 ⊢
          exact h3
        | false =>
          rw [hst] at h3
          simp only [Bool.false_eq_true, if_false] at h3 ⊢
          have hin := decode_in a i hi
          have hw : 0 < (Utf8.decode a i).2 := decode_width_pos a i hi
          exact ih _ x h0 hin (by omega) h3
      · rw [goodFrom_end a _ i hi] at h3
        omega
  rcases Int.lt_or_le (goodZ a) 0 with h1 | h1
  · exact h1
  · exfalso
    have h2 := key a.size 0 (goodZ a) h1 (Nat.zero_le _) (by omega) rfl
    have h3 : goodZ (a ++ b) = goodZ a := by
      conv => lhs; unfold goodZ
      rw [app_size]
      exact h2
    omega
theorem goodZ_low {s : ByteArray} (h : ∀ j, j < s.size → byteAt s j = 9 ∨ (32 ≤ byteAt s j ∧ byteAt s j ≤ 126)) : goodZ s = -1 := by
  have key : ∀ (f i : Nat), goodFrom s f i = -1 := by
    intro f
    induction f with
    | zero => intro i; simp [goodFrom]
    | succ f ih =>
      intro i
      by_cases hi : i < s.size
      · have hb := h i hi
        have hs : stop s i = false := by
          unfold stop
          refine decide_eq_false fun h9 => ?_
          rcases (stop_ref s i hi).1 h9 with h9 | h9 | h9
          · have hsz : sizeAt s i = 1 := by
              unfold sizeAt sizeN
              rw [decodeN_ascii _ _ _ _ _ (by omega)]
              rw [if_neg (fun h8 => by have : byteAt s i = 65533 := h8.1; omega)]
            omega
          · omega
          · omega
        have e : goodFrom s (f + 1) i = goodFrom s f (i + (Utf8.decode s i).2) := by simp [goodFrom, hi, hs]
        rw [e, ih]
      · exact goodFrom_end s _ i hi
  exact key _ _
/-- What stands behind low signs is as good. -/
theorem good_behind {a b : ByteArray} (ha : goodZ a = -1) (h : goodZ (a ++ b) < 0) : goodZ b < 0 := by
  rw [good_app a b ha] at h
  split at h
  · omega
  · rcases goodFrom_ge b b.size 0 with h1 | h1
    · unfold goodZ; omega
    · unfold goodZ at h ⊢
      omega
theorem wB_is {c : Nat} (h : wB c = true) : c = 32 ∨ c = 9 := by
  unfold wB at h
  simpa using h
theorem good_trimR {x : ByteArray} (h : goodZ x < 0) : goodZ (trimR x) < 0 := by
  have e : hi x ≤ x.size := hiB_le x x.size
  have hj := part_join x (hi x) e
  rw [← hj] at h
  refine good_white (fun k hk => ?_) h
  rw [ByteArray.size_extract] at hk
  rw [extract_byte x (hi x) k (by omega)]
  have := (hi_facts x x.size).1 (hi x + k) (Nat.le_add_right _ _) (by omega)
  have := wB_is this
  omega
theorem good_trimL {x : ByteArray} (h : goodZ x < 0) : goodZ (trimL x) < 0 := by
  obtain ⟨a, b, c, d⟩ := lo_facts x x.size 0 (by omega) (Nat.zero_le _)
  have hl : lo x = loB x x.size 0 := rfl
  rw [← hl] at a b c d
  have hj := part_join x (lo x) b
  rw [← hj] at h
  refine good_behind (goodZ_low fun j hj => ?_) h
  rw [part_size x _ b] at hj
  rw [part_at x _ j b hj]
  have := wB_is (c j (Nat.zero_le _) hj)
  omega
theorem good_trimB {x : ByteArray} (h : goodZ x < 0) : goodZ (trimB x) < 0 := good_trimR (good_trimL h)
theorem trimR_twice (x : ByteArray) : trimR (trimR x) = trimR x := by
  have e : hi x ≤ x.size := hiB_le x x.size
  have hz : (trimR x).size = hi x := part_size x _ e
  rcases Nat.eq_zero_or_pos (hi x) with h0 | h0
  · exact tail_nil _ (by omega)
  · refine tail_end _ (hi x - 1) (by omega) ?_
    have := (hi_facts x x.size).2 h0
    have e2 : byteAt (trimR x) (hi x - 1) = byteAt x (hi x - 1) := part_at x _ _ e (by omega)
    rw [e2]
    exact this
theorem trimB_twice (x : ByteArray) : trimB (trimB x) = trimB x := by
  refine trim_eq ?_
  obtain ⟨g1, g2, _, _, _, h1, h2⟩ := trimB_is x
  exact ⟨[], [], (fun c hc => by cases hc), (fun c hc => by cases hc), (by rw [List.nil_append, List.append_nil]), h1, h2⟩
/-- Fields as they are read. -/
inductive GoodF : List Fd → Prop
  | nil : GoodF []
  | snoc {F : List Fd} {f : Fd} : GoodF F → NmOk f.n → 0 < f.ls.length → mayAll f.ls 0 = true → hasN F f.n = false → GoodF (F ++ [f])
theorem GoodF.last {F : List Fd} {f : Fd} (h : GoodF (F ++ [f])) : GoodF F ∧ NmOk f.n ∧ 0 < f.ls.length ∧ mayAll f.ls 0 = true ∧ hasN F f.n = false := by
  generalize e : F ++ [f] = X at h
  cases h with
  | nil => simp at e
  | snoc h1 h2 h3 h4 h5 =>
    obtain ⟨e1, e2⟩ := List.append_inj' e rfl
    injection e2 with e2 _
    subst e1 e2
    exact ⟨h1, h2, h3, h4, h5⟩
theorem mayAll_snoc (t : ByteArray) : ∀ (ls : List ByteArray) (k : Nat), mayAll (ls ++ [t]) k = (mayAll ls k && mayL (k + ls.length) t)
  | [], k => by
    show (mayL k t && true) = (true && mayL (k + 0) t)
    simp
  | s :: r, k => by
    show (mayL k s && mayAll (r ++ [t]) (k + 1)) = ((mayL k s && mayAll r (k + 1)) && mayL (k + (r.length + 1)) t)
    rw [mayAll_snoc t r (k + 1), show k + 1 + r.length = k + (r.length + 1) by omega, Bool.and_assoc]
theorem fieldsR_snoc (f : Fd) : ∀ (F A : List Fd), fieldsR A (F ++ [f]) = if fieldsR A F ≠ 0 then fieldsR A F else mayF f (A ++ F)
  | [], A => by
    have e : fieldsR A [] = 0 := rfl
    rw [e, List.append_nil, List.nil_append, fieldsR, if_neg (c := (0 : Nat) ≠ 0) (fun h => h rfl)]
    by_cases h : mayF f A = 0
    · rw [h]; rfl
    · rw [if_pos h]
  | g :: r, A => by
    have e1 : fieldsR A ((g :: r) ++ [f]) = if mayF g A ≠ 0 then mayF g A else fieldsR (A ++ [g]) (r ++ [f]) := by
      rw [List.cons_append, fieldsR]
    have e2 : fieldsR A (g :: r) = if mayF g A ≠ 0 then mayF g A else fieldsR (A ++ [g]) r := by rw [fieldsR]
    rw [e1, e2]
    by_cases h : mayF g A = 0
    · have hn : ¬ mayF g A ≠ 0 := fun h2 => h2 h
      simp only [if_neg hn]
      rw [fieldsR_snoc f r (A ++ [g]), List.append_assoc]
      rfl
    · simp only [if_pos h]
theorem GoodF.may {F : List Fd} (h : GoodF F) : fieldsR [] F = 0 ∨ fieldsR [] F = 2 := by
  induction h with
  | nil => exact .inl rfl
  | @snoc F f h1 h2 h3 h4 h5 ih =>
    rw [fieldsR_snoc, List.nil_append]
    rcases ih with ih | ih
    · rw [if_neg (fun h => h ih)]
      unfold mayF
      rw [if_neg (by have := h2.1; have := h2.2; omega), if_neg (by simp [h4]), if_neg (by simp [h5])]
      split
      · exact .inr rfl
      · exact .inl rfl
    · rw [if_pos (by omega)]
      exact .inr ih
/-- What is read so far may be printed. -/
def SOk (L : List St) : Prop := L.length ≤ 200 ∧ ∀ s ∈ L, 0 < s.fs.length ∧ s.fs.length ≤ 40 ∧ GoodF s.fs
theorem SOk.end_ {Lp : List St} {l0 l1 : Int} {F F' : List Fd} (h : SOk (Lp ++ [⟨l0, F⟩])) (h1 : 0 < F'.length) (h2 : F'.length ≤ 40) (h3 : GoodF F') : SOk (Lp ++ [⟨l1, F'⟩]) := by
  obtain ⟨a, b⟩ := h
  refine ⟨by rw [List.length_append] at a ⊢; exact a, fun s hs => ?_⟩
  rcases List.mem_append.1 hs with hs | hs
  · exact b s (List.mem_append_left _ hs)
  · rw [List.mem_singleton] at hs
    subst hs
    exact ⟨h1, h2, h3⟩
theorem SOk.last {Lp : List St} {l0 : Int} {F : List Fd} (h : SOk (Lp ++ [⟨l0, F⟩])) : 0 < F.length ∧ F.length ≤ 40 ∧ GoodF F := h.2 ⟨l0, F⟩ (List.mem_append_right _ (List.mem_singleton.2 rfl))
theorem SOk.more {L : List St} {l1 : Int} {F : List Fd} (h : SOk L) (hl : L.length ≠ 200) (h1 : 0 < F.length) (h2 : F.length ≤ 40) (h3 : GoodF F) : SOk (L ++ [⟨l1, F⟩]) := by
  refine ⟨by rw [List.length_append]; have := h.1; simp; omega, fun s hs => ?_⟩
  rcases List.mem_append.1 hs with hs | hs
  · exact h.2 s hs
  · rw [List.mem_singleton] at hs
    subst hs
    exact ⟨h1, h2, h3⟩
theorem furT_may {s : ByteArray} {k : Nat} (hk : 0 < k) (hg : goodZ s < 0) (hw : isWh s = true) : mayL k (furT s) = true := by
  have hs : 0 < s.size ∧ wB (byteAt s 0) = true := by
    unfold isWh at hw
    simpa using hw
  have hg2 : goodZ (s.extract 1 s.size) < 0 := by
    have hj := part_join s 1 (by omega)
    rw [← hj] at hg
    refine good_behind (goodZ_low fun j hj => ?_) hg
    rw [part_size s 1 (by omega)] at hj
    rw [part_at s 1 j (by omega) hj, show j = 0 by omega]
    have := wB_is hs.2
    omega
  unfold furT
  split
  · exact mayL_on (by decide +kernel) (by decide +kernel) hk (by decide +kernel)
  · next h => exact mayL_on (good_trimR hg2) (trimR_twice _) hk h
theorem name_ok {s : ByteArray} (h0 : nameN s ≠ 0) (h1 : nameN s ≠ s.size) : NmOk (s.extract 0 (nameN s)) ∧ byteAt s (nameN s) = 58 ∧ nameN s < s.size := by
  have hp := nm_pre0 s _ (by omega) rfl
  have hle := nameN_le s
  obtain ⟨_, h2, h3⟩ := hp
  refine ⟨NmOk.of (by rw [part_size s _ hle]; omega) fun j hj => ?_, by omega, by omega⟩
  rw [part_size s _ hle] at hj
  rw [part_at s _ j hle hj]
  exact h2 j (Nat.zero_le _) hj
theorem first_may {s : ByteArray} (hg : goodZ s < 0) (h0 : nameN s ≠ 0) (h1 : nameN s ≠ s.size) : mayAll [trimB (s.extract (nameN s + 1) s.size)] 0 = true := by
  obtain ⟨h2, h3, h4⟩ := name_ok h0 h1
  have hg2 : goodZ (s.extract (nameN s + 1) s.size) < 0 := by
    have hj := part_join s (nameN s + 1) (by omega)
    rw [← hj] at hg
    refine good_behind (goodZ_low fun j hj => ?_) hg
    rw [part_size s _ (by omega)] at hj
    rw [part_at s _ j (by omega) hj]
    by_cases e : j = nameN s
    · rw [e, h3]; omega
    · have h5 := h2.good j (by rw [part_size s _ (by omega)]; omega)
      rw [part_at s _ j (by omega) (by omega)] at h5
      unfold goodC at h5
      omega
  show (mayL 0 _ && true) = true
  rw [Bool.and_true, mayL_first (good_trimB hg2) ?_ (by omega), decide_eq_true (trimB_twice _)]
  unfold trimB
  exact trimR_twice _
theorem SOk.take {s : ByteArray} {ln : Int} {σ σ' : PS} (h : SOk σ.all) (hg : goodZ s < 0) (ht : takeS s ln σ = .ok σ') : SOk σ'.all := by
  unfold takeS at ht
  split at ht
  · simp only [Except.ok.injEq] at ht; subst ht; exact h
  split at ht
  · simp only [Except.ok.injEq] at ht; subst ht; exact h
  split at ht
  · next hw =>
    cases σ with
    | shut L => unfold furS at ht; simp at ht
    | opn Lp l0 Fp nm ls =>
      unfold furS at ht
      simp only [Except.ok.injEq] at ht
      subst ht
      have h : SOk (Lp ++ [⟨l0, Fp ++ [⟨nm, ls⟩]⟩]) := h
      obtain ⟨h1, h2, h3⟩ := h.last
      obtain ⟨g1, g2, g3, g4, g5⟩ := h3.last
      have g3 : 0 < ls.length := g3
      refine h.end_ (by simp) (by rw [List.length_append] at h2 ⊢; exact h2) (.snoc g1 g2 (by simp) ?_ g5)
      show mayAll (ls ++ [furT s]) 0 = true
      rw [mayAll_snoc, g4, Bool.true_and, Nat.zero_add]
      exact furT_may g3 hg hw
  · unfold fieldS at ht
    split at ht
    · simp at ht
    next hn =>
    have n0 : nameN s ≠ 0 := by omega
    have n1 : nameN s ≠ s.size := by omega
    have hnm := (name_ok n0 n1).1
    have hf := first_may hg n0 n1
    cases σ with
    | shut L =>
      simp only at ht
      split at ht
      · simp at ht
      next h2 =>
      simp only [Except.ok.injEq] at ht
      subst ht
      have h : SOk L := h
      exact h.more h2 (by simp) (by simp) (.snoc .nil hnm (by simp) hf rfl)
    | opn Lp l0 Fp nm ls =>
      simp only at ht
      split at ht
      · simp at ht
      next h2 =>
      split at ht
      · simp at ht
      next h3 =>
      simp only [Except.ok.injEq] at ht
      subst ht
      have h : SOk (Lp ++ [⟨l0, Fp ++ [⟨nm, ls⟩]⟩]) := h
      obtain ⟨h4, h5, h6⟩ := h.last
      refine h.end_ (by simp) (by rw [List.length_append] at h5 ⊢; rw [List.length_append]; simp at h5 ⊢; omega) (.snoc h6 hnm (by simp) hf (by simpa using h3))
theorem SOk.run : ∀ (M : List ByteArray) (i : Nat) (σ : PS), (∀ x ∈ M, goodZ x < 0) → SOk σ.all → ∀ σ', runS M i σ = .ok σ' → SOk σ'.all
  | [], i, σ, _, h, σ', e => by
    unfold runS at e
    simp only [Except.ok.injEq] at e
    subst e
    exact h
  | x :: r, i, σ, hg, h, σ', e => by
    rw [runS] at e
    cases ht : takeS x ((i : Int) + 1) σ with
    | error k => rw [ht] at e; simp at e
    | ok σ1 =>
      rw [ht] at e
      exact SOk.run r (i + 1) σ1 (fun y hy => hg y (List.mem_cons_of_mem _ hy)) (h.take (hg x (List.mem_cons_self ..)) ht) σ' e
theorem SOk.parse {T : ByteArray} {σ : PS} (h : parseS T = .ok σ) : SOk σ.all := by
  unfold parseS at h
  split at h
  · next h0 =>
    refine SOk.run _ 0 _ (fun x hx => ?_) ⟨Nat.zero_le _, fun s hs => by cases hs⟩ σ h
    have e : linesGot T = linesOf T := by unfold linesGot; rw [if_pos h0]
    rw [e] at hx
    unfold linesErr at h0
    split at h0
    · cases h0
    · exact ((chk_fine _ 0).1 h0 x hx).2
  · simp at h
theorem SOk.stsR : ∀ {L : List St}, (∀ s ∈ L, 0 < s.fs.length ∧ s.fs.length ≤ 40 ∧ GoodF s.fs) → stsR L = 0 ∨ stsR L = 2
  | [], _ => .inl rfl
  | s :: r, h => by
    obtain ⟨h1, h2, h3⟩ := h s (List.mem_cons_self ..)
    unfold Go.Proofs.YtjkaigfpjebfbaaDoor.stsR
    rw [if_neg (by omega)]
    rcases h3.may with h4 | h4
    · rw [if_neg (fun h => h h4)]
      exact SOk.stsR (fun x hx => h x (List.mem_cons_of_mem _ hx))
    · rw [if_pos (by omega)]
      exact .inr h4
/-- What is parsed may be printed, where no line gets too long. -/
theorem SOk.print {L : List St} (h : SOk L) : printE L = 0 ∨ printE L = 2 := by
  unfold printE
  rw [if_neg (by have := h.1; omega)]
  rcases SOk.stsR h.2 with h1 | h1
  · rw [if_neg (by omega)]
    split
    · exact .inr rfl
    · exact .inl rfl
  · rw [if_pos (by omega)]
    exact .inr h1
end Go.Proofs.YtjkaigfpjebfbaaDoor
