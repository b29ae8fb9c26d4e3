/- Put together: stanza.Print, and what is printed read back: the plain law; What is printed is read as it was: the plain law; stanza.mayLine, stanza.printed; stanza.mayField; The text under way: an owned row of bytes; the steps of Print. -/
import Derived.Test.YtjkaigfpjebfbaaDoorB8
import Derived.Test.YtjkaigfpjebfbaaDoorB1
import Derived.Test.YtjkaigfpjebfbaaDoorB5
import Derived.Test.YtjkaigfpjebfbaaDoorSt12
import Derived.Test.YtjkaigfpjebfbaaDoorSt8
import Derived.Lib.AppendStr
/- stanza.Print, and what is printed read back: the plain law. -/
namespace Go.Proofs.YtjkaigfpjebfbaaDoor
open Go.RowKit
set_option linter.unusedVariables false

/-- A byte that may stand in a field's name. -/
def goodC (i b : Nat) : Prop := b ≠ 58 ∧ 33 ≤ b ∧ b ≤ 126 ∧ (i = 0 → b ≠ 35 ∧ b ≠ 45)
theorem nm_pre (s : ByteArray) (k : Nat) (h0 : 0 < k) : ∀ (f i : Nat), i ≤ s.size → s.size ≤ i + f → nmF s f i = k → i ≤ k ∧ (∀ j, i ≤ j → j < k → goodC j (byteAt s j)) ∧ (k = s.size ∨ (k < s.size ∧ byteAt s k = 58))
  | 0, i, h1, h2, h => by
    have h : s.size = k := h
    exact ⟨by omega, fun j a b => by omega, .inl h.symm⟩
  | f + 1, i, h1, h2, h => by
    by_cases hi : i < s.size
    · rw [nmF_step s f i hi] at h
      by_cases e1 : byteAt s i = 58
      · rw [if_pos e1] at h
        subst h
        exact ⟨Nat.le_refl _, fun j a b => by omega, .inr ⟨hi, e1⟩⟩
      · rw [if_neg e1] at h
        by_cases e2 : byteAt s i < 33 ∨ 126 < byteAt s i ∨ (i = 0 ∧ (byteAt s i = 35 ∨ byteAt s i = 45))
        · rw [if_pos e2] at h; omega
        · rw [if_neg e2] at h
          obtain ⟨g1, g2, g3⟩ := nm_pre s k h0 f (i + 1) (by omega) (by omega) h
          refine ⟨by omega, fun j a b => ?_, g3⟩
          by_cases e : j = i
          · subst e
            exact ⟨e1, by omega, by omega, fun e => by omega⟩
          · exact g2 j (by omega) b
    · rw [nmF_end s _ i hi] at h
      exact ⟨by omega, fun j a b => by omega, .inl h.symm⟩
theorem nm_pre0 (t : ByteArray) (k : Nat) (h0 : 0 < k) (h : nameN t = k) : 0 ≤ k ∧ (∀ j, 0 ≤ j → j < k → goodC j (byteAt t j)) ∧ (k = t.size ∨ (k < t.size ∧ byteAt t k = 58)) := nm_pre t k h0 t.size 0 (Nat.zero_le _) (by omega) h
theorem nm_stop (s : ByteArray) (k : Nat) (hk : k = s.size ∨ (k < s.size ∧ byteAt s k = 58)) (hg : ∀ j, j < k → goodC j (byteAt s j)) : ∀ (f i : Nat), i ≤ k → s.size ≤ i + f → nmF s f i = k
  | 0, i, h1, h2 => by
    show s.size = k
    omega
  | f + 1, i, h1, h2 => by
    by_cases hi : i < s.size
    · rw [nmF_step s f i hi]
      by_cases e : i = k
      · subst e
        rw [if_pos (by omega)]
      · have := hg i (by omega)
        obtain ⟨g1, g2, g3, g4⟩ := this
        rw [if_neg g1, if_neg (fun h => by
          rcases h with h | h | ⟨h, h9⟩
          · omega
          · omega
          · have := g4 h; omega)]
        exact nm_stop s k hk hg f (i + 1) (by omega) (by omega)
    · rw [nmF_end s _ i hi]; omega
/-- A name that may be. -/
def NmOk (nm : ByteArray) : Prop := 0 < nm.size ∧ nameN nm = nm.size
theorem NmOk.good {nm : ByteArray} (h : NmOk nm) : ∀ j, j < nm.size → goodC j (byteAt nm j) := fun j hj => (nm_pre nm nm.size h.1 nm.size 0 (Nat.zero_le _) (by omega) h.2).2.1 j (Nat.zero_le _) hj
theorem NmOk.of {nm : ByteArray} (h0 : 0 < nm.size) (h : ∀ j, j < nm.size → goodC j (byteAt nm j)) : NmOk nm := ⟨h0, nm_stop nm nm.size (.inl rfl) h _ 0 (Nat.zero_le _) (by omega)⟩
theorem NmOk.colon {nm : ByteArray} (h : NmOk nm) (r : ByteArray) : nameN (nm ++ (⟨#[58]⟩ ++ r)) = nm.size := by
  have e1 : (nm ++ ((⟨#[58]⟩ : ByteArray) ++ r)).size = nm.size + (1 + r.size) := by rw [app_size, app_size]; rfl
  refine nm_stop _ _ (.inr ⟨by omega, ?_⟩) (fun j hj => ?_) _ 0 (Nat.zero_le _) (by omega)
  · have := byteAt_right nm (⟨#[58]⟩ ++ r) 0
    rw [Nat.add_zero] at this
    rw [this, byteAt_left _ _ 0 (by decide)]
    rfl
  · rw [byteAt_left nm _ j hj]
    exact h.good j hj
theorem nm_colon (nm : ByteArray) : (0 < nm.size ∧ nameN (nm ++ ⟨#[58]⟩) = nm.size) ↔ NmOk nm := by
  have e0 : (⟨#[58]⟩ : ByteArray) ++ (⟨#[]⟩ : ByteArray) = ⟨#[58]⟩ := rfl
  constructor
  · rintro ⟨h0, h⟩
    refine NmOk.of h0 fun j hj => ?_
    have := (nm_pre0 (nm ++ ⟨#[58]⟩) nm.size h0 h).2.1 j (Nat.zero_le _) hj
    rw [byteAt_left nm _ j hj] at this
    exact this
  · intro h
    have := h.colon ⟨#[]⟩
    rw [e0] at this
    exact ⟨h.1, this⟩
theorem nm_colon_ne (nm : ByteArray) : nameN (nm ++ ⟨#[58]⟩) ≠ (nm ++ (⟨#[58]⟩ : ByteArray)).size := by
  intro h
  have e1 : (nm ++ (⟨#[58]⟩ : ByteArray)).size = nm.size + 1 := by rw [app_size]; rfl
  have := (nm_pre0 (nm ++ ⟨#[58]⟩) _ (by omega) h).2.1 nm.size (Nat.zero_le _) (by omega)
  have e2 := byteAt_right nm ⟨#[58]⟩ 0
  rw [Nat.add_zero] at e2
  rw [e2] at this
  exact this.1 rfl
theorem ext_left (a b : ByteArray) : (a ++ b).extract 0 a.size = a := bl_inj (by rw [bl_part, bl_app, List.drop_zero, Nat.sub_zero]; exact List.take_left' rfl)
theorem ext_right (a b : ByteArray) : (a ++ b).extract a.size (a ++ b).size = b := bl_inj (by
  rw [bl_part, bl_app, List.drop_left' (bl_len a)]
  refine List.take_of_length_le ?_
  rw [app_size, bl_len]
  omega)
theorem size0 {s : ByteArray} (h : s.size = 0) : s = ⟨#[]⟩ := bl_inj (List.eq_nil_of_length_eq_zero h)
/-- A text with ink in it is not blank. -/
theorem trim_ink {s : ByteArray} {i : Nat} (hi : i < s.size) (h : wB (byteAt s i) = false) : (trimB s).size ≠ 0 := by
  intro h0
  obtain ⟨g1, g2, w1, w2, e, _, _⟩ := trimB_is s
  have hm : bl (trimB s) = [] := List.eq_nil_of_length_eq_zero h0
  rw [hm, List.append_nil] at e
  have hl : i < (bl s).length := hi
  have hw : wU ((bl s)[i]) = true := by
    have hmem : (bl s)[i] ∈ g1 ++ g2 := by rw [← e]; exact List.getElem_mem hl
    rcases List.mem_append.1 hmem with h9 | h9
    · exact w1 _ h9
    · exact w2 _ h9
  have := bl_get s i hl
  unfold wU at hw
  rw [this, h] at hw
  cases hw
theorem trimR_last {s : ByteArray} {n : Nat} (h : trimR s = s) (hn : s.size = n + 1) : wB (byteAt s n) = false := by
  have e : hi s = s.size := by
    have h1 := congrArg ByteArray.size h
    unfold trimR at h1
    rw [ByteArray.size_extract] at h1
    have := hiB_le s s.size
    have e2 : hi s = hiB s s.size := rfl
    omega
  have := (hi_facts s s.size).2
  have e2 : hi s = hiB s s.size := rfl
  rw [← e2, e] at this
  have h2 := this (by omega)
  rw [hn] at h2
  exact h2
/-- A field's line, as it is printed. -/
def lineB (nm : ByteArray) (k : Nat) (s : ByteArray) : ByteArray :=
  if 0 < k then (if s.size = 0 then ⟨#[32, 46]⟩ else ⟨#[32]⟩ ++ s) else if s.size = 0 then nm ++ ⟨#[58]⟩ else nm ++ ⟨#[58, 32]⟩ ++ s
/-- May a field's line be printed? -/
def mayL (k : Nat) (s : ByteArray) : Bool := decide (goodZ s < 0) && decide (trimR s = s) && !(decide (0 < k) && decide (s = dotB)) && (decide (0 < k) || decide (trimB s = s))
def mayAll : List ByteArray → Nat → Bool
  | [], _ => true
  | s :: r, k => mayL k s && mayAll r (k + 1)
def longAny (nm : ByteArray) : List ByteArray → Nat → Bool
  | [], _ => false
  | s :: r, k => decide (1000 < (lineB nm k s).size) || longAny nm r (k + 1)
/-- May a field be printed behind others: 0, or the error. -/
def mayF (f : Fd) (ahead : List Fd) : Nat :=
  if nameN f.n = 0 ∨ nameN f.n ≠ f.n.size ∨ f.ls.length = 0 then 3 else if mayAll f.ls 0 = false then 3 else if hasN ahead f.n then 4 else if longAny f.n f.ls 0 then 2 else 0
def fieldsR : List Fd → List Fd → Nat
  | _, [] => 0
  | ahead, f :: r => if mayF f ahead ≠ 0 then mayF f ahead else fieldsR (ahead ++ [f]) r
def stsR : List St → Nat
  | [] => 0
  | s :: r => if s.fs.length = 0 ∨ 40 < s.fs.length then 12 else if fieldsR [] s.fs ≠ 0 then fieldsR [] s.fs else stsR r
/-- A field's printed lines, from the kth on. -/
def lns (nm : ByteArray) : List ByteArray → Nat → List (List UInt8)
  | [], _ => []
  | s :: r, k => bl (lineB nm k s) :: lns nm r (k + 1)
def linesF (f : Fd) : List (List UInt8) := lns f.n f.ls 0
def linesS (s : St) : List (List UInt8) := s.fs.flatMap linesF
def moreS (L : List St) : List (List UInt8) := L.flatMap fun s => [] :: linesS s
def linesP : List St → List (List UInt8)
  | [] => []
  | s :: r => linesS s ++ moreS r
/-- What Print comes to: 0, or the error; the text. -/
def printE (L : List St) : Nat := if 200 < L.length then 12 else if stsR L ≠ 0 then stsR L else if 65536 < (jn (linesP L)).length then 2 else 0
def printT (L : List St) : ByteArray := if printE L = 0 then ofL (jn (linesP L)) else ⟨#[]⟩

theorem jn_app : ∀ (a b : List (List UInt8)), jn (a ++ b) = jn a ++ jn b
  | [], b => rfl
  | x :: a, b => by
    show x ++ [10] ++ jn (a ++ b) = (x ++ [10] ++ jn a) ++ jn b
    rw [jn_app a b, List.append_assoc, List.append_assoc, List.append_assoc]
theorem rl_cut (b : List UInt8) : ∀ (a cur : List UInt8), (∀ c ∈ a, c ≠ 10) → rl (a ++ 10 :: b) cur = (cur ++ a) :: rl b []
  | [], cur, _ => by
    show (if (10 : UInt8) = 10 then cur :: rl b [] else _) = _
    rw [if_pos rfl, List.append_nil]
  | c :: a, cur, h => by
    show (if c = 10 then _ else rl (a ++ 10 :: b) (cur ++ [c])) = _
    rw [if_neg (h c (List.mem_cons_self ..)), rl_cut b a _ (fun d hd => h d (List.mem_cons_of_mem _ hd)), List.append_assoc]
    rfl
theorem rl_jn : ∀ (M : List (List UInt8)), (∀ x ∈ M, ∀ c ∈ x, c ≠ 10) → rl (jn M) [] = M
  | [], _ => rfl
  | x :: r, h => by
    show rl (x ++ [10] ++ jn r) [] = _
    have := rl_cut (jn r) x [] (h x (List.mem_cons_self ..))
    rw [List.append_assoc]
    show rl (x ++ 10 :: jn r) [] = _
    rw [this, List.nil_append, rl_jn r (fun y hy => h y (List.mem_cons_of_mem _ hy))]
/-- A good text has no line feed. -/
theorem good_feed {s : ByteArray} (h : goodZ s < 0) : ∀ c ∈ bl s, c ≠ 10 := by
  have key : ∀ (f i : Nat), s.size ≤ i + f → goodFrom s f i < 0 → (∀ j, i ≤ j → j < s.size → byteAt s j ≠ 10) := by
    intro f
    induction f with
    | zero => intro i h1 _ j a b; omega
    | succ f ih =>
      intro i h1 h2 j a b
      have hi : i < s.size := by omega
      by_cases hs : stop s i = true
      · have e : goodFrom s (f + 1) i = (i : Int) := by simp [goodFrom, hi, hs]
        rw [e] at h2; omega
      · have hs : stop s i = false := by simpa using hs
        have e : goodFrom s (f + 1) i = goodFrom s f (i + (Utf8.decode s i).2) := by simp [goodFrom, hi, hs]
        rw [e] at h2
        have hpos : 0 < (Utf8.decode s i).2 := by
          have := sizeAt_step s i hs
          rcases Nat.eq_zero_or_pos (Utf8.decode s i).2 with h9 | h9
          · rw [h9] at this
            have h8 := (stop_ref s i hi).2 (.inl this)
            unfold stop at hs
            rw [decide_eq_true h8] at hs
            cases hs
          · exact h9
        rcases Nat.lt_or_ge j (i + (Utf8.decode s i).2) with hj | hj
        · by_cases e2 : j = i
          · subst e2
            intro h10
            have h8 := (stop_ref s j hi).2 (.inr (.inl ⟨by omega, by omega⟩))
            unfold stop at hs
            rw [decide_eq_true h8] at hs
            cases hs
          · have := decode_tail s i (j - i - 1) (by omega)
            rw [show i + 1 + (j - i - 1) = j by omega] at this
            omega
        · exact ih _ (by omega) h2 j hj b
  intro c hc
  obtain ⟨j, hj, rfl⟩ := List.mem_iff_getElem.1 hc
  intro h10
  have h1 := bl_get s j hj
  have h2 := key s.size 0 (by omega) h j (Nat.zero_le _) hj
  rw [h10] at h1
  exact h2 h1.symm
/-- A text of signs that can be seen is good. -/
theorem goodZ_ascii {s : ByteArray} (h : ∀ j, j < s.size → 32 ≤ byteAt s j ∧ byteAt s j ≤ 126) : goodZ s = -1 := by
  have key : ∀ (f i : Nat), goodFrom s f i = -1 := by
    intro f
    induction f with
    | zero => intro i; simp [goodFrom]
    | succ f ih =>
      intro i
      by_cases hi : i < s.size
      · have hb := h i hi
        have hs : stop s i = false := by
          unfold stop
          refine decide_eq_false fun h9 => ?_
          rcases (stop_ref s i hi).1 h9 with h9 | h9 | h9
          · have hsz : sizeAt s i = 1 := by
              unfold sizeAt sizeN
              rw [decodeN_ascii _ _ _ _ _ (by omega)]
              rw [if_neg (fun h8 => by have : byteAt s i = 65533 := h8.1; omega)]
            omega
          · omega
          · omega
        have e : goodFrom s (f + 1) i = goodFrom s f (i + (Utf8.decode s i).2) := by simp [goodFrom, hi, hs]
        rw [e, ih]
      · exact goodFrom_end s _ i hi
  exact key _ _
theorem good_both {a b : ByteArray} (ha : goodZ a = -1) (hb : goodZ b < 0) : goodZ (a ++ b) = -1 := by
  rw [good_app a b ha]
  have : goodZ b = -1 := by
    rcases goodFrom_ge b b.size 0 with h | h
    · exact h
    · unfold goodZ at hb; omega
  rw [if_pos this]
theorem NmOk.ascii {nm : ByteArray} (h : NmOk nm) : goodZ nm = -1 := goodZ_ascii fun j hj => by
  have := h.good j hj
  unfold goodC at this
  omega
theorem lineB_good {nm : ByteArray} {k : Nat} {s : ByteArray} (h : NmOk nm) (hs : goodZ s < 0) : goodZ (lineB nm k s) = -1 := by
  unfold lineB
  split
  · split
    · kernel_rfl
    · exact good_both (by kernel_rfl) hs
  · split
    · exact good_both h.ascii (by decide +kernel)
    · exact good_both (good_both h.ascii (by decide +kernel)) hs
end Go.Proofs.YtjkaigfpjebfbaaDoor
/- What is printed is read as it was: the plain law. -/
namespace Go.Proofs.YtjkaigfpjebfbaaDoor
open Go.RowKit
set_option linter.unusedVariables false

theorem mayL_is {k : Nat} {s : ByteArray} (h : mayL k s = true) : goodZ s < 0 ∧ trimR s = s ∧ (0 < k → s ≠ dotB) ∧ (k = 0 → trimB s = s) := by
  unfold mayL at h
  simp only [Bool.and_eq_true, Bool.or_eq_true, Bool.not_eq_true', decide_eq_true_eq, Bool.and_eq_false_imp, decide_eq_false_iff_not] at h
  obtain ⟨⟨⟨h1, h2⟩, h3⟩, h4⟩ := h
  refine ⟨h1, h2, h3, fun hk => ?_⟩
  rcases h4 with h4 | h4
  · omega
  · exact h4
theorem takeS_line {x : ByteArray} {ln : Int} {σ : PS} (h1 : isRem x = false) (h2 : (trimB x).size ≠ 0) (h3 : isWh x = false) : takeS x ln σ = fieldS x ln σ := by
  unfold takeS
  rw [h1, h3, if_neg h2]
  rfl
theorem takeS_more {x : ByteArray} {ln : Int} {σ : PS} (h1 : isRem x = false) (h2 : (trimB x).size ≠ 0) (h3 : isWh x = true) : takeS x ln σ = furS x σ := by
  unfold takeS
  rw [h1, h3, if_neg h2]
  rfl
theorem takeS_blank {x : ByteArray} {ln : Int} {σ : PS} (h1 : isRem x = false) (h2 : (trimB x).size = 0) : takeS x ln σ = .ok (.shut σ.all) := by
  unfold takeS
  rw [h1, if_pos h2]
  rfl
theorem takeS_rem {x : ByteArray} {ln : Int} {σ : PS} (h1 : isRem x = true) : takeS x ln σ = .ok σ := by
  unfold takeS
  rw [h1]
  rfl
/-- A further line is read as it was. -/
theorem take_further {nm : ByteArray} {k : Nat} {s : ByteArray} (hk : 0 < k) (h : mayL k s = true) (ln : Int) (Lp : List St) (l0 : Int) (Fp : List Fd) (ls : List ByteArray) :
    takeS (lineB nm k s) ln (.opn Lp l0 Fp nm ls) = .ok (.opn Lp l0 Fp nm (ls ++ [s])) := by
  obtain ⟨h1, h2, h3, _⟩ := mayL_is h
  have h3 := h3 hk
  unfold lineB
  rw [if_pos hk]
  by_cases h0 : s.size = 0
  · rw [if_pos h0]
    have hs := size0 h0
    subst hs
    rw [takeS_more (by decide +kernel) (by decide +kernel) (by decide +kernel)]
    have e : furT ⟨#[32, 46]⟩ = ⟨#[]⟩ := by decide +kernel
    show Except.ok (PS.opn Lp l0 Fp nm (ls ++ [furT ⟨#[32, 46]⟩])) = _
    rw [e]
  · rw [if_neg h0]
    obtain ⟨n, hn⟩ : ∃ n, s.size = n + 1 := ⟨s.size - 1, by omega⟩
    have hx : ((⟨#[32]⟩ : ByteArray) ++ s).size = 1 + s.size := by rw [app_size]; rfl
    have b0 : byteAt ((⟨#[32]⟩ : ByteArray) ++ s) 0 = 32 := by rw [byteAt_left _ _ 0 (by decide)]; rfl
    have bl_ : byteAt ((⟨#[32]⟩ : ByteArray) ++ s) (1 + n) = byteAt s n := byteAt_right ⟨#[32]⟩ s n
    rw [takeS_more (by unfold isRem; rw [b0]; simp) (trim_ink (i := 1 + n) (by omega) (by rw [bl_]; exact trimR_last h2 hn)) (by unfold isWh; rw [b0, hx, decide_eq_true (by omega)]; rfl)]
    have e1 : ((⟨#[32]⟩ : ByteArray) ++ s).extract 1 ((⟨#[32]⟩ : ByteArray) ++ s).size = s := ext_right ⟨#[32]⟩ s
    have e : furT ((⟨#[32]⟩ : ByteArray) ++ s) = s := by
      unfold furT
      rw [e1, h2, if_neg h3]
    show Except.ok (PS.opn Lp l0 Fp nm (ls ++ [furT (⟨#[32]⟩ ++ s)])) = _
    rw [e]
/-- What stands behind the colon. -/
def restB (s : ByteArray) : ByteArray := if s.size = 0 then ⟨#[]⟩ else ⟨#[32]⟩ ++ s
theorem lineB_zero (nm s : ByteArray) : lineB nm 0 s = nm ++ (⟨#[58]⟩ ++ restB s) := by
  unfold lineB restB
  rw [if_neg (by omega)]
  split
  · rfl
  · refine bl_inj ?_
    simp only [bl_app]
    simp [bl]
theorem trim_rest {s : ByteArray} (h : trimB s = s) : trimB (restB s) = s := by
  unfold restB
  split
  · next h0 =>
    have := size0 h0
    subst this
    decide +kernel
  · refine trim_eq ?_
    have h1 := trimB_is s
    rw [h] at h1
    have h2 := h1.wide (g := [32]) (g' := []) (fun c hc => by simp at hc; subst hc; rfl) (fun c hc => by cases hc)
    rw [List.append_nil] at h2
    rw [bl_app]
    exact h2
/-- A field's first line. -/
theorem take_first {nm s : ByteArray} (hn : NmOk nm) (h : trimB s = s) (ln : Int) (σ : PS) :
    takeS (lineB nm 0 s) ln σ = match σ with
      | .shut L => if L.length = 200 then .error 12 else .ok (.opn L ln [] nm [s])
      | .opn Lp l0 Fp nm' ls => if Fp.length + 1 = 40 then .error 12 else if hasN (Fp ++ [⟨nm', ls⟩]) nm then .error 4 else .ok (.opn Lp l0 (Fp ++ [⟨nm', ls⟩]) nm [s]) := by
  rw [lineB_zero]
  have hz : (nm ++ ((⟨#[58]⟩ : ByteArray) ++ restB s)).size = nm.size + (1 + (restB s).size) := by rw [app_size, app_size]; rfl
  have h0 := hn.1
  have g0 := hn.good 0 h0
  have b0 : byteAt (nm ++ ((⟨#[58]⟩ : ByteArray) ++ restB s)) 0 = byteAt nm 0 := byteAt_left nm _ 0 h0
  unfold goodC at g0
  have g1 := g0.2.2.2 rfl
  have hw : wB (byteAt nm 0) = false := wB_no (by omega)
  rw [takeS_line (by unfold isRem; rw [b0]; simp; intro _; omega) (trim_ink (i := 0) (by omega) (by rw [b0]; exact hw)) (by unfold isWh; rw [b0, hw]; simp)]
  have hc := hn.colon (restB s)
  have e1 : (nm ++ ((⟨#[58]⟩ : ByteArray) ++ restB s)).extract 0 nm.size = nm := ext_left _ _
  have e2 : (nm ++ ((⟨#[58]⟩ : ByteArray) ++ restB s)).extract (nm.size + 1) (nm ++ ((⟨#[58]⟩ : ByteArray) ++ restB s)).size = restB s := by
    have e3 : nm ++ ((⟨#[58]⟩ : ByteArray) ++ restB s) = (nm ++ ⟨#[58]⟩) ++ restB s := bl_inj (by simp only [bl_app, List.append_assoc])
    have e4 : (nm ++ (⟨#[58]⟩ : ByteArray)).size = nm.size + 1 := by rw [app_size]; rfl
    rw [e3, ← e4]
    exact ext_right _ _
  unfold fieldS
  rw [hc, if_neg (by omega), e1, e2, trim_rest h]
  cases σ <;> rfl
theorem runS_ok9 {s : ByteArray} {r : List ByteArray} {i : Nat} {σ σ' : PS} (h : takeS s ((i : Int) + 1) σ = .ok σ') : runS (s :: r) i σ = runS r (i + 1) σ' := by
  rw [runS, h]
theorem run_further {nm : ByteArray} (rest : List ByteArray) (Lp : List St) (l0 : Int) (Fp : List Fd) : ∀ (r : List ByteArray) (k i : Nat) (ls : List ByteArray), 0 < k → mayAll r k = true →
    ∃ i', runS ((lns nm r k).map ofL ++ rest) i (.opn Lp l0 Fp nm ls) = runS rest i' (.opn Lp l0 Fp nm (ls ++ r))
  | [], k, i, ls, _, _ => ⟨i, by rw [List.append_nil]; rfl⟩
  | s :: r, k, i, ls, hk, h => by
    simp only [mayAll, Bool.and_eq_true] at h
    obtain ⟨i', e⟩ := run_further rest Lp l0 Fp r (k + 1) (i + 1) (ls ++ [s]) (by omega) h.2
    refine ⟨i', ?_⟩
    show runS (ofL (bl (lineB nm k s)) :: ((lns nm r (k + 1)).map ofL ++ rest)) i _ = _
    rw [ofL_bl, runS_ok9 (take_further hk h.1 _ _ _ _ _), e, List.append_assoc]
    rfl
/-- What is read: the stanzas ahead, and the fields of the one that is open. -/
def View (σ : PS) (Lp : List St) (F : List Fd) : Prop := (F = [] ∧ σ = .shut Lp) ∨ ∃ l0 Fp nm ls, F = Fp ++ [⟨nm, ls⟩] ∧ σ = .opn Lp l0 Fp nm ls
theorem mayF_is {f : Fd} {ahead : List Fd} (h : mayF f ahead = 0) : NmOk f.n ∧ (∃ s r, f.ls = s :: r) ∧ mayAll f.ls 0 = true ∧ hasN ahead f.n = false ∧ longAny f.n f.ls 0 = false := by
  unfold mayF at h
  split at h
  · cases h
  split at h
  · cases h
  split at h
  · cases h
  split at h
  · cases h
  rename_i h1 h2 h3 h4
  refine ⟨⟨?_, ?_⟩, ?_, by simpa using h2, by simpa using h3, by simpa using h4⟩
  · have := nameN_le f.n; omega
  · omega
  · match hl : f.ls with
    | [] => rw [hl] at h1; simp at h1
    | s :: r => exact ⟨s, r, rfl⟩
/-- A field is read as it was. -/
theorem run_field (rest : List ByteArray) (f : Fd) (Lp : List St) (F : List Fd) (σ : PS) (i : Nat) (hv : View σ Lp F) (hm : mayF f F = 0) (hF : F.length < 40) (hL : Lp.length < 200) :
    ∃ i' σ', runS ((linesF f).map ofL ++ rest) i σ = runS rest i' σ' ∧ View σ' Lp (F ++ [f]) := by
  obtain ⟨h1, ⟨s, r, hl⟩, h3, h4, _⟩ := mayF_is hm
  obtain ⟨nm, fls⟩ := f
  simp only at h1 hl h3 h4
  subst hl
  simp only [mayAll, Bool.and_eq_true] at h3
  have ht := (mayL_is h3.1).2.2.2 rfl
  have e0 : (linesF ⟨nm, s :: r⟩).map ofL ++ rest = lineB nm 0 s :: ((lns nm r 1).map ofL ++ rest) := by
    show ofL (bl (lineB nm 0 s)) :: ((lns nm r 1).map ofL ++ rest) = _
    rw [ofL_bl]
  rw [e0]
  rcases hv with ⟨rfl, rfl⟩ | ⟨l0, Fp, nm', ls', rfl, rfl⟩
  · have e1 := take_first h1 ht ((i : Int) + 1) (.shut Lp)
    simp only at e1
    rw [if_neg (by omega)] at e1
    obtain ⟨i', e2⟩ := run_further (nm := nm) rest Lp ((i : Int) + 1) [] r 1 (i + 1) [s] (by omega) h3.2
    exact ⟨i', _, by rw [runS_ok9 e1, e2], .inr ⟨_, [], nm, [s] ++ r, rfl, rfl⟩⟩
  · have e1 := take_first h1 ht ((i : Int) + 1) (.opn Lp l0 Fp nm' ls')
    simp only at e1
    rw [List.length_append] at hF
    simp only [List.length_cons, List.length_nil] at hF
    rw [if_neg (by omega), h4, if_neg (by simp)] at e1
    obtain ⟨i', e2⟩ := run_further (nm := nm) rest Lp l0 (Fp ++ [⟨nm', ls'⟩]) r 1 (i + 1) [s] (by omega) h3.2
    exact ⟨i', _, by rw [runS_ok9 e1, e2], .inr ⟨_, _, nm, [s] ++ r, rfl, rfl⟩⟩
theorem run_fields (rest : List ByteArray) (Lp : List St) (hL : Lp.length < 200) : ∀ (r F : List Fd) (σ : PS) (i : Nat), View σ Lp F → fieldsR F r = 0 → F.length + r.length ≤ 40 →
    ∃ i' σ', runS ((r.flatMap linesF).map ofL ++ rest) i σ = runS rest i' σ' ∧ View σ' Lp (F ++ r)
  | [], F, σ, i, hv, _, _ => ⟨i, σ, rfl, by rw [List.append_nil]; exact hv⟩
  | f :: r, F, σ, i, hv, hr, hl => by
    rw [List.length_cons] at hl
    have hm : mayF f F = 0 := by
      unfold fieldsR at hr
      by_cases e : mayF f F = 0
      · exact e
      · rw [if_pos e] at hr; exact hr
    have hr2 : fieldsR (F ++ [f]) r = 0 := by
      unfold fieldsR at hr
      rw [if_neg (by omega)] at hr
      exact hr
    obtain ⟨i1, σ1, e1, v1⟩ := run_field ((r.flatMap linesF).map ofL ++ rest) f Lp F σ i hv hm (by omega) hL
    obtain ⟨i2, σ2, e2, v2⟩ := run_fields rest Lp hL r (F ++ [f]) σ1 i1 v1 hr2 (by rw [List.length_append]; simp; omega)
    refine ⟨i2, σ2, ?_, by rw [List.append_assoc] at v2; exact v2⟩
    rw [List.flatMap_cons, List.map_append, List.append_assoc, e1, e2]
def fsOf (L : List St) : List (List Fd) := L.map St.fs
theorem stsR_is {s : St} {r : List St} (h : stsR (s :: r) = 0) : 0 < s.fs.length ∧ s.fs.length ≤ 40 ∧ fieldsR [] s.fs = 0 ∧ stsR r = 0 := by
  unfold stsR at h
  split at h
  · cases h
  split at h
  · omega
  · exact ⟨by omega, by omega, by omega, h⟩
theorem View.all {σ : PS} {Lp : List St} {F : List Fd} (h : View σ Lp F) (h0 : 0 < F.length) : ∃ l0, σ.all = Lp ++ [⟨l0, F⟩] := by
  rcases h with ⟨rfl, _⟩ | ⟨l0, Fp, nm, ls, rfl, rfl⟩
  · cases h0
  · exact ⟨l0, rfl⟩
/-- Stanzas are read as they were, but for their lines' numbers. -/
theorem run_more (rest : List ByteArray) : ∀ (L : List St) (σ : PS) (i : Nat), stsR L = 0 → σ.all.length + L.length ≤ 200 →
    ∃ i' σ', runS ((moreS L).map ofL ++ rest) i σ = runS rest i' σ' ∧ fsOf σ'.all = fsOf σ.all ++ fsOf L
  | [], σ, i, _, _ => ⟨i, σ, rfl, by show _ = _ ++ []; rw [List.append_nil]⟩
  | s :: r, σ, i, h, hl => by
    obtain ⟨h1, h2, h3, h4⟩ := stsR_is h
    rw [List.length_cons] at hl
    have eb : takeS ⟨#[]⟩ ((i : Int) + 1) σ = .ok (.shut σ.all) := takeS_blank (by decide +kernel) (by decide +kernel)
    obtain ⟨i1, σ1, e1, v1⟩ := run_fields ((moreS r).map ofL ++ rest) σ.all (by omega) s.fs [] (.shut σ.all) (i + 1) (.inl ⟨rfl, rfl⟩) h3 (by simpa using h2)
    rw [List.nil_append] at v1
    obtain ⟨l0, ha⟩ := v1.all h1
    obtain ⟨i2, σ2, e2, v2⟩ := run_more rest r σ1 i1 h4 (by rw [ha, List.length_append]; simp; omega)
    refine ⟨i2, σ2, ?_, ?_⟩
    · have e0 : (moreS (s :: r)).map ofL ++ rest = ⟨#[]⟩ :: ((s.fs.flatMap linesF).map ofL ++ ((moreS r).map ofL ++ rest)) := by
        unfold moreS
        rw [List.flatMap_cons, List.map_append, List.append_assoc]
        rfl
      rw [e0, runS_ok9 eb, e1, e2]
    · rw [v2, ha]
      unfold fsOf
      rw [List.map_append, List.append_assoc]
      rfl
theorem run_print (rest : List ByteArray) (L Lp : List St) (i : Nat) (h : stsR L = 0) (hl : Lp.length + L.length ≤ 200) :
    ∃ i' σ', runS ((linesP L).map ofL ++ rest) i (.shut Lp) = runS rest i' σ' ∧ fsOf σ'.all = fsOf Lp ++ fsOf L := by
  cases L with
  | nil => exact ⟨i, .shut Lp, rfl, by show _ = _ ++ []; rw [List.append_nil]; rfl⟩
  | cons s r =>
    obtain ⟨h1, h2, h3, h4⟩ := stsR_is h
    rw [List.length_cons] at hl
    obtain ⟨i1, σ1, e1, v1⟩ := run_fields ((moreS r).map ofL ++ rest) Lp (by omega) s.fs [] (.shut Lp) i (.inl ⟨rfl, rfl⟩) h3 (by simpa using h2)
    rw [List.nil_append] at v1
    obtain ⟨l0, ha⟩ := v1.all h1
    obtain ⟨i2, σ2, e2, v2⟩ := run_more rest r σ1 i1 h4 (by rw [ha, List.length_append]; simp; omega)
    refine ⟨i2, σ2, ?_, ?_⟩
    · have e0 : (linesP (s :: r)).map ofL ++ rest = (s.fs.flatMap linesF).map ofL ++ ((moreS r).map ofL ++ rest) := by
        show (linesS s ++ moreS r).map ofL ++ rest = _
        rw [List.map_append, List.append_assoc]
        rfl
      rw [e0, e1, e2]
    · rw [v2, ha]
      unfold fsOf
      rw [List.map_append, List.append_assoc]
      rfl
/-- Lines that may be: short and good. -/
def Fine (M : List (List UInt8)) : Prop := ∀ x ∈ M, x.length ≤ 1000 ∧ goodZ (ofL x) < 0
theorem lns_fine {nm : ByteArray} (hn : NmOk nm) : ∀ (r : List ByteArray) (k : Nat), mayAll r k = true → longAny nm r k = false → Fine (lns nm r k)
  | [], k, _, _ => fun x hx => by cases hx
  | s :: r, k, h, hl => by
    simp only [mayAll, Bool.and_eq_true] at h
    simp only [longAny, Bool.or_eq_false_iff, decide_eq_false_iff_not] at hl
    have ih := lns_fine hn r (k + 1) h.2 hl.2
    intro x hx
    rcases List.mem_cons.1 hx with rfl | hx
    · refine ⟨by have := hl.1; rw [bl_len]; omega, ?_⟩
      rw [ofL_bl, lineB_good hn (mayL_is h.1).1]
      omega
    · exact ih x hx
theorem fields_fine : ∀ (r F : List Fd), fieldsR F r = 0 → Fine (r.flatMap linesF)
  | [], F, _ => fun x hx => by cases hx
  | f :: r, F, hr => by
    have hm : mayF f F = 0 := by
      unfold fieldsR at hr
      by_cases e : mayF f F = 0
      · exact e
      · rw [if_pos e] at hr; exact hr
    have hr2 : fieldsR (F ++ [f]) r = 0 := by
      unfold fieldsR at hr
      rw [if_neg (by omega)] at hr
      exact hr
    obtain ⟨h1, _, h3, _, h5⟩ := mayF_is hm
    intro x hx
    rw [List.flatMap_cons] at hx
    rcases List.mem_append.1 hx with hx | hx
    · exact lns_fine h1 f.ls 0 h3 h5 x hx
    · exact fields_fine r _ hr2 x hx
theorem fine_nil : ([] : List UInt8).length ≤ 1000 ∧ goodZ (ofL []) < 0 := ⟨by simp, by decide +kernel⟩
theorem more_fine : ∀ (L : List St), stsR L = 0 → Fine (moreS L)
  | [], _ => fun x hx => by cases hx
  | s :: r, h => by
    obtain ⟨_, _, h3, h4⟩ := stsR_is h
    intro x hx
    unfold moreS at hx
    rw [List.flatMap_cons] at hx
    rcases List.mem_append.1 hx with hx | hx
    · rcases List.mem_cons.1 hx with rfl | hx
      · exact fine_nil
      · exact fields_fine s.fs [] h3 x hx
    · exact more_fine r h4 x hx
theorem print_fine {L : List St} (h : stsR L = 0) : Fine (linesP L) := by
  cases L with
  | nil => exact fun x hx => by cases hx
  | cons s r =>
    obtain ⟨_, _, h3, h4⟩ := stsR_is h
    intro x hx
    rcases List.mem_append.1 hx with hx | hx
    · exact fields_fine s.fs [] h3 x hx
    · exact more_fine r h4 x hx
/-- The lines of lines put together. -/
theorem lines_jn {M : List (List UInt8)} (h : Fine M) (hz : (jn M).length ≤ 65536) : linesErr (ofL (jn M)) = (0, 0) ∧ linesGot (ofL (jn M)) = M.map ofL := by
  have e1 : linesOf (ofL (jn M)) = M.map ofL := by
    unfold linesOf
    rw [bl_ofL, rl_jn M (fun x hx c hc => good_feed (h x hx).2 c hc)]
  have e2 : linesErr (ofL (jn M)) = (0, 0) := by
    unfold linesErr
    have : (ofL (jn M)).size = (jn M).length := rfl
    rw [if_neg (by omega), e1]
    exact chk_ok _ (fun x hx => by
      obtain ⟨y, hy, rfl⟩ := List.mem_map.1 hx
      exact h y hy) 0
  refine ⟨e2, ?_⟩
  unfold linesGot
  rw [e2, if_pos rfl, e1]
theorem printE_is {L : List St} (h : printE L = 0) : L.length ≤ 200 ∧ stsR L = 0 ∧ (jn (linesP L)).length ≤ 65536 := by
  unfold printE at h
  split at h
  · cases h
  split at h
  · omega
  split at h
  · cases h
  exact ⟨by omega, by omega, by omega⟩
/-- Two texts printed, an empty line between, are the stanzas of both. -/
theorem joins_back {a b : List St} (ha : printE a = 0) (hb : printE b = 0) (hl : a.length + b.length ≤ 200) (hz : (printT a).size + (printT b).size < 65536) :
    ∃ σ, parseS (printT a ++ (⟨#[10]⟩ ++ printT b)) = .ok σ ∧ fsOf σ.all = fsOf a ++ fsOf b := by
  obtain ⟨a1, a2, a3⟩ := printE_is ha
  obtain ⟨b1, b2, b3⟩ := printE_is hb
  have e : printT a ++ (⟨#[10]⟩ ++ printT b) = ofL (jn (linesP a ++ [] :: linesP b)) := by
    unfold printT
    rw [if_pos ha, if_pos hb, jn_app]
    refine bl_inj ?_
    rw [bl_app, bl_app]
    rfl
  have hz2 : (jn (linesP a ++ [] :: linesP b)).length ≤ 65536 := by
    have := congrArg ByteArray.size e
    rw [app_size, app_size] at this
    have e9 : (ofL (jn (linesP a ++ [] :: linesP b))).size = (jn (linesP a ++ [] :: linesP b)).length := rfl
    have e8 : (⟨#[10]⟩ : ByteArray).size = 1 := rfl
    omega
  have hf : Fine (linesP a ++ [] :: linesP b) := fun x hx => by
    rcases List.mem_append.1 hx with hx | hx
    · exact print_fine a2 x hx
    · rcases List.mem_cons.1 hx with rfl | hx
      · exact fine_nil
      · exact print_fine b2 x hx
  obtain ⟨l1, l2⟩ := lines_jn hf hz2
  rw [e]
  unfold parseS
  rw [l1, l2, if_pos rfl, List.map_append, List.map_cons]
  obtain ⟨i1, σ1, e1, v1⟩ := run_print (ofL [] :: (linesP b).map ofL) a [] 0 a2 (by simpa using a1)
  rw [e1]
  have hl1 : σ1.all.length = a.length := by
    have := congrArg List.length v1
    unfold fsOf at this
    simpa using this
  have eb : takeS (ofL []) ((i1 : Int) + 1) σ1 = .ok (.shut σ1.all) := takeS_blank (by decide +kernel) (by decide +kernel)
  rw [runS_ok9 eb]
  obtain ⟨i2, σ2, e2, v2⟩ := run_print [] b σ1.all (i1 + 1) b2 (by omega)
  rw [List.append_nil] at e2
  rw [e2]
  refine ⟨σ2, rfl, ?_⟩
  rw [v2, v1]
  rfl
/-- What is printed is read as it was. -/
theorem print_back {a : List St} (ha : printE a = 0) : ∃ σ, parseS (printT a) = .ok σ ∧ fsOf σ.all = fsOf a := by
  obtain ⟨a1, a2, a3⟩ := printE_is ha
  obtain ⟨l1, l2⟩ := lines_jn (print_fine a2) a3
  unfold printT
  rw [if_pos ha]
  unfold parseS
  rw [l1, l2, if_pos rfl]
  obtain ⟨i1, σ1, e1, v1⟩ := run_print [] a [] 0 a2 (by simpa using a1)
  rw [List.append_nil] at e1
  rw [e1]
  exact ⟨σ1, rfl, v1⟩
theorem fieldsR_same : ∀ (L L' : List St), fsOf L = fsOf L' → stsR L = stsR L' ∧ linesP L = linesP L' ∧ moreS L = moreS L' ∧ L.length = L'.length
  | [], [], _ => ⟨rfl, rfl, rfl, rfl⟩
  | [], s :: r, h => by cases h
  | s :: r, [], h => by cases h
  | s :: r, s' :: r', h => by
    unfold fsOf at h
    rw [List.map_cons, List.map_cons] at h
    injection h with h1 h2
    obtain ⟨i1, i2, i3, i4⟩ := fieldsR_same r r' h2
    have e1 : linesS s = linesS s' := by unfold linesS; rw [h1]
    refine ⟨?_, ?_, ?_, by rw [List.length_cons, List.length_cons, i4]⟩
    · unfold stsR
      rw [h1, i1]
    · show linesS s ++ moreS r = linesS s' ++ moreS r'
      rw [e1, i3]
    · unfold moreS at i3 ⊢
      rw [List.flatMap_cons, List.flatMap_cons, e1, i3]
theorem print_same {L L' : List St} (h : fsOf L = fsOf L') : printE L = printE L' ∧ printT L = printT L' := by
  obtain ⟨h1, h2, _, h4⟩ := fieldsR_same L L' h
  have e : printE L = printE L' := by unfold printE; rw [h1, h2, h4]
  refine ⟨e, ?_⟩
  unfold printT
  rw [e, h2]
end Go.Proofs.YtjkaigfpjebfbaaDoor
/- stanza.mayLine, stanza.printed. -/
namespace Go.Proofs.YtjkaigfpjebfbaaDoor
open Go.RowKit
set_option linter.unusedVariables false

theorem mayL_bad {k : Nat} {s : ByteArray} (h : 0 ≤ goodZ s) : mayL k s = false := by
  unfold mayL
  rw [decide_eq_false (by omega)]
  rfl
theorem mayL_end {k : Nat} {s : ByteArray} (h : trimR s ≠ s) : mayL k s = false := by
  unfold mayL
  rw [decide_eq_false h]
  simp
theorem mayL_dot {k : Nat} {s : ByteArray} (hk : 0 < k) (h : s = dotB) : mayL k s = false := by
  unfold mayL
  rw [decide_eq_true hk, decide_eq_true h]
  simp
theorem mayL_on {k : Nat} {s : ByteArray} (h1 : goodZ s < 0) (h2 : trimR s = s) (hk : 0 < k) (h : s ≠ dotB) : mayL k s = true := by
  unfold mayL
  rw [decide_eq_true hk, decide_eq_false h, decide_eq_true h1, decide_eq_true h2]
  rfl
theorem mayL_first {k : Nat} {s : ByteArray} (h1 : goodZ s < 0) (h2 : trimR s = s) (hk : ¬ 0 < k) : mayL k s = decide (trimB s = s) := by
  unfold mayL
  rw [decide_eq_false hk, decide_eq_true h1, decide_eq_true h2]
  simp
set_option maxRecDepth 100000 in
set_option maxHeartbeats 4000000 in
theorem mayLine_any (k : Nat) (s : ByteArray) (w : World) (hk : k ≤ 1073741824) (hs : s.size ≤ 1073741824) (hT : Lib.Utf8Tabs 0 1 w) :
    Calls Tryd.prog 50 #[.int .i64 (k : Int), .string s] w fun e w' => e = .returned (.bool (mayL k s)) ∧ Below w.heap.size w w' := by
  have HG := Lib.hid (Good_any s w hT (by omega))
  have HE := Lib.hid (fun W => trimEnd_any s W (by omega))
  have HR := Lib.hid (fun W (hb : Below w.heap.size w W) => Trim_any s W (by omega) (tabs_later hT hb))
  obtain ⟨x, hx⟩ : ∃ x, x = trimR s := ⟨_, rfl⟩
  obtain ⟨y, hy⟩ : ∃ y, y = trimB s := ⟨_, rfl⟩
  obtain ⟨g, hg⟩ : ∃ g, g = goodZ s := ⟨_, rfl⟩
  rw [← hx] at HE
  rw [← hy] at HR
  rw [← hg] at HG
  obtain ⟨r, hr⟩ : ∃ r, r = mayL k s := ⟨_, rfl⟩
  rw [← hr]
  clear hT
  by_cases c1 : 0 ≤ g
  · have e : Hid (r = false) := Lib.hid (by rw [hr]; exact mayL_bad (by rw [← hg]; exact c1))
    have c1' : decide ((0 : Int) ≤ g) = true := decide_eq_true c1
    clear hx hy hg hr
    go_enter Tryd.func50, Tryd.ntmps50
    go_wp2_with (go_at_call 38; refine (HG.out).mono ?_; rintro e w1 ⟨rfl, hb1⟩)
    go_ret
    exact ⟨by rw [e.out]; rfl, hb1⟩
  have c1' : decide ((0 : Int) ≤ g) = false := decide_eq_false c1
  by_cases c2 : x = s
  · have c2' : (x.toList == s.toList) = true := by rw [str_eq, decide_eq_true_eq]; exact c2
    by_cases c3 : 0 < k
    · have c3' : (0 : Int) < (k : Int) := by omega
      by_cases c4 : s = dotB
      · have c4' : (s.toList == [46]) = true := by rw [← dot_list, str_eq, decide_eq_true_eq]; exact c4
        have e : Hid (r = false) := Lib.hid (by rw [hr]; exact mayL_dot c3 c4)
        clear hx hy hg hr c1 c2 c3 c4
        go_enter Tryd.func50, Tryd.ntmps50
        go_wp2_with (first | (go_at_call 38; refine (HG.out).mono ?_; rintro e w1 ⟨rfl, hb1⟩; have HB1 := Lib.hid hb1; clear hb1) | (go_at_call 55; refine (HE.out _).mono ?_; rintro e w2 ⟨rfl, hb2⟩; have HB2 := Lib.hid hb2; clear hb2))
        go_ret
        exact ⟨by rw [e.out]; rfl, HB1.out.trans (HB2.out.mono HB1.out.size)⟩
      · have c4' : (s.toList == [46]) = false := by rw [← dot_list, str_eq, decide_eq_false_iff_not]; exact c4
        have e : Hid (r = true) := Lib.hid (by rw [hr]; exact mayL_on (by rw [← hg]; omega) (by rw [← hx]; exact c2) c3 c4)
        clear hx hy hg hr c1 c2 c3 c4
        go_enter Tryd.func50, Tryd.ntmps50
        go_wp2_with (first | (go_at_call 38; refine (HG.out).mono ?_; rintro e w1 ⟨rfl, hb1⟩; have HB1 := Lib.hid hb1; clear hb1) | (go_at_call 55; refine (HE.out _).mono ?_; rintro e w2 ⟨rfl, hb2⟩; have HB2 := Lib.hid hb2; clear hb2))
        go_ret
        exact ⟨by rw [e.out]; rfl, HB1.out.trans (HB2.out.mono HB1.out.size)⟩
    · have c3' : ¬ (0 : Int) < (k : Int) := by omega
      have c5 : (y.toList == s.toList) = r := by rw [str_eq, hr, mayL_first (by rw [← hg]; omega) (by rw [← hx]; exact c2) c3, hy]
      clear hx hy hg hr c1 c2 c3
      go_enter Tryd.func50, Tryd.ntmps50
      go_wp2_with (first | (go_at_call 38; refine (HG.out).mono ?_; rintro e w1 ⟨rfl, hb1⟩; have HB1 := Lib.hid hb1; clear hb1) | (go_at_call 55; refine (HE.out _).mono ?_; rintro e w2 ⟨rfl, hb2⟩; have HB2 := Lib.hid (HB1.out.trans (hb2.mono HB1.out.size)); clear hb2) | (go_at_call 31; refine (HR.out _ HB2.out).mono ?_; rintro e w3 ⟨rfl, hb3⟩; have HB3 := Lib.hid (HB2.out.trans (hb3.mono HB2.out.size)); clear hb3))
      go_ret
      exact ⟨rfl, HB3.out⟩
  · have c2' : (x.toList == s.toList) = false := by rw [str_eq, decide_eq_false_iff_not]; exact c2
    have e : Hid (r = false) := Lib.hid (by rw [hr]; exact mayL_end (by rw [← hx]; exact c2))
    clear hx hy hg hr c1 c2
    go_enter Tryd.func50, Tryd.ntmps50
    go_wp2_with (first | (go_at_call 38; refine (HG.out).mono ?_; rintro e w1 ⟨rfl, hb1⟩; have HB1 := Lib.hid hb1; clear hb1) | (go_at_call 55; refine (HE.out _).mono ?_; rintro e w2 ⟨rfl, hb2⟩; have HB2 := Lib.hid hb2; clear hb2))
    go_ret
    exact ⟨by rw [e.out]; rfl, HB1.out.trans (HB2.out.mono HB1.out.size)⟩
set_option maxRecDepth 100000 in
set_option maxHeartbeats 4000000 in
theorem printed_any (nm : ByteArray) (lv : Value) (k : Nat) (s : ByteArray) (w : World) (hk : k ≤ 1073741824) (hs : s.size ≤ 1073741824) (hn : nm.size ≤ 1073741824) :
    Calls Tryd.prog 35 #[.agg #[.string nm, lv], .int .i64 (k : Int), .string s] w fun e w' => e = .returned (.string (lineB nm k s)) ∧ Below w.heap.size w w' := by
  obtain ⟨r, hr⟩ : ∃ r, r = lineB nm k s := ⟨_, rfl⟩
  rw [← hr]
  have hbe := blank_eq s
  unfold lineB at hr
  have hb := (Below.refl w.heap.size w).alloc (Nat.le_refl _) (Obj.cells #[.string nm, lv] 40 (0, 0))
  have HB := Lib.hid hb
  clear hb
  by_cases c1 : 0 < k
  · have c1' : (0 : Int) < (k : Int) := by omega
    rw [if_pos c1] at hr
    by_cases c2 : s.size = 0
    · rw [if_pos c2] at hr
      rw [decide_eq_true c2] at hbe
      have HR := Lib.hid hr
      clear c1 c2 hr
      go_enter Tryd.func35, Tryd.ntmps35
      go_wp2_with fail
      go_ret
      exact ⟨by rw [HR.out]; rfl, HB.out⟩
    · rw [if_neg c2] at hr
      rw [decide_eq_false c2] at hbe
      have HR := Lib.hid hr
      clear c1 c2 hr
      go_enter Tryd.func35, Tryd.ntmps35
      go_wp2_with fail
      go_ret
      exact ⟨by rw [HR.out]; rfl, HB.out⟩
  · have c1' : ¬ (0 : Int) < (k : Int) := by omega
    rw [if_neg c1] at hr
    by_cases c2 : s.size = 0
    · rw [if_pos c2] at hr
      rw [decide_eq_true c2] at hbe
      have HR := Lib.hid hr
      clear c1 c2 hr
      go_enter Tryd.func35, Tryd.ntmps35
      go_wp2_with fail
      go_ret
      exact ⟨by rw [HR.out]; rfl, HB.out⟩
    · rw [if_neg c2] at hr
      rw [decide_eq_false c2] at hbe
      have HR := Lib.hid hr
      clear c1 c2 hr
      go_enter Tryd.func35, Tryd.ntmps35
      go_wp2_with fail
      go_ret
      exact ⟨by rw [HR.out]; rfl, HB.out⟩
end Go.Proofs.YtjkaigfpjebfbaaDoor
/- stanza.mayField. -/
namespace Go.Proofs.YtjkaigfpjebfbaaDoor
open Go.RowKit
set_option linter.unusedVariables false

theorem mayAll_step {ls : List ByteArray} {i : Nat} (h : i < ls.length) : mayAll (ls.drop i) i = (mayL i ls[i] && mayAll (ls.drop (i + 1)) (i + 1)) := by
  rw [List.drop_eq_getElem_cons h, mayAll]
theorem longAny_step {nm : ByteArray} {ls : List ByteArray} {i : Nat} (h : i < ls.length) : longAny nm (ls.drop i) i = (decide (1000 < (lineB nm i ls[i]).size) || longAny nm (ls.drop (i + 1)) (i + 1)) := by
  rw [List.drop_eq_getElem_cons h, longAny]
theorem mayAll_end {ls : List ByteArray} {i : Nat} (h : ls.length ≤ i) : mayAll (ls.drop i) i = true := by
  rw [List.drop_of_length_le h]; rfl
theorem longAny_end {nm : ByteArray} {ls : List ByteArray} {i : Nat} (h : ls.length ≤ i) : longAny nm (ls.drop i) i = false := by
  rw [List.drop_of_length_le h]; rfl
theorem lineB_size (nm : ByteArray) (k : Nat) (s : ByteArray) : (lineB nm k s).size ≤ nm.size + s.size + 2 := by
  unfold lineB
  split
  · split
    · show 2 ≤ _; omega
    · rw [app_size]
      have : (⟨#[32]⟩ : ByteArray).size = 1 := rfl
      omega
  · split
    · rw [app_size]
      have : (⟨#[58]⟩ : ByteArray).size = 1 := rfl
      omega
    · rw [app_size, app_size]
      have : (⟨#[58, 32]⟩ : ByteArray).size = 2 := rfl
      omega
/-- What mayField answers, case by case. -/
structure FldR (R : Nat) (nm : ByteArray) (ls : List ByteArray) (l : List Fd) : Prop where
  nm0 : nameN nm = 0 → R = 3
  nm1 : nameN nm ≠ nm.size → R = 3
  non : ls.length = 0 → R = 3
  bad : mayAll ls 0 = false → R = 3
  two : ¬ (nameN nm = 0 ∨ nameN nm ≠ nm.size ∨ ls.length = 0) → mayAll ls 0 = true → hasN l nm = true → R = 4
  long : ¬ (nameN nm = 0 ∨ nameN nm ≠ nm.size ∨ ls.length = 0) → mayAll ls 0 = true → hasN l nm = false → longAny nm ls 0 = true → R = 2
  ok : ¬ (nameN nm = 0 ∨ nameN nm ≠ nm.size ∨ ls.length = 0) → mayAll ls 0 = true → hasN l nm = false → longAny nm ls 0 = false → R = 0
theorem FldR.of (nm : ByteArray) (ls : List ByteArray) (l : List Fd) : FldR (mayF ⟨nm, ls⟩ l) nm ls l where
  nm0 h := by unfold mayF; rw [if_pos (.inl h)]
  nm1 h := by unfold mayF; rw [if_pos (.inr (.inl h))]
  non h := by unfold mayF; rw [if_pos (.inr (.inr h))]
  bad h := by
    unfold mayF
    split
    · rfl
    · rfl
  two h1 h2 h3 := by unfold mayF; rw [if_neg h1, if_neg (by simp [h2]), if_pos h3]
  long h1 h2 h3 h4 := by unfold mayF; rw [if_neg h1, if_neg (by simp [h2]), if_neg (by simp [h3]), if_pos h4]
  ok h1 h2 h3 h4 := by unfold mayF; rw [if_neg h1, if_neg (by simp [h2]), if_neg (by simp [h3]), if_neg (by simp [h4])]
set_option maxRecDepth 100000 in
set_option maxHeartbeats 4000000 in
theorem mayField_any (G G' : Nat → Prop) (nm : ByteArray) (ls : List ByteArray) (lv : Value) (A : Option Addr) (n c : Nat) (fx : List Value) (l : List Fd) (w : World) (hlv : LV w G lv ls) (hr : RowG w G' 2 A n fx) (hf : FV w G' fx l) (hn : n = l.length) (hN : n ≤ 1048576) (hs : ∀ f ∈ l, f.n.size ≤ 1048576) (hm : nm.size ≤ 1048576) (hls : lsum ls ≤ 4194304)
    (hT : Lib.Utf8Tabs 0 1 w) :
    Calls Tryd.prog 34 #[.agg #[.string nm, lv], .slice A n c] w fun e w' => e = .returned (.int .i64 ((mayF ⟨nm, ls⟩ l : Nat) : Int)) ∧ Below w.heap.size w w' := by
  obtain ⟨R, hR⟩ : ∃ R, R = mayF ⟨nm, ls⟩ l := ⟨_, rfl⟩
  have HC : Hid (FldR R nm ls l) := Lib.hid (by rw [hR]; exact FldR.of nm ls l)
  rw [← hR]
  have HNM := Lib.hid (fun W => name_any nm W (by omega))
  have HAS : Hid (∀ W, Below w.heap.size w W → Calls Tryd.prog 51 #[.slice A n c, .string nm] W fun e w' => e = .returned (.bool (hasN l nm)) ∧ Below W.heap.size W w') := Lib.hid (fun W hb => has_any G' A n c fx l nm W (hr.upd (Upd.of_below hb (T := fun _ => False) (fun k h1 h2 => by omega)) (fun _ _ h => h)) (hf.upd (Upd.of_below hb (T := fun _ => False) (fun k h1 h2 => by omega)) (fun _ _ h => h)) hn hN hs hm)
  obtain ⟨z, hz⟩ : ∃ z, z = nameN nm := ⟨_, rfl⟩
  rw [← hz] at HNM
  obtain ⟨hb, hhb⟩ : ∃ hb, hb = hasN l nm := ⟨_, rfl⟩
  rw [← hhb] at HAS
  obtain ⟨LA, lc, rfl, hlc, hlr⟩ := hlv
  obtain ⟨m, hm2⟩ : ∃ m, m = ls.length := ⟨_, rfl⟩
  rw [← hm2] at hlc hlr ⊢
  have hll := lsum_len ls
  have HLR := Lib.hid hlr
  have HML := Lib.hid hm2
  have HT := Lib.hid hT
  have HZ := Lib.hid hz
  have HH := Lib.hid hhb
  have HLS := Lib.hid hls
  have hmb : m ≤ 4194304 := by omega
  obtain ⟨w0, hw0⟩ : ∃ w0, w0 = w.alloc (.cells #[.string nm, .slice LA m lc] 40) := ⟨_, rfl⟩
  have HK0 : Hid (Blk w0 w.heap.size 40 #[.string nm, .slice LA m lc]) := Lib.hid (by rw [hw0]; exact Blk.new w _ _)
  have HB0 : Hid (Below w.heap.size w w0) := Lib.hid (by rw [hw0]; exact (Below.refl _ _).alloc (Nat.le_refl _) _)
  have c0 : w0.cell? ⟨w.heap.size, 0, none⟩ = some (.string nm) := HK0.out.cell 0
  clear hR hr hf hn hN hs hlr hm2 hT hz hhb hls hll
  go_enter Tryd.func34, Tryd.ntmps34
  go_upto_region 1 with fail
  rw [← hw0]
  clear hw0
  go_upto_region 2 with (go_at_call 49; refine (HNM.out _).mono ?_; rintro e w1 ⟨rfl, hb1⟩; have HB1 := Lib.hid (HB0.out.trans (hb1.mono HB0.out.size)); have HK1 : Hid (Blk w1 w.heap.size 40 #[.string nm, .slice LA m lc]) := Lib.hid (HK0.out.below hb1 HK0.out.lt); clear hb1)
  have c1 : w1.cell? ⟨w.heap.size, 0, none⟩ = some (.string nm) := HK1.out.cell 0
  have c2 : w1.cell? ⟨w.heap.size, 1, none⟩ = some (.slice LA m lc) := HK1.out.cell 1
  clear c0 HK0 HB0
  by_cases z0 : z = 0
  · have z0' : ((z : Int) == 0) = true := by rw [beq_iff_eq]; omega
    have HE : Hid (R = 3) := Lib.hid (HC.out.nm0 (by rw [← HZ.out]; exact z0))
    clear z0
    go_wp2_with fail
    go_ret
    exact ⟨by rw [HE.out]; rfl, HB1.out⟩
  have z0' : ((z : Int) == 0) = false := by rw [beq_eq_false_iff_ne]; omega
  by_cases z1 : z = nm.size
  case neg =>
    have z1' : ((z : Int) != (nm.size : Int)) = true := (beq_u8 _ _).2 z1
    have HE : Hid (R = 3) := Lib.hid (HC.out.nm1 (by rw [← HZ.out]; exact z1))
    clear z0 z1
    go_wp2_with fail
    go_ret
    exact ⟨by rw [HE.out]; rfl, HB1.out⟩
  have z1' : ((z : Int) != (nm.size : Int)) = false := by rw [z1]; simp
  by_cases m0 : m = 0
  · have m0' : ((m : Int) == 0) = true := by rw [beq_iff_eq]; omega
    have HE : Hid (R = 3) := Lib.hid (HC.out.non (by rw [← HML.out]; exact m0))
    clear z0 z1 m0
    go_wp2_with fail
    go_ret
    exact ⟨by rw [HE.out]; rfl, HB1.out⟩
  have m0' : ((m : Int) == 0) = false := by rw [beq_eq_false_iff_ne]; omega
  have HNO : Hid (¬ (nameN nm = 0 ∨ nameN nm ≠ nm.size ∨ ls.length = 0)) := Lib.hid (by
    rw [← HZ.out, ← HML.out]
    rintro (h | h | h)
    · exact z0 h
    · exact h z1
    · exact m0 h)
  clear z0 z1 m0
  go_wp2_with fail
  go_loopw [31] (fun t wr => ∃ i : Nat, t = .int .i64 (i : Int) ∧ i ≤ m ∧ Hid (mayAll ls 0 = mayAll (ls.drop i) i) ∧ Hid (Below w.heap.size w wr ∧ Blk wr w.heap.size 40 #[.string nm, .slice LA m lc])) (fun t _ => m - (match t with | .int _ x => x.toNat | _ => 0))
  case atStart => exact ⟨0, rfl, Nat.zero_le _, Lib.hid rfl, Lib.hid ⟨HB1.out, HK1.out⟩⟩
  case round =>
    obtain ⟨i, rfl, hi, HI, HW⟩ := hrel
    have c1 : wr.cell? ⟨w.heap.size, 0, none⟩ = some (.string nm) := HW.out.2.cell 0
    have c2 : wr.cell? ⟨w.heap.size, 1, none⟩ = some (.slice LA m lc) := HW.out.2.cell 1
    by_cases hlt : i < m
    · have hln : (i : Int) < (m : Int) := by omega
      have hil : i < ls.length := by have := HML.out; omega
      obtain ⟨g, o, rfl, hcg⟩ := HLR.out.cells (by omega)
      obtain ⟨s, hs⟩ : ∃ s, s = ls[i] := ⟨_, rfl⟩
      have hsx : (ls.map Value.string)[i]? = some (.string s) := by rw [List.getElem?_map, List.getElem?_eq_getElem hil, hs]; rfl
      have k1 : wr.cell? ⟨g, o + i, none⟩ = some (.string s) := hcg wr HW.out.1 _ _ hsx
      have hss : s.size ≤ 4194304 := by have := lsum_mem (ls := ls) (s := s) (by rw [hs]; exact List.getElem_mem hil); have := HLS.out; omega
      have hst := mayAll_step hil
      rw [← hs] at hst
      have HML2 : Hid (∀ W, Below w.heap.size w W → Calls Tryd.prog 50 #[.int .i64 (i : Int), .string s] W fun e w' => e = .returned (.bool (mayL i s)) ∧ Below W.heap.size W w') := Lib.hid (fun W hb => mayLine_any i s W (by omega) (by omega) (tabs_later HT.out hb))
      obtain ⟨b, hb⟩ : ∃ b, b = mayL i s := ⟨_, rfl⟩
      rw [← hb] at HML2 hst
      have HST := Lib.hid hst
      clear hcg hs hsx hst hb
      cases b with
      | true =>
        have HN2 : Hid (mayAll ls 0 = mayAll (ls.drop (i + 1)) (i + 1)) := Lib.hid (by rw [HI.out, HST.out, Bool.true_and])
        go_wp2_with (go_at_call 50; refine (HML2.out _ HW.out.1).mono ?_; rintro e w2 ⟨rfl, hb2⟩; have HW2 := Lib.hid (And.intro (HW.out.1.trans (hb2.mono HW.out.1.size)) (HW.out.2.below hb2 HW.out.2.lt)); clear hb2)
        refine ⟨⟨i + 1, by go_num, by omega, HN2, HW2⟩, ?_⟩
        show m - ((i : Int) + 1).toNat < m - (i : Int).toNat
        omega
      | false =>
        have HE : Hid (R = 3) := Lib.hid (HC.out.bad (by rw [HI.out, HST.out, Bool.false_and]))
        go_wp2_with (go_at_call 50; refine (HML2.out _ HW.out.1).mono ?_; rintro e w2 ⟨rfl, hb2⟩; have HW2 := Lib.hid (HW.out.1.trans (hb2.mono HW.out.1.size)); clear hb2)
        go_ret
        exact ⟨by rw [HE.out]; rfl, HW2.out⟩
    · have hln : ¬ (i : Int) < (m : Int) := by omega
      have HMA : Hid (mayAll ls 0 = true) := Lib.hid (by rw [HI.out]; exact mayAll_end (by have := HML.out; omega))
      clear c1 HI HB1 HK1
      cases hb with
      | true =>
        have HE : Hid (R = 4) := Lib.hid (HC.out.two HNO.out HMA.out HH.out.symm)
        have c1 : wr.cell? ⟨w.heap.size, 0, none⟩ = some (.string nm) := HW.out.2.cell 0
        go_wp2_with (go_at_call 51; refine (HAS.out _ HW.out.1).mono ?_; rintro e w2 ⟨rfl, hb2⟩; have HW2 := Lib.hid (HW.out.1.trans (hb2.mono HW.out.1.size)); clear hb2)
        go_ret
        exact ⟨by rw [HE.out]; rfl, HW2.out⟩
      | false =>
        have c1 : wr.cell? ⟨w.heap.size, 0, none⟩ = some (.string nm) := HW.out.2.cell 0
        go_upto_region 12 with (go_at_call 51; refine (HAS.out _ HW.out.1).mono ?_; rintro e w2 ⟨rfl, hb2⟩; have HW2 := Lib.hid (And.intro (HW.out.1.trans (hb2.mono HW.out.1.size)) (HW.out.2.below hb2 HW.out.2.lt)); clear hb2)
        clear c1 c2
        have c1 : w2.cell? ⟨w.heap.size, 0, none⟩ = some (.string nm) := HW2.out.2.cell 0
        have c2 : w2.cell? ⟨w.heap.size, 1, none⟩ = some (.slice LA m lc) := HW2.out.2.cell 1
        obtain ⟨wo, hwo⟩ : ∃ wo, wo = wr := ⟨_, rfl⟩
        clear HW hwo
        go_wp2_with fail
        go_loopw [48] (fun t wr => ∃ i : Nat, t = .int .i64 (i : Int) ∧ i ≤ m ∧ Hid (longAny nm ls 0 = longAny nm (ls.drop i) i) ∧ Hid (Below w.heap.size w wr ∧ Blk wr w.heap.size 40 #[.string nm, .slice LA m lc])) (fun t _ => m - (match t with | .int _ x => x.toNat | _ => 0))
        case atStart => exact ⟨0, rfl, Nat.zero_le _, Lib.hid rfl, HW2⟩
        case round =>
          obtain ⟨j, rfl, hj, HJ, HX⟩ := hrel
          by_cases hlt2 : j < m
          · have hln2 : (j : Int) < (m : Int) := by omega
            have hil : j < ls.length := by have := HML.out; omega
            obtain ⟨g, o, rfl, hcg⟩ := HLR.out.cells (by omega)
            obtain ⟨s, hs⟩ : ∃ s, s = ls[j] := ⟨_, rfl⟩
            have hsx : (ls.map Value.string)[j]? = some (.string s) := by rw [List.getElem?_map, List.getElem?_eq_getElem hil, hs]; rfl
            have k1 : wr.cell? ⟨g, o + j, none⟩ = some (.string s) := hcg wr HX.out.1 _ _ hsx
            have hss : s.size ≤ 4194304 := by have := lsum_mem (ls := ls) (s := s) (by rw [hs]; exact List.getElem_mem hil); have := HLS.out; omega
            have hst := longAny_step (nm := nm) hil
            rw [← hs] at hst
            have HPR : Hid (∀ W, Calls Tryd.prog 35 #[.agg #[.string nm, .slice (some ⟨g, o, none⟩) m lc], .int .i64 (j : Int), .string s] W fun e w' => e = .returned (.string (lineB nm j s)) ∧ Below W.heap.size W w') := Lib.hid (fun W => printed_any nm _ j s W (by omega) (by omega) (by omega))
            obtain ⟨x, hx⟩ : ∃ x, x = lineB nm j s := ⟨_, rfl⟩
            rw [← hx] at HPR hst
            have HST := Lib.hid hst
            have d1 : wr.cell? ⟨w.heap.size, 0, none⟩ = some (.string nm) := HX.out.2.cell 0
            have d2 : wr.cell? ⟨w.heap.size, 1, none⟩ = some (.slice (some ⟨g, o, none⟩) m lc) := HX.out.2.cell 1
            clear hcg hs hsx hst hx
            by_cases hlong : 1000 < x.size
            · have hlong' : (1000 : Int) < (x.size : Int) := by omega
              have HE : Hid (R = 2) := Lib.hid (HC.out.long HNO.out HMA.out HH.out.symm (by rw [HJ.out, HST.out, decide_eq_true hlong, Bool.true_or]))
              clear hlong
              go_wp2_with (go_at_call 35; refine (HPR.out _).mono ?_; rintro e w3 ⟨rfl, hb3⟩; have HW3 := Lib.hid (HX.out.1.trans (hb3.mono HX.out.1.size)); clear hb3)
              go_ret
              exact ⟨by rw [HE.out]; rfl, HW3.out⟩
            · have hlong' : ¬ (1000 : Int) < (x.size : Int) := by omega
              have HN2 : Hid (longAny nm ls 0 = longAny nm (ls.drop (j + 1)) (j + 1)) := Lib.hid (by rw [HJ.out, HST.out, decide_eq_false hlong, Bool.false_or])
              clear hlong
              go_wp2_with (go_at_call 35; refine (HPR.out _).mono ?_; rintro e w3 ⟨rfl, hb3⟩; have HW3 := Lib.hid (And.intro (HX.out.1.trans (hb3.mono HX.out.1.size)) (HX.out.2.below hb3 HX.out.2.lt)); clear hb3)
              refine ⟨⟨j + 1, by go_num, by omega, HN2, HW3⟩, ?_⟩
              show m - ((j : Int) + 1).toNat < m - (j : Int).toNat
              omega
          · have hln2 : ¬ (j : Int) < (m : Int) := by omega
            have HE : Hid (R = 0) := Lib.hid (HC.out.ok HNO.out HMA.out HH.out.symm (by rw [HJ.out]; exact longAny_end (by have := HML.out; omega)))
            go_wp2_with fail
            go_ret
            exact ⟨by rw [HE.out]; rfl, HX.out.1⟩
end Go.Proofs.YtjkaigfpjebfbaaDoor
/- The text under way: an owned row of bytes; the steps of Print. -/
namespace Go.Proofs.YtjkaigfpjebfbaaDoor
open Go.RowKit
set_option linter.unusedVariables false

theorem u8_row : (Tryd.prog.info? 5).map (fun i => (i.zero, i.size, i.bytes)) = some (some (.int .u8 0), 1, 1) := by kernel_rfl
def encU (l : List UInt8) : List Value := l.map fun b => Value.int .u8 b.toNat
theorem encU_app (a b : List UInt8) : encU (a ++ b) = encU a ++ encU b := List.map_append ..
theorem encU_len (a : List UInt8) : (encU a).length = a.length := List.length_map _
theorem encU_str (s : ByteArray) : Lib.strCells s = encU (bl s) := rfl
/-- The bytes so far lie in memory of the call's own. -/
def Out (w wr : World) (u : Value) (O : List UInt8) : Prop := wr.ownsRow w.heap.size 5 1 u O.length (encU O) ∧ Below w.heap.size w wr
theorem Out.start (w : World) : Out w w (.slice none 0 0) [] := ⟨World.ownsRow_nil _ _ _ _, Below.refl _ _⟩
theorem Out.later {w wr W : World} {u : Value} {O : List UInt8} (h : Out w wr u O) (hb : Below wr.heap.size wr W) : Out w W u O :=
  ⟨own_upd h.1 (Upd.of_below hb (T := fun _ => False) (fun k h1 h2 => by omega)) (fun _ _ h => h), h.2.trans (hb.mono h.2.size)⟩
theorem Out.add {w wr W : World} {u v : Value} {O x : List UInt8} {m : Nat} (h : Out w wr u O) (hm : x.length = m) (ho : W.ownsRow w.heap.size 5 1 v (O.length + m) (encU O ++ encU x)) (hg : wr.grownBy W u.ownBlock) : Out w W v (O ++ x) :=
  ⟨by rw [List.length_append, encU_app, hm]; exact ho, h.2.grown hg h.2.size (fun k hk => (own_is h.1 hk).1)⟩
theorem Out.shape {w wr : World} {u : Value} {O : List UInt8} (h : Out w wr u O) : ∃ A c, u = .slice A O.length c := own_shape h.1
/-- A text's bytes lie there. -/
def BytesAt (w : World) (v : Value) (T : ByteArray) : Prop := ∃ A c, v = .slice A T.size c ∧ T.size ≤ c ∧ Bytes w A T.size ((bl T).map UInt8.toNat)
theorem BytesAt.nil (w : World) : BytesAt w (.slice none 0 0) ⟨#[]⟩ := ⟨none, 0, rfl, Nat.le_refl _, rfl, fun x hx => (by cases hx), fun h => absurd h (by decide)⟩
theorem BytesAt.below {w w' : World} {v : Value} {T : ByteArray} (h : BytesAt w v T) (hb : Below w.heap.size w w') : BytesAt w' v T := by
  obtain ⟨A, c, e, hc, h⟩ := h
  exact ⟨A, c, e, hc, h.below hb⟩
theorem Out.bytes {w wr : World} {u : Value} {O : List UInt8} (h : Out w wr u O) : BytesAt wr u (ofL O) := by
  obtain ⟨A, c, rfl⟩ := h.shape
  refine ⟨A, c, rfl, own_cap h.1, ?_⟩
  refine ⟨List.length_map _, fun x hx => ?_, fun h0 => ?_⟩
  · obtain ⟨y, _, rfl⟩ := List.mem_map.1 hx
    exact y.toNat_lt
  · obtain ⟨g, cap, hv, _, hlt⟩ := h.1.form h0
    injection hv with hv _ _
    subst hv
    refine ⟨g, 0, rfl, hlt, fun k hk => ?_⟩
    have hk : k < O.length := hk
    rw [Nat.zero_add, h.1.cellAt k (by omega)]
    unfold encU
    rw [List.getElem?_map, List.getD_eq_getElem?_getD, List.getElem?_map, bl_ofL, List.getElem?_eq_getElem hk]
    rfl
theorem toS_bl (T : ByteArray) : toS ((bl T).map UInt8.toNat) = T := by
  refine bl_inj ?_
  unfold toS
  show ((bl T).map UInt8.toNat).map UInt8.ofNat = _
  rw [List.map_map]
  have e : (UInt8.ofNat ∘ UInt8.toNat) = id := funext fun x => UInt8.ofNat_toNat
  rw [e, List.map_id]
theorem stsR_step {L : List St} {i : Nat} (h : i < L.length) : stsR (L.drop i) = if L[i].fs.length = 0 ∨ 40 < L[i].fs.length then 12 else if fieldsR [] L[i].fs ≠ 0 then fieldsR [] L[i].fs else stsR (L.drop (i + 1)) := by
  rw [List.drop_eq_getElem_cons h, stsR]
theorem stsR_end {L : List St} {i : Nat} (h : L.length ≤ i) : stsR (L.drop i) = 0 := by
  rw [List.drop_of_length_le h]; rfl
theorem fieldsR_step {F : List Fd} {k : Nat} (h : k < F.length) : fieldsR (F.take k) (F.drop k) = if mayF F[k] (F.take k) ≠ 0 then mayF F[k] (F.take k) else fieldsR (F.take (k + 1)) (F.drop (k + 1)) := by
  rw [List.drop_eq_getElem_cons h, fieldsR, List.take_succ_eq_append_getElem h]
theorem fieldsR_end {F : List Fd} {k : Nat} (h : F.length ≤ k) : fieldsR (F.take k) (F.drop k) = 0 := by
  rw [List.drop_of_length_le h]; rfl
theorem linesP_step {L : List St} {i : Nat} (h : i < L.length) : linesP (L.take (i + 1)) = linesP (L.take i) ++ ((if 0 < i then [[]] else []) ++ linesS L[i]) := by
  rw [List.take_succ_eq_append_getElem h]
  cases i with
  | zero =>
    rw [List.take_zero]
    show linesS L[0] ++ moreS [] = _
    simp [moreS, linesP]
  | succ i =>
    have h0 : 0 < L.length := by omega
    match L, h with
    | s :: r, h =>
      rw [List.take_succ_cons, List.cons_append]
      show linesS s ++ moreS (r.take i ++ [_]) = (linesS s ++ moreS (r.take i)) ++ _
      unfold moreS
      rw [List.flatMap_append, if_pos (by omega), List.append_assoc]
      simp
theorem linesF_step {F : List Fd} {k : Nat} (h : k < F.length) : (F.take (k + 1)).flatMap linesF = (F.take k).flatMap linesF ++ linesF F[k] := by
  rw [List.take_succ_eq_append_getElem h, List.flatMap_append]
  simp
theorem lns_len (nm : ByteArray) : ∀ (r : List ByteArray) (k : Nat), (lns nm r k).length = r.length
  | [], _ => rfl
  | s :: r, k => by
    show (lns nm r (k + 1)).length + 1 = _
    rw [lns_len nm r, List.length_cons]
theorem lns_get (nm : ByteArray) : ∀ (r : List ByteArray) (k j : Nat) (h : j < r.length), (lns nm r k)[j]? = some (bl (lineB nm (k + j) r[j]))
  | s :: r, k, 0, _ => rfl
  | s :: r, k, j + 1, h => by
    show (lns nm r (k + 1))[j]? = _
    rw [lns_get nm r (k + 1) j (by simpa using h), show k + 1 + j = k + (j + 1) by omega]
    rfl
theorem lns_step {nm : ByteArray} {ls : List ByteArray} {j : Nat} (h : j < ls.length) : (lns nm ls 0).take (j + 1) = (lns nm ls 0).take j ++ [bl (lineB nm j ls[j])] := by
  have := lns_get nm ls 0 j h
  rw [Nat.zero_add] at this
  rw [List.take_add_one, this]
  rfl
theorem jn_snoc9 (a : List (List UInt8)) (x : List UInt8) : jn (a ++ [x]) = jn a ++ (x ++ [10]) := by
  rw [jn_app]
  show jn a ++ (x ++ [10] ++ []) = _
  rw [List.append_nil]
theorem long_mem {nm : ByteArray} : ∀ {ls : List ByteArray} {k : Nat}, longAny nm ls k = false → ∀ j (h : j < ls.length), (lineB nm (k + j) ls[j]).size ≤ 1000
  | s :: r, k, h, 0, _ => by
    simp only [longAny, Bool.or_eq_false_iff, decide_eq_false_iff_not] at h
    have := h.1
    show (lineB nm k s).size ≤ _
    omega
  | s :: r, k, h, j + 1, hj => by
    simp only [longAny, Bool.or_eq_false_iff, decide_eq_false_iff_not] at h
    have := long_mem h.2 j (by simpa using hj)
    rw [show k + 1 + j = k + (j + 1) by omega] at this
    exact this
/-- What Print answers, case by case. -/
structure PrR (R : Nat) (T : ByteArray) (L : List St) : Prop where
  many : 200 < L.length → R = 12 ∧ T = ⟨#[]⟩
  err : L.length ≤ 200 → ∀ e, stsR L = e → e ≠ 0 → R = e ∧ T = ⟨#[]⟩
  long : L.length ≤ 200 → stsR L = 0 → ∀ O, jn (linesP L) = O → 65536 < O.length → R = 2 ∧ T = ⟨#[]⟩
  ok : L.length ≤ 200 → stsR L = 0 → ∀ O, jn (linesP L) = O → ¬ 65536 < O.length → R = 0 ∧ T = ofL O
theorem PrR.of (L : List St) : PrR (printE L) (printT L) L where
  many h := by
    have e : printE L = 12 := by unfold printE; rw [if_pos h]
    exact ⟨e, by unfold printT; rw [e, if_neg (by decide)]⟩
  err h e he h0 := by
    have e : printE L = e := by unfold printE; rw [if_neg (by omega), if_pos (by omega), he]
    exact ⟨e, by unfold printT; rw [e, if_neg h0]⟩
  long h h1 O hO hl := by
    have e : printE L = 2 := by unfold printE; rw [if_neg (by omega), if_neg (by omega), hO, if_pos hl]
    exact ⟨e, by unfold printT; rw [e, if_neg (by decide)]⟩
  ok h h1 O hO hl := by
    have e : printE L = 0 := by unfold printE; rw [if_neg (by omega), if_neg (by omega), hO, if_neg hl]
    exact ⟨e, by unfold printT; rw [e, if_pos rfl, hO]⟩
section
variable {w : World} {G : Nat → Prop}
theorem RowG.take {size n k : Nat} {A : Option Addr} {xs : List Value} (h : RowG w G size A n xs) (hk : k ≤ n) : RowG w G size A k (xs.take (k * size)) :=
  ⟨by rw [List.length_take, h.1]; exact Nat.min_eq_left (Nat.mul_le_mul_right _ hk), fun h0 => by
    obtain ⟨g, o, e, h1, h2, h3⟩ := h.2 (by omega)
    refine ⟨g, o, e, h1, h2, fun j u hj => h3 j u ?_⟩
    rw [List.getElem?_take] at hj
    split at hj
    · exact hj
    · cases hj⟩
theorem FV.take : ∀ {xs : List Value} {l : List Fd} (k : Nat), FV w G xs l → FV w G (xs.take (k * 2)) (l.take k)
  | xs, [], k, h => by
    have h : xs = [] := h
    subst h
    rw [List.take_nil, List.take_nil]
    rfl
  | xs, f :: r, 0, h => rfl
  | xs, f :: r, k + 1, h => by
    obtain ⟨v, ys, rfl, h1, h2⟩ := h
    rw [show (k + 1) * 2 = k * 2 + 1 + 1 by omega]
    exact ⟨v, ys.take (k * 2), rfl, h1, FV.take k h2⟩
end
end Go.Proofs.YtjkaigfpjebfbaaDoor
