/- cnf: AtMost. -/
import Derived.Test.YtghfelfljblkbaaCnfManyWalk
import Derived.Deep.DeepCutAuto
import Derived.Deep.CutBlock
namespace Go.Proofs.Ytghfelfljblkbaa
open Go.RowKit Go.Sort
set_option linter.unusedVariables false

/-- The unlike literals, in the order of their first places. -/
def uq (u : List Int) (x : Int) : List Int := if x ∈ u then u else u ++ [x]
def uqs (zs : List Int) : List Int := zs.foldl uq []
theorem uq_len (u : List Int) (x : Int) : (uq u x).length ≤ u.length + 1 := by
  unfold uq; split <;> simp
theorem uq_mem {u : List Int} {x z : Int} : z ∈ uq u x ↔ z ∈ u ∨ z = x := by
  unfold uq
  split
  · next h =>
    constructor
    · exact .inl
    · rintro (h' | rfl)
      · exact h'
      · exact h
  · simp
theorem uqf_mem : ∀ (zs u : List Int) (z : Int), z ∈ zs.foldl uq u ↔ z ∈ u ∨ z ∈ zs
  | [], u, z => by simp
  | x :: r, u, z => by
    rw [List.foldl_cons, uqf_mem r, uq_mem]
    simp [or_assoc]
theorem uqf_len : ∀ (zs u : List Int), (zs.foldl uq u).length ≤ u.length + zs.length
  | [], u => by simp
  | x :: r, u => by
    rw [List.foldl_cons]
    have h1 := uqf_len r (uq u x)
    have h2 := uq_len u x
    simp only [List.length_cons]
    omega
theorem uqs_step (zs : List Int) (i : Nat) (hi : i < zs.length) : uqs (zs.take (i + 1)) = uq (uqs (zs.take i)) (zs.getD i 0) := by
  unfold uqs
  rw [List.take_add_one, List.getElem?_eq_getElem hi, List.getD_eq_getElem?_getD, List.getElem?_eq_getElem hi, List.foldl_append]
  rfl
/-- The pairs of one literal. -/
def inn (n : Nat) (a : Int) : List Int → List (List Int) → Bool × List (List Int)
  | [], L => (true, L)
  | b :: r, L => if mayL n L [-a, -b] then inn n a r (addL n L [-a, -b]) else (false, L)
/-- The pairs of all. -/
def outr (n : Nat) : List Int → List (List Int) → Bool × List (List Int)
  | [], L => (true, L)
  | a :: r, L => if (inn n a r L).1 then outr n r (inn n a r L).2 else (false, (inn n a r L).2)
/-- AtMost. -/
def atL (n : Nat) (L : List (List Int)) (zs : List Int) : Bool × List (List Int) :=
  if mayL n L zs then outr n (uqs zs) L else (false, L)
theorem inn_step (n : Nat) (a : Int) (us : List Int) (j : Nat) (hj : j < us.length) (L : List (List Int)) :
    inn n a (us.drop j) L = if mayL n L [-a, -(us.getD j 0)] then inn n a (us.drop (j + 1)) (addL n L [-a, -(us.getD j 0)]) else (false, L) := by
  rw [List.drop_eq_getElem_cons hj, List.getD_eq_getElem?_getD, List.getElem?_eq_getElem hj]
  rfl
theorem outr_step (n : Nat) (us : List Int) (j : Nat) (hj : j < us.length) (L : List (List Int)) :
    outr n (us.drop j) L = if (inn n (us.getD j 0) (us.drop (j + 1)) L).1 then outr n (us.drop (j + 1)) (inn n (us.getD j 0) (us.drop (j + 1)) L).2 else (false, (inn n (us.getD j 0) (us.drop (j + 1)) L).2) := by
  rw [List.drop_eq_getElem_cons hj, List.getD_eq_getElem?_getD, List.getElem?_eq_getElem hj]
  rfl
theorem off_small {n : Nat} {z : Int} (hn : n ≤ 200) (hz : Ok z) (h : offL n z = false) : -200 ≤ z ∧ z ≤ 200 := by
  unfold offL at h
  rw [Bool.or_eq_false_iff, decide_eq_false_iff_not, decide_eq_false_iff_not, vw_ok hz] at h
  unfold Cf.va at h
  omega
theorem may_small {n : Nat} {L : List (List Int)} {zs : List Int} (hn : n ≤ 200) (hz : ∀ z ∈ zs, Ok z) (h : mayL n L zs = true) : ∀ z ∈ zs, -200 ≤ z ∧ z ≤ 200 := fun z hm => by
  unfold mayL at h
  rw [Bool.and_eq_true, Bool.not_eq_true', List.any_eq_false] at h
  exact off_small hn (hz z hm) (by simpa using h.2 z hm)
theorem Upd.comp {T T' : Nat → Prop} {w w1 w2 : World} (h : Upd T w w1) (h' : Upd T' w1 w2) (hT : ∀ k, T' k → T k ∨ w.heap.size ≤ k) : Upd T w w2 :=
  ⟨h'.os.trans h.os, h'.tape.trans h.tape, h'.output.trans h.output, Nat.le_trans h.size h'.size, fun j hj ht => (h'.block j (Nat.lt_of_lt_of_le hj h.size) (fun h9 => by
    rcases hT j h9 with h | h
    · exact ht h
    · omega)).trans (h.block j hj ht)⟩
theorem Upd.of_quiet {T : Nat → Prop} {w w1 : World} (h : Below w.heap.size w w1) : Upd T w w1 := ⟨h.os, h.tape, h.output, h.size, fun k hk _ => h.block k hk⟩
/-- Literals that lie in a block of literals. -/
structure Fix (w : World) (A : Option Addr) (k : Nat) (us : List Int) : Prop where
  l : Lits w A k us
  i : ∀ g o, A = some ⟨g, o, none⟩ → IsL w g
theorem Fix.upd {T : Nat → Prop} {w w' : World} {A : Option Addr} {k : Nat} {us : List Int} (h : Fix w A k us) (hu : Upd T w w') (hT : ∀ k, T k → ¬ IsL w k) : Fix w' A k us :=
  ⟨h.l.upd hu (fun b o e ht => hT b ht (h.i b o e)), fun g o e => (h.i g o e).upd hu (fun ht => hT g ht (h.i g o e))⟩
theorem Fix.below {w w' : World} {A : Option Addr} {k : Nat} {us : List Int} (h : Fix w A k us) (hb : Below w.heap.size w w') : Fix w' A k us :=
  h.upd (Upd.of_below hb (T := fun k => w.heap.size ≤ k) (fun _ _ h => h)) (fun k hT hk => by have := hk.lt; omega)
theorem SetAt.no_isL {w : World} {p cap n : Nat} {A : Option Addr} {L : List (List Int)} (h : SetAt w p A cap n L) : ∀ k, sF p A k → ¬ IsL w k := by
  obtain ⟨xs, ho, _⟩ := h.row
  rintro k (rfl | hk)
  · exact set_isL h.blk
  · exact not_isL ho (by rw [← hk]; exact ownB)
theorem add_no {n : Nat} {L : List (List Int)} {zs : List Int} (h : mayL n L zs = false) : addL n L zs = L := by unfold addL; rw [h]; rfl
theorem contains_any (A : Option Addr) (n c : Nat) (zs : List Int) (x : Int) (w : World) (h : Lits w A n zs) (hn : n ≤ 1048576) :
    Calls Try.prog 76 #[.slice A n c, .int .i64 x] w fun e w' => e = .returned (.bool (decide (x ∈ zs))) ∧ w = w' := by
  rcases Nat.eq_zero_or_pos n with h0 | h0
  · subst h0
    obtain rfl : zs = [] := List.eq_nil_of_length_eq_zero h.1
    exact (AnyG.slices_Contains_int_empty Try.containsL A c x w).mono fun e w' h => ⟨h.1, h.2.symm⟩
  · obtain ⟨b, o, rfl, hbl, hc⟩ := h.2.2 h0
    have hl := h.1
    have := AnyG.slices_Contains_int Try.containsL b o n c zs x w (by omega) (by omega) (fun j hj => hc j (by omega))
    rw [List.take_of_length_le (by omega), show zs.contains x = decide (x ∈ zs) from by simp] at this
    exact this.mono fun e w' h => ⟨h.1, h.2.symm⟩
end Go.Proofs.Ytghfelfljblkbaa
