/- Core: the plain law; slices.Delete, slices.IndexFunc at []api.Lit. -/
import Derived.Test.YtghfelfljblkbaaSatU
import Derived.Shelf.SlicesG.Delete
namespace Go.Proofs
open Go.Shelf
def Try.deleteL_ren : Go.Shelf.Ren := ⟨fun | 45 => 93 | n => n, fun | 22 => 22 | 23 => 37 | 3 => 3 | 4 => 4 | 0 => 0 | n => n, fun | n => n⟩
theorem Try.deleteL : Go.Proofs.SlLaysN.n45 Try.prog Try.deleteL_ren := {
  mixed := by kernel_rfl
  f45 := ⟨Try.f93.name, by decide, Try.func93.trans (congrArg some (by kernel_rfl))⟩
  t0 := Try.underlying0
  a0 := Try.isAgg0
  z0 := Try.sizeOf0
  v0 := Try.zeroValue0
  t3 := Try.underlying3
  a3 := Try.isAgg3
  z3 := Try.sizeOf3
  v3 := Try.zeroValue3
  t4 := Try.underlying4
  a4 := Try.isAgg4
  z4 := Try.sizeOf4
  v4 := Try.zeroValue4
  t22 := Try.underlying22
  a22 := Try.isAgg22
  z22 := Try.sizeOf22
  v22 := Try.zeroValue22
  t23 := Try.underlying37
  a23 := Try.isAgg37
  z23 := Try.sizeOf37
  v23 := Try.zeroValue37
  i23 := by kernel_rfl }
end Go.Proofs
namespace Go.Proofs.Ytghfelfljblkbaa
open Go.RowKit Go.Sort
set_option linter.unusedVariables false

theorem delete_any (v : Value) (zs : List Int) (i base : Nat) (w : World) (h : OwnL w base v zs) (hi : i < zs.length) :
    Calls Try.prog 93 #[v, .int .i64 (i : Int), .int .i64 ((i : Int) + 1)] w fun e w' => ∃ v', e = .returned v' ∧ OwnL w' base v' (zs.eraseIdx i) ∧ Below base w w' := by
  rcases h.2 with ⟨rfl, h0⟩ | ⟨g, cap, cur, rfl, hbg, hg, hnc, hcm, hcs, ht⟩
  · have h0' : zs.length = 0 := h0
    omega
  · obtain ⟨g', cap', hv, _, hlt, _, _, _, hH⟩ := Lib.holds_of_ownsRow h (by intro e; cases e)
    cases hv
    have e1 : ((i + 1 : Nat) : Int) = (i : Int) + 1 := by omega
    rw [← e1]
    refine (AnyG.slices_Delete_int Try.deleteL g 0 cap i (i + 1) zs w hH hnc hcm (by omega) (by omega)).mono ?_
    rintro e w' ⟨rfl, q, rfl⟩
    have hel : (zs.eraseIdx i).length = zs.length - (i + 1 - i) := by rw [List.length_eraseIdx, if_pos hi]; omega
    have ho := Lib.ownsRow_putRow (q := q) (k := zs.length - (i + 1 - i)) (ys := zs.take i ++ zs.drop (i + 1) ++ List.replicate (i + 1 - i) 0) h (by simp; omega) (by omega)
    rw [← List.eraseIdx_eq_take_drop_succ, ← hel, List.take_left' rfl] at ho
    rw [← hel]
    rw [← List.eraseIdx_eq_take_drop_succ]
    refine ⟨_, rfl, ho, ?_⟩
    exact Lib.below_putRow (Below.refl _ _) hbg
theorem idx_cases (p : Int → Bool) (d : Int) : ∀ (zs : List Int) (i : Nat), (zs.any p = false ∧ zs.find? p = none ∧ Lib.idxByFrom (fun _ y => p y) d zs i = -1) ∨ ∃ k, k < zs.length ∧ zs.find? p = some (zs.getD k 0) ∧ Lib.idxByFrom (fun _ y => p y) d zs i = ((i + k : Nat) : Int)
  | [], i => .inl ⟨rfl, rfl, rfl⟩
  | z :: r, i => by
    cases hz : p z with
    | true =>
      refine .inr ⟨0, by simp, by simp [List.find?, hz], ?_⟩
      unfold Lib.idxByFrom
      rw [if_pos hz]; rfl
    | false =>
      have e : Lib.idxByFrom (fun _ y => p y) d (z :: r) i = Lib.idxByFrom (fun _ y => p y) d r (i + 1) := by
        conv => lhs; unfold Lib.idxByFrom
        rw [if_neg (by rw [hz]; exact Bool.false_ne_true)]
      rcases idx_cases p d r (i + 1) with ⟨h1, h2, h3⟩ | ⟨k, h1, h2, h3⟩
      · exact .inl ⟨by rw [List.any_cons, hz, h1]; rfl, by rw [List.find?, hz]; exact h2, e.trans h3⟩
      · refine .inr ⟨k + 1, by simpa using h1, by rw [List.find?, hz]; simpa using h2, e.trans (h3.trans ?_)⟩
        rw [show i + 1 + k = i + (k + 1) by omega]
theorem index_any (g : Nat) (lb : Array Value) (p : Int → Bool) (A : Option Addr) (n c : Nat) (zs : List Int) (w : World) (h : Lits w A n zs) (hn : n ≤ 1048576) (eg : ∀ args w, (callFunc g args).run Try.prog w = .ok (.enter g args) w)
    (hp : PredAt Try.prog g lb (Value.int .i64) p w) :
    Calls Try.prog 89 #[.slice A n c, .func (.func g) #[] lb] w fun e w' => ∃ r : Int, e = .returned (.int .i64 r) ∧ ((r = -1 ∧ zs.find? p = none) ∨ ∃ k, k < n ∧ r = (k : Int) ∧ zs.find? p = some (zs.getD k 0)) ∧ ∃ q, w' = w.drewN q := by
  have hl := h.1
  rcases Nat.eq_zero_or_pos n with h0 | h0
  · subst h0
    obtain rfl : zs = [] := List.eq_nil_of_length_eq_zero hl
    refine (AnyE.slices_IndexFunc_empty (P := Try.prog) (ρ := Try.anyL_ren) { Try.anyL with } A c (.func (.func g) #[] lb) w).mono ?_
    rintro e w' ⟨rfl, hw⟩
    exact ⟨-1, rfl, .inl ⟨rfl, rfl⟩, 0, hw⟩
  · obtain ⟨b, o, rfl, hbl, hc⟩ := h.2.2 h0
    have := AnyE.slices_IndexFunc (P := Try.prog) (ρ := Try.anyL_ren) { Try.anyL with } (Value.int .i64) p g lb eg b o n c zs w hp (by omega) (by omega) (fun j hj => by
      rw [hc j (by omega), List.getD_eq_getElem?_getD, List.getElem?_eq_getElem hj]
      simp [hj])
    rw [List.take_of_length_le (by omega)] at this
    refine this.mono ?_
    rintro e w' ⟨rfl, hw⟩
    refine ⟨_, rfl, ?_, hw⟩
    rcases idx_cases p default zs 0 with ⟨_, h2, h3⟩ | ⟨k, h1, h2, h3⟩
    · exact .inl ⟨h3, h2⟩
    · exact .inr ⟨k, by omega, by rw [Nat.zero_add] at h3; exact h3, h2⟩
/-- Is there a model? -/
def canS (n : Nat) (L : List (List Int)) (zs : List Int) : Bool := !zs.any (offL n) && (List.range (2 ^ n)).any fun k => mod L zs (vec n k)
theorem can_first {n : Nat} {L : List (List Int)} {zs : List Int} {r : Option (List Bool)} (h : FirstIs n L zs r) : r.isSome = canS n L zs := by
  unfold canS
  cases r with
  | none =>
    rcases h with h | h
    · rw [h]; rfl
    · symm
      rw [Option.isSome_none, Bool.and_eq_false_iff]
      right
      rw [List.any_eq_false]
      intro k hk
      rw [h k (List.mem_range.1 hk)]
      exact Bool.false_ne_true
  | some bs =>
    obtain ⟨h1, k, hk, e, hm, _⟩ := h
    symm
    rw [Option.isSome_some, h1, Bool.not_false, Bool.true_and, List.any_eq_true]
    exact ⟨k, List.mem_range.2 hk, by rw [← e]; exact hm⟩
/-- The core's loop: d more literals to look at. -/
def coreGo (p : List Int → Bool) : Nat → List Int → Nat → List Int
  | 0, c, _ => c
  | d + 1, c, i => if p (c.eraseIdx i) then coreGo p d c (i + 1) else coreGo p d (c.eraseIdx i) i
/-- What Core hands back. -/
def coreR (n : Nat) (L : List (List Int)) (zs : List Int) : Option (List Int) :=
  match zs.find? (offL n) with
  | some a => some [a]
  | none => if canS n L zs then none else some (coreGo (canS n L) zs.length zs 0)
theorem core_step {p : List Int → Bool} {c : List Int} {i : Nat} (hi : i < c.length) : coreGo p (c.length - i) c i = if p (c.eraseIdx i) then coreGo p (c.length - (i + 1)) c (i + 1) else coreGo p ((c.eraseIdx i).length - i) (c.eraseIdx i) i := by
  have e : c.length - i = (c.length - (i + 1)) + 1 := by omega
  have e2 : (c.eraseIdx i).length - i = c.length - (i + 1) := by rw [List.length_eraseIdx, if_pos hi]; omega
  rw [e, e2]; rfl
theorem core_end {p : List Int → Bool} {c : List Int} {i : Nat} (hi : c.length ≤ i) : coreGo p (c.length - i) c i = c := by
  rw [show c.length - i = 0 by omega]; rfl
theorem erase_ok {c : List Int} {i : Nat} (h : ∀ z ∈ c, Ok z) : ∀ z ∈ c.eraseIdx i, Ok z := fun z hz => h z (List.mem_of_mem_eraseIdx hz)
theorem getD_ok {zs : List Int} (h : ∀ z ∈ zs, Ok z) (k : Nat) : Ok (zs.getD k 0) := by
  rw [List.getD_eq_getElem?_getD]
  rcases Nat.lt_or_ge k zs.length with hk | hk
  · rw [List.getElem?_eq_getElem hk]; exact h _ (List.getElem_mem hk)
  · rw [List.getElem?_eq_none hk]; exact ⟨by decide, by decide⟩
/-- A core's literals are literals of what was asked. -/
theorem coreGo_ok {p : List Int → Bool} {Q : Int → Prop} : ∀ (d : Nat) (c : List Int) (i : Nat), (∀ z ∈ c, Q z) → ∀ z ∈ coreGo p d c i, Q z
  | 0, c, i, h => h
  | d + 1, c, i, h => by
    unfold coreGo
    split
    · exact coreGo_ok d c (i + 1) h
    · exact coreGo_ok d _ i (fun z hz => h z (List.mem_of_mem_eraseIdx hz))
theorem coreGo_len {p : List Int → Bool} : ∀ (d : Nat) (c : List Int) (i : Nat), (coreGo p d c i).length ≤ c.length
  | 0, c, i => Nat.le_refl _
  | d + 1, c, i => by
    unfold coreGo
    split
    · exact coreGo_len d c (i + 1)
    · exact Nat.le_trans (coreGo_len d _ i) (by rw [List.length_eraseIdx]; split <;> omega)
end Go.Proofs.Ytghfelfljblkbaa
