/- sat: Count: the counter while it is filled. -/
import Derived.Test.YtghfelfljblkbaaCnt3
namespace Go.Proofs.Ytghfelfljblkbaa
open Go.RowKit Go.Sort
set_option linter.unusedVariables false

/-- n values. -/
def VX (n : Nat) (F : Nat → Value) : Array Value := ((List.range n).map F).toArray
theorem VX.size (n : Nat) (F : Nat → Value) : (VX n F).size = n := by simp [VX]
theorem VX.get {n v : Nat} {F : Nat → Value} (h : v < n) : (VX n F)[v]? = some (F v) := by simp [VX, h]
theorem VX.set (n v : Nat) (F : Nat → Value) (x : Value) : (VX n F).setIfInBounds v x = VX n (fun k => if k = v then x else F k) := by
  refine Array.ext_getElem? fun i => ?_
  rw [Array.getElem?_setIfInBounds, VX.size]
  rcases Nat.lt_or_ge i n with hi | hi
  · rw [VX.get hi, VX.get hi]
    by_cases e : v = i
    · subst e; rw [if_pos rfl, if_pos hi, if_pos rfl]
    · rw [if_neg e, if_neg (fun h => e h.symm)]
  · rw [Array.getElem?_eq_none (by rw [VX.size]; exact hi), Array.getElem?_eq_none (by rw [VX.size]; exact hi)]
    by_cases e : v = i
    · subst e; rw [if_pos rfl, if_neg (by omega)]
    · rw [if_neg e]
theorem rows_row : (Try.prog.info? 28).map (fun i => (i.zero, i.size, i.bytes)) = some (some (.slice none 0 0), 1, 24) := by kernel_rfl
theorem make_rows (n : Nat) (hn : n ≤ 1000000) (W : World) : (Instr.makeSlice 105 (.int .i64 ((n : Int) + 1)) (.int .i64 ((n : Int) + 1))).run Try.prog W = .ok (.slice (some ⟨W.heap.size, 0, none⟩) (n + 1) (n + 1)) (W.alloc (.cells (VX (n + 1) fun _ => .slice none 0 0) 28)) := by
  obtain ⟨i0, hi0, hz0, hz1, hz2⟩ := info_parts rows_row
  have := make_row2 105 28 i0 (.slice none 0 0) Try.underlying105 hi0 hz0 .i64 .i64 (n + 1) (by rw [hz2]; omega) (by omega) W
  have e : madeCells (Value.slice none 0 0).cells ((n + 1) * i0.size) = VX (n + 1) fun _ => .slice none 0 0 := by
    rw [hz1, Nat.mul_one]
    unfold VX madeCells
    apply Array.ext
    · simp
    · intro k h1 h2
      simp [Value.cells, Nat.mod_one]
  rw [e] at this
  exact this
theorem make_bools1 (n : Nat) (hn : n ≤ 1000) (W : World) : (Instr.makeSlice 29 (.int .i64 ((n : Int) + 1)) (.int .i64 ((n : Int) + 1))).run Try.prog W = .ok (.slice (some ⟨W.heap.size, 0, none⟩) (n + 1) (n + 1)) (W.alloc (.cells (VB (n + 1) fun _ => false) 4)) := make_bools (n + 1) (by omega) W
/-- A counter while it is filled. -/
structure CsAt (w0 w : World) (x gd gv n : Nat) (mx : Int) (D : Nat → List (List Int)) (F : Nat → Value) : Prop where
  blk : Blk w x 107 #[.slice (some ⟨gd, 0, none⟩) (n + 1) (n + 1), .int .i64 mx, .int .i64 0, .slice (some ⟨gv, 0, none⟩) (n + 1) (n + 1)]
  val : Blk w gv 4 (VB (n + 1) fun _ => false)
  dn : Blk w gd 28 (VX (n + 1) F)
  row : ∀ k, k ≤ n → ∃ A cap xs, F k = .slice A (D k).length cap ∧ w.ownsRow w0.heap.size 22 1 (F k) (D k).length xs ∧ LIn w xs (D k)
  sep : ∀ k j, k ≤ n → j ≤ n → k ≠ j → ∀ i, (F k).ownBlock = some i → (F j).ownBlock ≠ some i
  bel : Below w0.heap.size w0 w
  lo : w0.heap.size ≤ x ∧ w0.heap.size ≤ gd ∧ w0.heap.size ≤ gv
theorem CsAt.below {w0 w w' : World} {x gd gv n : Nat} {mx : Int} {D : Nat → List (List Int)} {F : Nat → Value} (h : CsAt w0 w x gd gv n mx D F) (hb : Below w.heap.size w w') : CsAt w0 w' x gd gv n mx D F :=
  ⟨h.blk.below hb h.blk.lt, h.val.below hb h.val.lt, h.dn.below hb h.dn.lt, fun k hk => by
    obtain ⟨A, cap, xs, h1, h2, h3⟩ := h.row k hk
    exact ⟨A, cap, xs, h1, ownL_later h2 hb, h3.upd (Upd.of_below hb (T := fun k => w.heap.size ≤ k) (fun _ _ h => h)) (fun k hk hT => by have := hT.lt; omega)⟩, h.sep, h.bel.trans (hb.mono h.bel.size), h.lo⟩
/-- Blocks of two types differ. -/
theorem blk_blk_ne {w : World} {g g' : Nat} {t t' : TypeId} {c c' : Array Value} (h : Blk w g t c) (h' : Blk w g' t' c') (ht : t ≠ t') : g ≠ g' := by
  intro e
  subst e
  unfold Blk at h h'
  rw [h] at h'
  injection h' with h8
  injection h8 with _ h9
  exact ht h9
theorem blk_isL {w : World} {g : Nat} {t : TypeId} {c : Array Value} (h : Blk w g t c) (ht : t ≠ 37) : ¬ IsL w g := by
  rintro ⟨cs, fr, h8⟩
  unfold Blk at h
  rw [h] at h8
  injection h8 with h8
  injection h8 with _ h9
  exact ht h9
/-- A clause more behind done[u]. -/
theorem CsAt.app {w0 w w5 : World} {x gd gv n u : Nat} {mx : Int} {D : Nat → List (List Int)} {F : Nat → Value} {r : List Int} {Ar : Option Addr} {cr : Nat} {v5 : Value} {xs : List Value} (h : CsAt w0 w x gd gv n mx D F) (hu : u ≤ n)
    (hx : LIn w xs (D u)) (hl : Lits w Ar r.length r) (hi : ∀ g o, Ar = some ⟨g, o, none⟩ → IsL w g)
    (h5 : Upd (fun j => (F u).ownBlock = some j) w w5) (ho : w5.ownsRow w0.heap.size 22 1 v5 ((D u).length + 1) (xs ++ [.slice Ar r.length cr])) (hv : ∀ j, v5.ownBlock = some j → (F u).ownBlock = some j ∨ w.heap.size ≤ j) :
    CsAt w0 (w5.setCell ⟨gd, u, none⟩ v5) x gd gv n mx (fun k => if k = u then D u ++ [r] else D k) (fun k => if k = u then v5 else F k) := by
  obtain ⟨A0, c0, xs0, e0, ho0, hi0⟩ := h.row u hu
  have n1 : ¬ (F u).ownBlock = some x := own_blk_ne ho0 h.blk (by decide)
  have n2 : ¬ (F u).ownBlock = some gd := own_blk_ne ho0 h.dn (by decide)
  have n3 : ¬ (F u).ownBlock = some gv := own_blk_ne ho0 h.val (by decide)
  have hIs : ∀ k, (F u).ownBlock = some k → ¬ IsL w k := fun k hk => not_isL ho0 hk
  have hd5 : Blk w5 gd 28 (VX (n + 1) F) := h.dn.upd h5 n2
  have hux : gd ≠ x := blk_blk_ne h.dn h.blk (by decide)
  have huv : gd ≠ gv := blk_blk_ne h.dn h.val (by decide)
  have hs : Upd (fun j => j = gd) w5 (w5.setCell ⟨gd, u, none⟩ v5) := (Upd.refl (fun j => j = gd) w5).setCell (p := ⟨gd, u, none⟩) (.inl rfl) _
  have hD : ∀ k, ¬ (k = gd ∧ IsL w5 k) := fun k hk => blk_isL hd5 (by decide) (by rw [← hk.1]; exact hk.2)
  refine ⟨(h.blk.upd h5 n1).upd hs (fun e => hux e.symm), (h.val.upd h5 n3).upd hs (fun e => huv e.symm), ?_, fun k hk => ?_, fun k j hk hj hkj i hik => ?_, ?_, h.lo⟩
  · have := hd5.set_ u v5
    rw [VX.set] at this
    exact this
  · by_cases e : k = u
    · subst e
      obtain ⟨A5, c5, rfl⟩ := ownL_shape ho
      refine ⟨A5, c5, xs ++ [.slice Ar r.length cr], ?_, ?_, ?_⟩
      · simp
      · simp only [if_pos]
        rw [List.length_append, List.length_singleton]
        exact own_upd ho hs (fun g hg hgd => own_blk_ne ho hd5 (by decide) (by rw [← hgd]; exact hg))
      · simp only [if_pos]
        have h9 : LIn w5 (xs ++ [.slice Ar r.length cr]) (D k ++ [r]) := (hx.upd h5 hIs).snoc (hl.upd h5 (fun b o e hT => hIs b hT (hi b o e))) (fun g o e => (hi g o e).upd h5 (fun hT => hIs g hT (hi g o e)))
        exact h9.upd hs (fun g hg hgl => hD g ⟨hg, hgl⟩)
    · obtain ⟨A, cap, ys, e1, h1, h2⟩ := h.row k hk
      simp only [if_neg e]
      have hsep : ∀ g, (F k).ownBlock = some g → ¬ (F u).ownBlock = some g := fun g hg => h.sep k u hk hu e g hg
      have h3 := own_upd h1 h5 hsep
      exact ⟨A, cap, ys, e1, own_upd h3 hs (fun g hg hgd => own_blk_ne h3 hd5 (by decide) (by rw [← hgd]; exact hg)), (h2.upd h5 hIs).upd hs (fun g hg hgl => hD g ⟨hg, hgl⟩)⟩
  · skip
    by_cases e1 : k = u
    · rw [if_pos e1] at hik
      rw [if_neg (fun e2 => hkj (e1.trans e2.symm))]
      intro hij
      obtain ⟨A, cap, ys, e3, h1, h2⟩ := h.row j hj
      rcases hv i hik with h9 | h9
      · exact h.sep u j hu hj (fun e2 => hkj (e1.trans e2)) i h9 hij
      · have := (h1.lt i hij).2
        omega
    · rw [if_neg e1] at hik
      by_cases e2 : j = u
      · rw [if_pos e2]
        intro hij
        obtain ⟨A, cap, ys, e3, h1, h2⟩ := h.row k hk
        rcases hv i hij with h9 | h9
        · exact h.sep k u hk hu e1 i hik h9
        · have := (h1.lt i hik).2
          omega
      · rw [if_neg e2]
        exact h.sep k j hk hj hkj i hik
  · refine (h.bel.trans (h5.below (fun g hg => (ho0.lt g hg).1) h.bel.size)).trans (hs.below (fun g hg => by rw [hg]; exact h.lo.2.1) (Nat.le_trans h.bel.size h5.size))
/-- The counter, filled. -/
theorem CsAt.ct {w0 w : World} {x gd gv n : Nat} {mx : Int} {L : List (List Int)} {F : Nat → Value} (h : CsAt w0 w x gd gv n mx (Ct.doneL L) F) : CtAt w x gd gv n mx 0 (fun _ => false) (fun i => i < w.heap.size ∧ i ≠ x ∧ i ≠ gv) L := by
  refine ⟨h.blk, h.val, fun k hk => ?_, h.dn.lt, ⟨blk_blk_ne h.dn h.blk (by decide), blk_blk_ne h.dn h.val (by decide), blk_blk_ne h.blk h.val (by decide)⟩, fun i hi => hi.2⟩
  obtain ⟨A, cap, xs, e, ho, hi⟩ := h.row k hk
  refine ⟨A, cap, ((h.dn.cell k).trans (VX.get (by omega))).trans (by rw [e]), fun i hi => hi.1, fun h0 => ?_⟩
  rw [e] at ho
  have n1 : ¬ (Value.slice A (Ct.doneL L k).length cap).ownBlock = some x := own_blk_ne ho h.blk (by decide)
  have n3 : ¬ (Value.slice A (Ct.doneL L k).length cap).ownBlock = some gv := own_blk_ne ho h.val (by decide)
  obtain ⟨b, _, _, hA, _, _⟩ := row_cell ho hi (j := 0) h0
  subst hA
  refine ⟨b, rfl, ⟨(ho.lt b rfl).2, fun e => n1 (by rw [← e]; rfl), fun e => n3 (by rw [← e]; rfl)⟩, fun j hj => ?_⟩
  obtain ⟨Aj, cj, h1, h2, h3⟩ := hi.2 j hj
  exact ⟨Aj, cj, by rw [ho.cellAt j (by omega)]; exact h1, h2, fun g o e => ⟨(h3 g o e).lt, fun e2 => blk_isL h.blk (by decide) (by rw [← e2]; exact h3 g o e), fun e2 => blk_isL h.val (by decide) (by rw [← e2]; exact h3 g o e)⟩⟩
end Go.Proofs.Ytghfelfljblkbaa
