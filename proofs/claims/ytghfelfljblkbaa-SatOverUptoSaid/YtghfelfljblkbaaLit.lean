/- What a slice of literals holds in a world; arguments that are such slices. -/
import Derived.Test.YtghfelfljblkbaaRows
import Derived.Test.YtghfelfljblkbaaHeap
import Derived.Test.YtghfelfljblkbaaCf
import Derived.ProofKit
import Derived.OpenShut
import Derived.SizedLaws
import Derived.Lib.OwnBridge
namespace Go.Proofs.Ytghfelfljblkbaa
open Go.ChangeShapes Go.WideShapes Go.ChangeAt Go.RowKit
set_option linter.unusedVariables false

/-- A number that a literal may be. -/
def Ok (z : Int) : Prop := -9223372036854775808 ≤ z ∧ z ≤ 9223372036854775807
/-- The slice at A, of n literals, reads as zs. -/
def Lits (w : World) (A : Option Addr) (n : Nat) (zs : List Int) : Prop :=
  zs.length = n ∧ (∀ z ∈ zs, Ok z) ∧ (0 < n → ∃ b o, A = some ⟨b, o, none⟩ ∧ b < w.heap.size ∧ ∀ k, k < n → w.cell? ⟨b, o + k, none⟩ = some (.int .i64 (zs.getD k 0)))
theorem Lits.nil (w : World) (A : Option Addr) : Lits w A 0 [] := ⟨rfl, by simp, fun h => absurd h (by omega)⟩
theorem Lits.below {w w' : World} {A : Option Addr} {n : Nat} {zs : List Int} (h : Lits w A n zs) (hb : Below w.heap.size w w') : Lits w' A n zs :=
  ⟨h.1, h.2.1, fun h0 => by
    obtain ⟨b, o, e, hl, hc⟩ := h.2.2 h0
    exact ⟨b, o, e, Nat.lt_of_lt_of_le hl hb.size, fun k hk => (hb.cell hl).trans (hc k hk)⟩⟩
theorem Lits.upd {T : Nat → Prop} {w w' : World} {A : Option Addr} {n : Nat} {zs : List Int} (h : Lits w A n zs) (hu : Upd T w w') (hT : ∀ b o, A = some ⟨b, o, none⟩ → ¬ T b) : Lits w' A n zs :=
  ⟨h.1, h.2.1, fun h0 => by
    obtain ⟨b, o, e, hl, hc⟩ := h.2.2 h0
    exact ⟨b, o, e, Nat.lt_of_lt_of_le hl hu.size, fun k hk => (hu.cell hl (hT b o e)).trans (hc k hk)⟩⟩
theorem Lits.ok {w : World} {A : Option Addr} {n : Nat} {zs : List Int} (h : Lits w A n zs) (k : Nat) : Ok (zs.getD k 0) := by
  rw [List.getD_eq_getElem?_getD]
  rcases Nat.lt_or_ge k zs.length with hk | hk
  · rw [List.getElem?_eq_getElem hk]; exact h.2.1 _ (List.getElem_mem hk)
  · rw [List.getElem?_eq_none hk]; exact ⟨by decide, by decide⟩
def encL (z : Int) : Value := .int .i64 z
/-- A row of literals of the call's own. -/
def OwnL (w : World) (base : Nat) (v : Value) (zs : List Int) : Prop := w.ownsRow base 37 1 v zs.length (zs.map (Value.int .i64))
theorem OwnL.lits {w : World} {base : Nat} {v : Value} {zs : List Int} (h : OwnL w base v zs) (hz : ∀ z ∈ zs, Ok z) : ∃ A c, v = .slice A zs.length c ∧ Lits w A zs.length zs ∧ zs.length ≤ c ∧ c ≤ maxLen ∧ ∀ g o, A = some ⟨g, o, none⟩ → base ≤ g := by
  rcases h.2 with ⟨rfl, hn⟩ | ⟨g, cap, cur, rfl, hbg, hg, hnc, hcm, hcs, htake⟩
  · have e : zs = [] := List.eq_nil_of_length_eq_zero hn
    subst e
    exact ⟨none, 0, rfl, Lits.nil w none, Nat.le_refl _, Nat.zero_le _, fun g o he => by cases he⟩
  · refine ⟨some ⟨g, 0, none⟩, cap, rfl, ⟨rfl, hz, fun h0 => ⟨g, 0, rfl, Blk.lt hg, fun k hk => ?_⟩⟩, hnc, hcm, fun g' o he => by cases he; exact hbg⟩
    rw [Nat.zero_add, World.ownsRow.cellAt h k (by omega), List.getElem?_map, List.getElem?_eq_getElem hk, List.getD_eq_getElem?_getD, List.getElem?_eq_getElem hk]
    rfl
theorem ownL_later {w w' : World} {base : Nat} {e : TypeId} {size n : Nat} {v : Value} {xs : List Value} (h : w.ownsRow base e size v n xs) (hb : Below w.heap.size w w') : w'.ownsRow base e size v n xs := by
  refine ⟨h.1, ?_⟩
  rcases h.2 with h2 | ⟨g, cap, cur, hv, hg, hh, h3⟩
  · exact .inl h2
  · exact .inr ⟨g, cap, cur, hv, hg, (hb.block g (Blk.lt hh)).trans hh, h3⟩
section
variable {H : Type} {enc : TypeId × Value → H} {W : World} {base : Nat}
theorem bulkL_one (d : DataW H) : 1 ≤ Rows.uptoBulk d := by
  cases d with
  | lit l => cases l <;> simp [Rows.uptoBulk]
  | nil => simp [Rows.uptoBulk]
  | ptr d => simp [Rows.uptoBulk]
  | slice elems spare => simp [Rows.uptoBulk]
  | agg parts => simp [Rows.uptoBulk]
  | iface t d => simp [Rows.uptoBulk]
  | map entries => simp [Rows.uptoBulk]
  | held h => simp [Rows.uptoBulk]
theorem bulkL_length (l : List (DataW H)) : l.length ≤ Rows.uptoBulkAll l := by
  induction l with
  | nil => simp [Rows.uptoBulkAll]
  | cons x r ih => have := bulkL_one x; simp only [Rows.uptoBulkAll, List.length_cons]; omega

theorem addL_none (b o j : Nat) : (⟨b, o, none⟩ : Addr).add j = ⟨b, o + j, none⟩ := by unfold Addr.add; split <;> simp_all
set_option maxRecDepth 100000 in
theorem open_lits {v : Value} {d : DataW H} {p : List MemPlace} (h : DataW.Trod enc Try.prog W 0 (fun _ => true) true 22 v d p) (o : Value.okWide Try.prog W .any base 22 v) :
    ∃ A n cp zs, v = .slice A n cp ∧ Lits W A n zs ∧ n ≤ cp ∧ cp ≤ maxLen ∧ n ≤ Rows.uptoBulk d := by
  obtain ⟨a0, len0, cap0, rfl⟩ := okWide_slice Try.underlying22 o
  obtain ⟨fuel, hf⟩ := h
  rcases open_ints Try.underlying22 Try.underlying37 (by kernel_rfl) hf with ⟨hcs, hx⟩ | ⟨x, l, c, zs, hcs, _, hl, hm, hz, hx, hcell, hwz⟩
  · simp [Value.cells] at hcs
    obtain ⟨rfl, rfl, rfl⟩ := hcs
    exact ⟨none, 0, 0, [], rfl, Lits.nil W none, Nat.le_refl _, Nat.zero_le _, Nat.zero_le _⟩
  · simp [Value.cells] at hcs
    obtain ⟨rfl, rfl, rfl⟩ := hcs
    have hzl : zs.length = cap0 := by simpa using hz
    have hlen : (zs.take len0).length = len0 := by rw [List.length_take]; omega
    refine ⟨_, len0, cap0, zs.take len0, rfl, ⟨hlen, fun z hz => ?_, fun h0 => ?_⟩, hl, hm, ?_⟩
    · have := hwz z (List.mem_of_mem_take hz)
      simpa [Ok, Lit.wf, IntKind.min, IntKind.max, IntKind.signed, IntKind.bits] using this
    · obtain ⟨b, off, spot⟩ := x
      have hc0 := hcell 0 (by omega)
      have hspot : spot = none := by simpa [Addr.add] using World.cell?_spot hc0
      subst hspot
      refine ⟨b, off, rfl, World.block_lt_of_cell? W _ (by simpa [Addr.add] using hc0), fun k hk => ?_⟩
      have hck := hcell k (by omega)
      rw [addL_none] at hck
      rw [hck]
      simp [List.getD, show k < zs.length by omega, hk]
    · have e := congrArg Prod.fst hx
      simp only at e
      rw [e]
      simp only [Rows.uptoBulk]
      have := bulkL_length (H := H) (lits .i64 (zs.take len0))
      have e3 : (lits (H := H) .i64 (zs.take len0)).length = len0 := by simp [lits]; omega
      rw [e3] at this
      omega
end
end Go.Proofs.Ytghfelfljblkbaa
