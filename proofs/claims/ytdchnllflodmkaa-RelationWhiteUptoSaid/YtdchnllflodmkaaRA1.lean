/- Arguments that are rows of atoms, of provides, of clauses, and an atom, opened. -/
import Derived.Test.YtdchnllflodmkaaRj
import Derived.Test.YtdchnllflodmkaaRows
import Derived.Deep.Slices
import Derived.Deep.Fields
import Derived.ChangeSame
import Derived.ShutString
import Derived.ChangeOld
import Derived.Lib.SmallJoins
namespace Go.Proofs.Ytdchnllflodmkaa
open Go.ChangeShapes Go.WideShapes Go.ChangeAt Go.Deep Go.RowKit Go.Joins
set_option linter.unusedVariables false

section
variable {H : Type} {enc : TypeId × Value → H} {P : Program} {w : World} {base : Nat} {spare : Nat → Bool} {held : Bool}
theorem open_fields {t e : TypeId} {fs : Array Field} {fuel : Nat} {cs : List Value} {x : DataW H × List MemPlace} (ht : P.underlying t = some (.slice e)) (he : P.underlying e = some (.struct fs))
    (hone : oneCellFields P fs = true) (hC : P.cellsOf e = fs.size) (h : DataW.trod enc P w base spare held fuel t cs = some x) :
    (cs = [.slice none 0 0] ∧ x = (.nil, [])) ∨
    ∃ (a : Addr) (len cap m : Nat) (D : Nat → DataW H) (Pl : Nat → List MemPlace), cs = [.slice (some a) len cap] ∧ base ≤ a.block ∧ len ≤ cap ∧ cap ≤ maxLen ∧ m = (if spare a.block then cap else len) ∧
      x = (.slice ((List.range len).map D) ((List.range (m - len)).map fun j => D (len + j)), MemPlace.row a (m * fs.size) ++ (List.range m).flatMap Pl) ∧
      ∀ i, i < m → ∃ (ys : List (DataW H × List MemPlace)) (n : Nat), D i = .agg (ys.map (·.1)) ∧ Pl i = ys.flatMap (·.2) ∧ ys.length = fs.size ∧
        ∀ (j : Nat) (f : Field), fs[j]? = some f → ∃ (v : Value) (y : DataW H × List MemPlace), w.cell? (a.add (i * fs.size + j)) = some v ∧ ys[j]? = some y ∧ DataW.trod enc P w base spare held n f.type [v] = some y := by
  rcases open_slice ht h with h0 | ⟨a, len, cap, m, n, D, Pl, hcs, hb, hl, hm, hmm, hx, hi⟩
  · exact .inl h0
  · refine .inr ⟨a, len, cap, m, D, Pl, hcs, hb, hl, hm, hmm, by rw [hC] at hx; exact hx, fun i him => ?_⟩
    obtain ⟨cs', hc, ht'⟩ := hi i him
    rw [hC] at hc
    obtain ⟨ys, n', hn', hy, hlen, hyl, hf⟩ := DataW.trod_struct he ht'
    obtain ⟨_, hcl, hat⟩ := World.cells?_some hc
    simp only [Prod.mk.injEq] at hy
    refine ⟨ys, n', hy.1, hy.2, hyl, fun j f hj => ?_⟩
    obtain ⟨ho, hk⟩ := hone_of hone j f hj
    have hjl : j < fs.size := (Array.getElem?_eq_some_iff.1 hj).1
    have hcell := hat j hjl
    have hv : cs'[j]? = some (cs'[j]'(by omega)) := List.getElem?_eq_getElem (by omega)
    have h1 := hf j f hj
    rw [ho, hk] at h1
    have hone' : (cs'.drop j).take 1 = [cs'[j]'(by omega)] := by
      rw [List.drop_eq_getElem_cons (by omega)]
      rfl
    rw [hone'] at h1
    have hys : ys[j]? = some (ys[j]'(by omega)) := List.getElem?_eq_getElem (by omega)
    refine ⟨_, _, ?_, hys, h1.trans hys⟩
    rw [← Go.Deep.add_add, hcell, hv]
theorem list_of {α : Type} [Inhabited α] (n : Nat) (Q : Nat → α → Prop) (h : ∀ i, i < n → ∃ b, Q i b) : ∃ L : List α, L.length = n ∧ ∀ i (hi : i < L.length), Q i L[i] := by
  induction n with
  | zero => exact ⟨[], rfl, fun i hi => absurd hi (by simp)⟩
  | succ n ih =>
    obtain ⟨L, h1, h2⟩ := ih fun i hi => h i (by omega)
    obtain ⟨b, hb⟩ := h n (by omega)
    refine ⟨L ++ [b], by rw [List.length_append, h1]; rfl, fun i hi => ?_⟩
    rw [List.length_append, h1] at hi
    by_cases e : i < L.length
    · rw [List.getElem_append_left e]; exact h2 i e
    · have e2 : i = n := by simp at hi; omega
      subst e2
      rw [List.getElem_append_right (by omega)]
      simp [h1]
      exact hb
end
instance : Inhabited RA := ⟨⟨⟨#[]⟩, 0, ⟨#[]⟩⟩⟩
instance : Inhabited RP := ⟨⟨⟨#[]⟩, ⟨#[]⟩⟩⟩
section
variable {H : Type} {enc : TypeId × Value → H} {W : World} {base : Nat}
theorem bulkR_one (d : DataW H) : 1 ≤ Rows.uptoBulk d := by
  cases d with
  | lit l => cases l <;> simp [Rows.uptoBulk]
  | _ => simp [Rows.uptoBulk]
theorem bulkR_length (l : List (DataW H)) : l.length ≤ Rows.uptoBulkAll l := by
  induction l with
  | nil => simp [Rows.uptoBulkAll]
  | cons x r ih => have := bulkR_one x; simp only [Rows.uptoBulkAll, List.length_cons]; omega
theorem bulkR_mem {d : DataW H} {l : List (DataW H)} (h : d ∈ l) : Rows.uptoBulk d ≤ Rows.uptoBulkAll l := by
  induction l with
  | nil => cases h
  | cons x r ih =>
    simp only [Rows.uptoBulkAll]
    cases h with
    | head => omega
    | tail _ h => have := ih h; omega
theorem bulk_slice {l r : List (DataW H)} {d : DataW H} (h : d ∈ l) : Rows.uptoBulk d ≤ Rows.uptoBulk (.slice l r) ∧ l.length ≤ Rows.uptoBulk (.slice l r) := by
  have h1 := bulkR_mem h
  have h2 := bulkR_length l
  simp only [Rows.uptoBulk]
  omega
theorem spot_none {w : World} {a : Addr} {v : Value} (h : w.cell? (a.add 0) = some v) : a.spot = none := by
  simpa [Addr.add] using World.cell?_spot h
set_option maxRecDepth 100000 in
theorem open_ats {t : TypeId} {n : Nat} {c : Value} {y : DataW H × List MemPlace} (ht : Try.prog.underlying t = some (.slice 38)) (hf : DataW.trod enc Try.prog W 0 (fun _ => true) true n t [c] = some y) :
    ∃ L : List RA, AtsAt W c L ∧ L.length ≤ Rows.uptoBulk y.1 ∧ ∀ a ∈ L, a.n.size ≤ Rows.uptoBulk y.1 ∧ a.v.size ≤ Rows.uptoBulk y.1 := by
  rcases open_fields ht Try.underlying38 (by kernel_rfl) (by kernel_rfl) hf with ⟨hcs, hx⟩ | ⟨a, len, cap, m, D, Pl, hcs, hb, hl, hm, hmm, hx, hi⟩
  · obtain rfl := List.cons.inj hcs |>.1
    exact ⟨[], AtsAt.nil W, Nat.zero_le _, fun a h => by cases h⟩
  · obtain rfl := List.cons.inj hcs |>.1
    have hmm : m = cap := by rw [hmm]; rfl
    subst hmm
    rw [hx]
    dsimp only
    have key : ∀ i, i < len → ∃ q : RA, (∃ g o, a = ⟨g, o, none⟩ ∧ W.cell? ⟨g, o + i * 3, none⟩ = some (.string q.n) ∧ W.cell? ⟨g, o + i * 3 + 1, none⟩ = some (.int .i64 q.r) ∧ W.cell? ⟨g, o + i * 3 + 2, none⟩ = some (.string q.v)) ∧ q.n.size ≤ Rows.uptoBulk (D i) ∧ q.v.size ≤ Rows.uptoBulk (D i) := by
      intro i hil
      obtain ⟨ys, n', hD, _, hyl, hj⟩ := hi i (by omega)
      obtain ⟨v0, y0, hc0, hy0, ht0⟩ := hj 0 _ rfl
      obtain ⟨v1, y1, hc1, hy1, ht1⟩ := hj 1 _ rfl
      obtain ⟨v2, y2, hc2, hy2, ht2⟩ := hj 2 _ rfl
      obtain ⟨s0, e0, rfl, w0⟩ := DataW.trod_string Try.underlying9 ht0
      obtain ⟨s1, e1, rfl, w1⟩ := DataW.trod_int Try.underlying3 ht1
      obtain ⟨s2, e2, rfl, w2⟩ := DataW.trod_string Try.underlying9 ht2
      obtain rfl := List.cons.inj e0 |>.1
      obtain rfl := List.cons.inj e1 |>.1
      obtain rfl := List.cons.inj e2 |>.1
      have hyl : ys.length = 3 := hyl
      match ys, hyl with
      | [z0, z1, z2], _ =>
        injection hy0 with hy0
        injection hy1 with hy1
        injection hy2 with hy2
        subst hy0 hy1 hy2
        obtain ⟨_, _, _, _, _, hj0⟩ := hi 0 (by omega)
        obtain ⟨_, _, hz0, _, _⟩ := hj0 0 _ rfl
        have hsp := spot_none (by simpa using hz0)
        obtain ⟨g, o, sp⟩ := a
        have hsp : sp = none := hsp
        subst hsp
        refine ⟨⟨s0, s1, s2⟩, ⟨g, o, rfl, ?_, ?_, ?_⟩, ?_, ?_⟩
        · rw [addN] at hc0; exact hc0
        · rw [addN] at hc1; exact hc1
        · rw [addN] at hc2; exact hc2
        · rw [hD]
          simp only [List.map_cons, List.map_nil, Rows.uptoBulk, Rows.uptoBulkAll]
          show s0.data.toList.length ≤ _
          omega
        · rw [hD]
          simp only [List.map_cons, List.map_nil, Rows.uptoBulk, Rows.uptoBulkAll]
          show s2.data.toList.length ≤ _
          omega
    obtain ⟨L, hL, hq⟩ := list_of len _ key
    have hmem : ∀ j, j < len → Rows.uptoBulk (D j) ≤ Rows.uptoBulk (DataW.slice ((List.range len).map D) ((List.range (m - len)).map fun j => D (len + j))) := fun j hj => (bulk_slice (List.mem_map.2 ⟨j, List.mem_range.2 hj, rfl⟩)).1
    refine ⟨L, ⟨some a, m, by rw [hL], by omega, fun j hj => ?_⟩, ?_, fun q hq2 => ?_⟩
    · obtain ⟨⟨g, o, k0, k1, k2, k3⟩, _⟩ := hq j hj
      exact ⟨g, o, by rw [k0], k1, k2, k3⟩
    · rw [hL]
      have := bulkR_length ((List.range len).map D)
      rw [List.length_map, List.length_range] at this
      simp only [Rows.uptoBulk]
      omega
    · obtain ⟨j, hj, rfl⟩ := List.mem_iff_getElem.1 hq2
      have h1 := (hq j hj).2
      have h2 := hmem j (by omega)
      omega
set_option maxRecDepth 100000 in
theorem open_prs {t : TypeId} {n : Nat} {c : Value} {y : DataW H × List MemPlace} (ht : Try.prog.underlying t = some (.slice 65)) (hf : DataW.trod enc Try.prog W 0 (fun _ => true) true n t [c] = some y) :
    ∃ L : List RP, PrsAt W c L ∧ L.length ≤ Rows.uptoBulk y.1 ∧ ∀ a ∈ L, a.n.size ≤ Rows.uptoBulk y.1 ∧ a.v.size ≤ Rows.uptoBulk y.1 := by
  rcases open_fields ht Try.underlying65 (by kernel_rfl) (by kernel_rfl) hf with ⟨hcs, hx⟩ | ⟨a, len, cap, m, D, Pl, hcs, hb, hl, hm, hmm, hx, hi⟩
  · obtain rfl := List.cons.inj hcs |>.1
    exact ⟨[], PrsAt.nil W, Nat.zero_le _, fun a h => by cases h⟩
  · obtain rfl := List.cons.inj hcs |>.1
    have hmm : m = cap := by rw [hmm]; rfl
    subst hmm
    rw [hx]
    dsimp only
    have key : ∀ i, i < len → ∃ q : RP, (∃ g o, a = ⟨g, o, none⟩ ∧ W.cell? ⟨g, o + i * 2, none⟩ = some (.string q.n) ∧ W.cell? ⟨g, o + i * 2 + 1, none⟩ = some (.string q.v)) ∧ q.n.size ≤ Rows.uptoBulk (D i) ∧ q.v.size ≤ Rows.uptoBulk (D i) := by
      intro i hil
      obtain ⟨ys, n', hD, _, hyl, hj⟩ := hi i (by omega)
      obtain ⟨v0, y0, hc0, hy0, ht0⟩ := hj 0 _ rfl
      obtain ⟨v2, y2, hc2, hy2, ht2⟩ := hj 1 _ rfl
      obtain ⟨s0, e0, rfl, w0⟩ := DataW.trod_string Try.underlying9 ht0
      obtain ⟨s2, e2, rfl, w2⟩ := DataW.trod_string Try.underlying9 ht2
      obtain rfl := List.cons.inj e0 |>.1
      obtain rfl := List.cons.inj e2 |>.1
      have hyl : ys.length = 2 := hyl
      match ys, hyl with
      | [z0, z2], _ =>
        injection hy0 with hy0
        injection hy2 with hy2
        subst hy0 hy2
        obtain ⟨_, _, _, _, _, hj0⟩ := hi 0 (by omega)
        obtain ⟨_, _, hz0, _, _⟩ := hj0 0 _ rfl
        have hsp := spot_none (by simpa using hz0)
        obtain ⟨g, o, sp⟩ := a
        have hsp : sp = none := hsp
        subst hsp
        refine ⟨⟨s0, s2⟩, ⟨g, o, rfl, ?_, ?_⟩, ?_, ?_⟩
        · rw [addN] at hc0; exact hc0
        · rw [addN] at hc2; exact hc2
        · rw [hD]
          simp only [List.map_cons, List.map_nil, Rows.uptoBulk, Rows.uptoBulkAll]
          show s0.data.toList.length ≤ _
          omega
        · rw [hD]
          simp only [List.map_cons, List.map_nil, Rows.uptoBulk, Rows.uptoBulkAll]
          show s2.data.toList.length ≤ _
          omega
    obtain ⟨L, hL, hq⟩ := list_of len _ key
    have hmem : ∀ j, j < len → Rows.uptoBulk (D j) ≤ Rows.uptoBulk (DataW.slice ((List.range len).map D) ((List.range (m - len)).map fun j => D (len + j))) := fun j hj => (bulk_slice (List.mem_map.2 ⟨j, List.mem_range.2 hj, rfl⟩)).1
    refine ⟨L, ⟨some a, m, by rw [hL], by omega, fun j hj => ?_⟩, ?_, fun q hq2 => ?_⟩
    · obtain ⟨⟨g, o, k0, k1, k3⟩, _⟩ := hq j hj
      exact ⟨g, o, by rw [k0], k1, k3⟩
    · rw [hL]
      have := bulkR_length ((List.range len).map D)
      rw [List.length_map, List.length_range] at this
      simp only [Rows.uptoBulk]
      omega
    · obtain ⟨j, hj, rfl⟩ := List.mem_iff_getElem.1 hq2
      have h1 := (hq j hj).2
      have h2 := hmem j (by omega)
      omega
set_option maxRecDepth 100000 in
theorem open_cls {n : Nat} {c : Value} {y : DataW H × List MemPlace} (hf : DataW.trod enc Try.prog W 0 (fun _ => true) true n 23 [c] = some y) :
    ∃ L : List (List RA), ClsAt W c L ∧ L.length ≤ Rows.uptoBulk y.1 ∧ ∀ l ∈ L, l.length ≤ Rows.uptoBulk y.1 ∧ ∀ a ∈ l, a.n.size ≤ Rows.uptoBulk y.1 ∧ a.v.size ≤ Rows.uptoBulk y.1 := by
  rcases open_slice Try.underlying23 hf with ⟨hcs, hx⟩ | ⟨a, len, cap, m, n', D, Pl, hcs, hb, hl, hm, hmm, hx, hi⟩
  · obtain rfl := List.cons.inj hcs |>.1
    exact ⟨[], ClsAt.nil W, Nat.zero_le _, fun a h => by cases h⟩
  · obtain rfl := List.cons.inj hcs |>.1
    have hmm : m = cap := by rw [hmm]; rfl
    subst hmm
    rw [hx]
    dsimp only
    have hone : Try.prog.cellsOf 54 = 1 := by kernel_rfl
    rw [hone] at hi
    have key : ∀ i, i < len → ∃ q : List RA, (∃ g o V, a = ⟨g, o, none⟩ ∧ W.cell? ⟨g, o + i, none⟩ = some V ∧ AtsAt W V q) ∧ q.length ≤ Rows.uptoBulk (D i) ∧ ∀ a ∈ q, a.n.size ≤ Rows.uptoBulk (D i) ∧ a.v.size ≤ Rows.uptoBulk (D i) := by
      intro i hil
      obtain ⟨cs', hc, ht'⟩ := hi i (by omega)
      rw [Nat.mul_one] at hc
      obtain ⟨V, rfl⟩ : ∃ V, cs' = [V] := by
        have := (World.cells?_some hc).2.1
        match cs', this with
        | [V], _ => exact ⟨V, rfl⟩
      have hcell := cell_of_cells?_one hc
      obtain ⟨q, hq1, hq2, hq3⟩ := open_ats Try.underlying54 ht'
      obtain ⟨cs0, hz, _⟩ := hi 0 (by omega)
      rw [Nat.zero_mul] at hz
      obtain ⟨V0, rfl⟩ : ∃ V, cs0 = [V] := by
        have := (World.cells?_some hz).2.1
        match cs0, this with
        | [V], _ => exact ⟨V, rfl⟩
      have hsp := spot_none (cell_of_cells?_one hz)
      obtain ⟨g, o, sp⟩ := a
      have hsp : sp = none := hsp
      subst hsp
      rw [addN] at hcell
      exact ⟨q, ⟨g, o, V, rfl, hcell, hq1⟩, hq2, hq3⟩
    obtain ⟨L, hL, hq⟩ := list_of len _ key
    have hmem : ∀ j, j < len → Rows.uptoBulk (D j) ≤ Rows.uptoBulk (DataW.slice ((List.range len).map D) ((List.range (m - len)).map fun j => D (len + j))) := fun j hj => (bulk_slice (List.mem_map.2 ⟨j, List.mem_range.2 hj, rfl⟩)).1
    refine ⟨L, ⟨some a, m, by rw [hL], by omega, fun j hj => ?_⟩, ?_, fun q hq2 => ?_⟩
    · obtain ⟨⟨g, o, V, k0, k1, k3⟩, _⟩ := hq j hj
      exact ⟨g, o, V, by rw [k0], k1, k3⟩
    · rw [hL]
      have := bulkR_length ((List.range len).map D)
      rw [List.length_map, List.length_range] at this
      simp only [Rows.uptoBulk]
      omega
    · obtain ⟨j, hj, rfl⟩ := List.mem_iff_getElem.1 hq2
      have h1 := (hq j hj).2
      have h2 := hmem j (by omega)
      exact ⟨by omega, fun a ha => by have := h1.2 a ha; omega⟩
/-- An atom by value. -/
theorem open_atom {v : Value} {d : DataW H} {p : List MemPlace} (h : DataW.Trod enc Try.prog W 0 (fun _ => true) true 38 v d p) (o : Value.okWide Try.prog W .any base 38 v) :
    ∃ a : RA, v = .agg #[.string a.n, .int .i64 a.r, .string a.v] ∧ a.n.size ≤ Rows.uptoBulk d ∧ a.v.size ≤ Rows.uptoBulk d := by
  obtain ⟨c0, c1, c2, y0, y1, y2, m, rfl, rfl, rfl, hy0, hy1, hy2⟩ := open_agg3 Try.underlying38 (by kernel_rfl) (by kernel_rfl) o h
  obtain ⟨s0, e0, rfl, w0⟩ := DataW.trod_string Try.underlying9 hy0
  obtain ⟨s1, e1, rfl, w1⟩ := DataW.trod_int Try.underlying3 hy1
  obtain ⟨s2, e2, rfl, w2⟩ := DataW.trod_string Try.underlying9 hy2
  obtain rfl := List.cons.inj e0 |>.1
  obtain rfl := List.cons.inj e1 |>.1
  obtain rfl := List.cons.inj e2 |>.1
  refine ⟨⟨s0, s1, s2⟩, rfl, ?_, ?_⟩
  · simp only [Rows.uptoBulk, Rows.uptoBulkAll]
    show s0.data.toList.length ≤ _
    omega
  · simp only [Rows.uptoBulk, Rows.uptoBulkAll]
    show s2.data.toList.length ≤ _
    omega
end
end Go.Proofs.Ytdchnllflodmkaa
