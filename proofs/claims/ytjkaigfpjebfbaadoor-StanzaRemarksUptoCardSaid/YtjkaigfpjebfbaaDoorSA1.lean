/- Arguments that are stanzas, opened. -/
import Derived.Test.YtjkaigfpjebfbaaDoorSt12
import Derived.Test.YtjkaigfpjebfbaaDoorB8
import Derived.Test.YtjkaigfpjebfbaaDoorRows
import Derived.Deep.Slices
import Derived.Deep.Fields
import Derived.ChangeSame
import Derived.ShutString
import Derived.ChangeOld
import Derived.Lib.SmallJoins
namespace Go.Proofs.YtjkaigfpjebfbaaDoor
open Go.ChangeShapes Go.WideShapes Go.ChangeAt Go.Deep Go.RowKit Go.Joins
set_option linter.unusedVariables false

section
variable {H : Type} {enc : TypeId × Value → H} {P : Program} {w : World} {base : Nat} {spare : Nat → Bool} {held : Bool}
theorem open_fields {t e : TypeId} {fs : Array Field} {fuel : Nat} {cs : List Value} {x : DataW H × List MemPlace} (ht : P.underlying t = some (.slice e)) (he : P.underlying e = some (.struct fs))
    (hone : oneCellFields P fs = true) (hC : P.cellsOf e = fs.size) (h : DataW.trod enc P w base spare held fuel t cs = some x) :
    (cs = [.slice none 0 0] ∧ x = (.nil, [])) ∨
    ∃ (a : Addr) (len cap m : Nat) (D : Nat → DataW H) (Pl : Nat → List MemPlace), cs = [.slice (some a) len cap] ∧ base ≤ a.block ∧ len ≤ cap ∧ cap ≤ maxLen ∧ m = (if spare a.block then cap else len) ∧
      x = (.slice ((List.range len).map D) ((List.range (m - len)).map fun j => D (len + j)), MemPlace.row a (m * fs.size) ++ (List.range m).flatMap Pl) ∧
      ∀ i, i < m → ∃ (ys : List (DataW H × List MemPlace)) (n : Nat), D i = .agg (ys.map (·.1)) ∧ Pl i = ys.flatMap (·.2) ∧ ys.length = fs.size ∧
        ∀ (j : Nat) (f : Field), fs[j]? = some f → ∃ (v : Value) (y : DataW H × List MemPlace), w.cell? (a.add (i * fs.size + j)) = some v ∧ ys[j]? = some y ∧ DataW.trod enc P w base spare held n f.type [v] = some y := by
  rcases open_slice ht h with h0 | ⟨a, len, cap, m, n, D, Pl, hcs, hb, hl, hm, hmm, hx, hi⟩
  · exact .inl h0
  · refine .inr ⟨a, len, cap, m, D, Pl, hcs, hb, hl, hm, hmm, by rw [hC] at hx; exact hx, fun i him => ?_⟩
    obtain ⟨cs', hc, ht'⟩ := hi i him
    rw [hC] at hc
    obtain ⟨ys, n', hn', hy, hlen, hyl, hf⟩ := DataW.trod_struct he ht'
    obtain ⟨_, hcl, hat⟩ := World.cells?_some hc
    simp only [Prod.mk.injEq] at hy
    refine ⟨ys, n', hy.1, hy.2, hyl, fun j f hj => ?_⟩
    obtain ⟨ho, hk⟩ := hone_of hone j f hj
    have hjl : j < fs.size := (Array.getElem?_eq_some_iff.1 hj).1
    have hcell := hat j hjl
    have hv : cs'[j]? = some (cs'[j]'(by omega)) := List.getElem?_eq_getElem (by omega)
    have h1 := hf j f hj
    rw [ho, hk] at h1
    have hone' : (cs'.drop j).take 1 = [cs'[j]'(by omega)] := by
      rw [List.drop_eq_getElem_cons (by omega)]
      rfl
    rw [hone'] at h1
    have hys : ys[j]? = some (ys[j]'(by omega)) := List.getElem?_eq_getElem (by omega)
    refine ⟨_, _, ?_, hys, h1.trans hys⟩
    rw [← Go.Deep.add_add, hcell, hv]
theorem list_of {α : Type} [Inhabited α] (n : Nat) (Q : Nat → α → Prop) (h : ∀ i, i < n → ∃ b, Q i b) : ∃ L : List α, L.length = n ∧ ∀ i (hi : i < L.length), Q i L[i] := by
  induction n with
  | zero => exact ⟨[], rfl, fun i hi => absurd hi (by simp)⟩
  | succ n ih =>
    obtain ⟨L, h1, h2⟩ := ih fun i hi => h i (by omega)
    obtain ⟨b, hb⟩ := h n (by omega)
    refine ⟨L ++ [b], by rw [List.length_append, h1]; rfl, fun i hi => ?_⟩
    rw [List.length_append, h1] at hi
    by_cases e : i < L.length
    · rw [List.getElem_append_left e]; exact h2 i e
    · have e2 : i = n := by simp at hi; omega
      subst e2
      rw [List.getElem_append_right (by omega)]
      simp [h1]
      exact hb
end
section
variable {H : Type} {enc : TypeId × Value → H} {W : World} {base : Nat}
theorem bulkR_one (d : DataW H) : 1 ≤ Rows.uptoBulk d := by
  cases d with
  | lit l => cases l <;> simp [Rows.uptoBulk]
  | _ => simp [Rows.uptoBulk]
theorem bulkR_length (l : List (DataW H)) : l.length ≤ Rows.uptoBulkAll l := by
  induction l with
  | nil => simp [Rows.uptoBulkAll]
  | cons x r ih => have := bulkR_one x; simp only [Rows.uptoBulkAll, List.length_cons]; omega
theorem bulkR_mem {d : DataW H} {l : List (DataW H)} (h : d ∈ l) : Rows.uptoBulk d ≤ Rows.uptoBulkAll l := by
  induction l with
  | nil => cases h
  | cons x r ih =>
    simp only [Rows.uptoBulkAll]
    cases h with
    | head => omega
    | tail _ h => have := ih h; omega
theorem bulk_slice {l r : List (DataW H)} {d : DataW H} (h : d ∈ l) : Rows.uptoBulk d ≤ Rows.uptoBulk (.slice l r) ∧ l.length ≤ Rows.uptoBulk (.slice l r) := by
  have h1 := bulkR_mem h
  have h2 := bulkR_length l
  simp only [Rows.uptoBulk]
  omega
theorem spot_none {w : World} {a : Addr} {v : Value} (h : w.cell? (a.add 0) = some v) : a.spot = none := by
  simpa [Addr.add] using World.cell?_spot h
end
theorem addN (b o j : Nat) : (⟨b, o, none⟩ : Addr).add j = ⟨b, o + j, none⟩ := by unfold Addr.add; split <;> simp_all
instance : Inhabited Fd := ⟨⟨⟨#[]⟩, []⟩⟩
instance : Inhabited St := ⟨⟨0, []⟩⟩
instance : Inhabited Value := ⟨.bool false⟩
/-- Pairs, side by side. -/
def flat2 : List (Value × Value) → List Value
  | [] => []
  | p :: r => p.1 :: p.2 :: flat2 r
theorem flat2_len : ∀ l, (flat2 l).length = l.length * 2
  | [] => rfl
  | p :: r => by
    show (flat2 r).length + 1 + 1 = _
    rw [flat2_len r, List.length_cons]
    omega
theorem flat2_get : ∀ (l : List (Value × Value)) (j : Nat) (u : Value), (flat2 l)[j]? = some u → ∃ i, ∃ h : i < l.length, (j = i * 2 ∧ u = l[i].1) ∨ (j = i * 2 + 1 ∧ u = l[i].2)
  | [], j, u, h => by cases h
  | p :: r, 0, u, h => ⟨0, by simp, .inl ⟨rfl, by injection h with h; exact h.symm⟩⟩
  | p :: r, 1, u, h => ⟨0, by simp, .inr ⟨rfl, by injection h with h; exact h.symm⟩⟩
  | p :: r, j + 2, u, h => by
    obtain ⟨i, hi, h2⟩ := flat2_get r j u h
    refine ⟨i + 1, by simpa using hi, ?_⟩
    rcases h2 with ⟨rfl, e⟩ | ⟨rfl, e⟩
    · exact .inl ⟨by omega, e⟩
    · exact .inr ⟨by omega, e⟩
theorem lsum_bulk {H : Type} : ∀ (L : List ByteArray) (Ds : List (DataW H)), L.length = Ds.length → (∀ j (h : j < L.length) (h' : j < Ds.length), L[j].size ≤ Rows.uptoBulk Ds[j]) → lsum L ≤ 2 * Rows.uptoBulkAll Ds
  | [], Ds, _, _ => by unfold lsum; exact Nat.zero_le _
  | s :: r, [], h, _ => by cases h
  | s :: r, d :: ds, h, hall => by
    have h1 := lsum_bulk r ds (by simpa using h) (fun j h1 h2 => hall (j + 1) (by simpa using h1) (by simpa using h2))
    have h2 : s.size ≤ Rows.uptoBulk d := hall 0 (by simp) (by simp)
    have h3 := bulkR_one d
    have e : lsum (s :: r) = (s.size + 1) + lsum r := by unfold lsum; rw [List.map_cons, List.sum_cons]
    rw [e]
    simp only [Rows.uptoBulkAll]
    omega
section
variable {H : Type} {enc : TypeId × Value → H} {W : World} {base : Nat}
set_option maxRecDepth 100000 in
theorem open_lines {t : TypeId} {n : Nat} {c : Value} {y : DataW H × List MemPlace} (ht : Tryd.prog.underlying t = some (.slice 9)) (hf : DataW.trod enc Tryd.prog W 0 (fun _ => true) true n t [c] = some y) :
    ∃ ls : List ByteArray, LV W (fun _ => True) c ls ∧ lsum ls ≤ 2 * Rows.uptoBulk y.1 := by
  rcases open_slice ht hf with ⟨hcs, hx⟩ | ⟨a, len, cap, m, n', D, Pl, hcs, hb, hl, hm, hmm, hx, hi⟩
  · obtain rfl := List.cons.inj hcs |>.1
    exact ⟨[], ⟨none, 0, rfl, Nat.le_refl _, rfl, fun h => absurd h (by simp)⟩, Nat.zero_le _⟩
  · obtain rfl := List.cons.inj hcs |>.1
    have hmm : m = cap := by rw [hmm]; rfl
    subst hmm
    rw [hx]
    dsimp only
    have hone : Tryd.prog.cellsOf 9 = 1 := by kernel_rfl
    rw [hone] at hi
    have key : ∀ i, i < len → ∃ s : ByteArray, (∃ g o, a = ⟨g, o, none⟩ ∧ W.cell? ⟨g, o + i, none⟩ = some (.string s)) ∧ s.size ≤ Rows.uptoBulk (D i) := by
      intro i hil
      obtain ⟨cs', hc, ht'⟩ := hi i (by omega)
      rw [Nat.mul_one] at hc
      obtain ⟨V, rfl⟩ : ∃ V, cs' = [V] := by
        have := (World.cells?_some hc).2.1
        match cs', this with
        | [V], _ => exact ⟨V, rfl⟩
      have hcell := cell_of_cells?_one hc
      obtain ⟨s0, e0, hD, w0⟩ := DataW.trod_string Tryd.underlying9 ht'
      obtain rfl := List.cons.inj e0 |>.1
      obtain ⟨cs0, hz, _⟩ := hi 0 (by omega)
      rw [Nat.zero_mul] at hz
      obtain ⟨V0, rfl⟩ : ∃ V, cs0 = [V] := by
        have := (World.cells?_some hz).2.1
        match cs0, this with
        | [V], _ => exact ⟨V, rfl⟩
      have hsp := spot_none (cell_of_cells?_one hz)
      obtain ⟨g, o, sp⟩ := a
      have hsp : sp = none := hsp
      subst hsp
      rw [addN] at hcell
      refine ⟨s0, ⟨g, o, rfl, hcell⟩, ?_⟩
      have hD := congrArg Prod.fst hD
      simp only at hD
      rw [hD]
      simp only [Rows.uptoBulk]
      show s0.data.toList.length ≤ _
      omega
    obtain ⟨L, hL, hq⟩ := list_of len _ key
    refine ⟨L, ⟨some a, m, by rw [hL], by omega, by rw [List.length_map, Nat.mul_one], fun h0 => ?_⟩, ?_⟩
    · obtain ⟨⟨g, o, e, hc0⟩, _⟩ := hq 0 h0
      refine ⟨g, o, by rw [e], World.block_lt_of_cell? W _ hc0, trivial, fun j u hj => ?_⟩
      rw [List.getElem?_map] at hj
      cases hg : L[j]? with
      | none => rw [hg] at hj; cases hj
      | some s =>
        rw [hg] at hj
        injection hj with hj
        obtain ⟨hjl, hs⟩ := List.getElem?_eq_some_iff.1 hg
        obtain ⟨⟨g', o', e', hc'⟩, _⟩ := hq j hjl
        rw [e] at e'
        injection e' with e1 e2
        subst e1 e2
        rw [← hj, ← hs]
        exact hc'
    · have h1 := lsum_bulk L ((List.range len).map D) (by rw [hL]; simp) (fun j h1 h2 => by
        have := (hq j h1).2
        simpa using this)
      simp only [Rows.uptoBulk]
      omega
/-- Fields that are small. -/
def FdOk (B : Nat) (fs : List Fd) : Prop := fs.length ≤ B ∧ ∀ f ∈ fs, f.n.size ≤ B ∧ lsum f.ls ≤ 2 * B
theorem FdOk.mono {B B' : Nat} (h : B ≤ B') {fs : List Fd} (hf : FdOk B fs) : FdOk B' fs := ⟨Nat.le_trans hf.1 h, fun f hm => ⟨Nat.le_trans (hf.2 f hm).1 h, by have := (hf.2 f hm).2; omega⟩⟩
theorem FV.of_flat {w : World} {G : Nat → Prop} : ∀ (l : List (Fd × Value)), (∀ q ∈ l, LV w G q.2 q.1.ls) → FV w G (flat2 (l.map fun q => (.string q.1.n, q.2))) (l.map (·.1))
  | [], _ => rfl
  | q :: r, h => ⟨q.2, _, rfl, h q (List.mem_cons_self ..), FV.of_flat r (fun u hu => h u (List.mem_cons_of_mem _ hu))⟩
set_option maxRecDepth 100000 in
theorem open_fds {t : TypeId} {n : Nat} {c : Value} {y : DataW H × List MemPlace} (ht : Tryd.prog.underlying t = some (.slice 40)) (hf : DataW.trod enc Tryd.prog W 0 (fun _ => true) true n t [c] = some y) :
    ∃ (A : Option Addr) (cp : Nat) (fx : List Value) (fs : List Fd), c = .slice A fs.length cp ∧ fs.length ≤ cp ∧ RowG W (fun _ => True) 2 A fs.length fx ∧ FV W (fun _ => True) fx fs ∧ FdOk (Rows.uptoBulk y.1) fs := by
  rcases open_fields ht Tryd.underlying40 (by kernel_rfl) (by kernel_rfl) hf with ⟨hcs, hx⟩ | ⟨a, len, cap, m, D, Pl, hcs, hb, hl, hm, hmm, hx, hi⟩
  · obtain rfl := List.cons.inj hcs |>.1
    exact ⟨none, 0, [], [], rfl, Nat.le_refl _, ⟨rfl, fun h => absurd h (by simp)⟩, rfl, Nat.zero_le _, fun f hf => by cases hf⟩
  · obtain rfl := List.cons.inj hcs |>.1
    have hmm : m = cap := by rw [hmm]; rfl
    subst hmm
    rw [hx]
    dsimp only
    have key : ∀ i, i < len → ∃ q : Fd × Value, (∃ g o, a = ⟨g, o, none⟩ ∧ W.cell? ⟨g, o + i * 2, none⟩ = some (.string q.1.n) ∧ W.cell? ⟨g, o + i * 2 + 1, none⟩ = some q.2) ∧ LV W (fun _ => True) q.2 q.1.ls ∧ q.1.n.size ≤ Rows.uptoBulk (D i) ∧ lsum q.1.ls ≤ 2 * Rows.uptoBulk (D i) := by
      intro i hil
      obtain ⟨ys, n', hD, _, hyl, hj⟩ := hi i (by omega)
      obtain ⟨v0, y0, hc0, hy0, ht0⟩ := hj 0 _ rfl
      obtain ⟨v1, y1, hc1, hy1, ht1⟩ := hj 1 _ rfl
      obtain ⟨s0, e0, rfl, w0⟩ := DataW.trod_string Tryd.underlying9 ht0
      obtain rfl := List.cons.inj e0 |>.1
      obtain ⟨ls, hlv, hls⟩ := open_lines Tryd.underlying38 ht1
      have hyl : ys.length = 2 := hyl
      match ys, hyl with
      | [z0, z1], _ =>
        injection hy0 with hy0
        injection hy1 with hy1
        subst hy0 hy1
        obtain ⟨_, _, _, _, _, hj0⟩ := hi 0 (by omega)
        obtain ⟨_, _, hz0, _, _⟩ := hj0 0 _ rfl
        have hsp := spot_none (by simpa using hz0)
        obtain ⟨g, o, sp⟩ := a
        have hsp : sp = none := hsp
        subst hsp
        refine ⟨⟨⟨s0, ls⟩, v1⟩, ⟨g, o, rfl, ?_, ?_⟩, hlv, ?_, ?_⟩
        · rw [addN] at hc0; exact hc0
        · rw [addN] at hc1; exact hc1
        · rw [hD]
          simp only [List.map_cons, List.map_nil, Rows.uptoBulk, Rows.uptoBulkAll]
          show s0.data.toList.length ≤ _
          omega
        · rw [hD]
          simp only [List.map_cons, List.map_nil, Rows.uptoBulk, Rows.uptoBulkAll]
          show lsum ls ≤ _
          omega
    obtain ⟨L, hL, hq⟩ := list_of len _ key
    have hmem : ∀ j, j < len → Rows.uptoBulk (D j) ≤ Rows.uptoBulk (DataW.slice ((List.range len).map D) ((List.range (m - len)).map fun j => D (len + j))) := fun j hj => (bulk_slice (List.mem_map.2 ⟨j, List.mem_range.2 hj, rfl⟩)).1
    have hll : (L.map (·.1)).length = len := by rw [List.length_map, hL]
    refine ⟨some a, m, flat2 (L.map fun q => (.string q.1.n, q.2)), L.map (·.1), by rw [hll], by rw [hll]; omega, ⟨by rw [flat2_len, List.length_map, hll, hL], fun h0 => ?_⟩, FV.of_flat L (fun q hq2 => ?_), ?_, fun f hf2 => ?_⟩
    · rw [hll] at h0
      obtain ⟨⟨g, o, e, hc0, _⟩, _⟩ := hq 0 (by omega)
      refine ⟨g, o, by rw [e], World.block_lt_of_cell? W _ hc0, trivial, fun j u hj => ?_⟩
      obtain ⟨i, hi2, h2⟩ := flat2_get _ _ _ hj
      rw [List.length_map] at hi2
      obtain ⟨⟨g', o', e', k0, k1⟩, _⟩ := hq i hi2
      rw [e] at e'
      injection e' with e1 e2
      subst e1 e2
      rcases h2 with ⟨rfl, rfl⟩ | ⟨rfl, rfl⟩
      · rw [List.getElem_map]; exact k0
      · rw [List.getElem_map]; exact k1
    · obtain ⟨j, hj, rfl⟩ := List.mem_iff_getElem.1 hq2
      exact (hq j hj).2.1
    · rw [hll]
      have := bulkR_length ((List.range len).map D)
      rw [List.length_map, List.length_range] at this
      simp only [Rows.uptoBulk]
      omega
    · obtain ⟨q, hq2, rfl⟩ := List.mem_map.1 hf2
      obtain ⟨j, hj, rfl⟩ := List.mem_iff_getElem.1 hq2
      have h1 := (hq j hj).2.2
      have h2 := hmem j (by omega)
      omega
set_option maxRecDepth 100000 in
/-- A stanza by value. -/
theorem open_st {v : Value} {d : DataW H} {p : List MemPlace} (h : DataW.Trod enc Tryd.prog W 0 (fun _ => true) true 34 v d p) (o : Value.okWide Tryd.prog W .any base 34 v) :
    ∃ (ln : Int) (A : Option Addr) (cp : Nat) (fx : List Value) (fs : List Fd), v = .agg #[.int .i64 ln, .slice A fs.length cp] ∧ fs.length ≤ cp ∧ RowG W (fun _ => True) 2 A fs.length fx ∧ FV W (fun _ => True) fx fs ∧ FdOk (Rows.uptoBulk d) fs := by
  obtain ⟨c0, c1, y0, y1, m, rfl, rfl, rfl, hy0, hy1⟩ := open_agg2 Tryd.underlying34 (by kernel_rfl) (by kernel_rfl) o h
  obtain ⟨s0, e0, rfl, w0⟩ := DataW.trod_int Tryd.underlying3 hy0
  obtain rfl := List.cons.inj e0 |>.1
  obtain ⟨A, cp, fx, fs, rfl, h1, h2, h3, h4⟩ := open_fds Tryd.underlying32 hy1
  refine ⟨s0, A, cp, fx, fs, rfl, h1, h2, h3, h4.mono ?_⟩
  simp only [Rows.uptoBulk, Rows.uptoBulkAll]
  omega
/-- A row of stanzas that are small. -/
def StOk (B : Nat) (L : List St) : Prop := L.length ≤ B ∧ ∀ s ∈ L, FdOk B s.fs
theorem SV.of_flat {w : World} {G : Nat → Prop} : ∀ (l : List (St × Value)), (∀ q ∈ l, ∃ A c fx, q.2 = .slice A q.1.fs.length c ∧ q.1.fs.length ≤ c ∧ RowG w G 2 A q.1.fs.length fx ∧ FV w G fx q.1.fs) → SV w G (flat2 (l.map fun q => (.int .i64 q.1.line, q.2))) (l.map (·.1))
  | [], _ => rfl
  | q :: r, h => by
    obtain ⟨A, c, fx, e, h1, h2, h3⟩ := h q (List.mem_cons_self ..)
    exact ⟨A, c, fx, _, by rw [List.map_cons]; show _ :: q.2 :: _ = _; rw [e], h1, h2, h3, SV.of_flat r (fun u hu => h u (List.mem_cons_of_mem _ hu))⟩
set_option maxRecDepth 100000 in
theorem open_stz {v : Value} {d : DataW H} {p : List MemPlace} (h : DataW.Trod enc Tryd.prog W 0 (fun _ => true) true 23 v d p) (o : Value.okWide Tryd.prog W .any base 23 v) :
    ∃ L : List St, StzAt W v L ∧ StOk (Rows.uptoBulk d) L := by
  obtain ⟨a0, len0, cap0, rfl⟩ := okWide_slice Tryd.underlying23 o
  clear o
  obtain ⟨fuel, hf⟩ := h
  rcases open_fields Tryd.underlying23 Tryd.underlying34 (by kernel_rfl) (by kernel_rfl) hf with ⟨hcs, hx⟩ | ⟨a, len, cap, m, D, Pl, hcs, hb, hl, hm, hmm, hx, hi⟩
  · simp [Value.cells] at hcs
    obtain ⟨rfl, rfl, rfl⟩ := hcs
    exact ⟨[], StzAt.nil W, Nat.zero_le _, fun s hs => by cases hs⟩
  · simp [Value.cells] at hcs
    obtain ⟨rfl, rfl, rfl⟩ := hcs
    have hmm : m = cap0 := by rw [hmm]; rfl
    subst hmm
    injection hx with hx1 hx2
    subst hx1
    have key : ∀ i, i < len0 → ∃ q : St × Value, (∃ g o, a = ⟨g, o, none⟩ ∧ W.cell? ⟨g, o + i * 2, none⟩ = some (.int .i64 q.1.line) ∧ W.cell? ⟨g, o + i * 2 + 1, none⟩ = some q.2) ∧ (∃ A c fx, q.2 = .slice A q.1.fs.length c ∧ q.1.fs.length ≤ c ∧ RowG W (fun _ => True) 2 A q.1.fs.length fx ∧ FV W (fun _ => True) fx q.1.fs) ∧ FdOk (Rows.uptoBulk (D i)) q.1.fs := by
      intro i hil
      obtain ⟨ys, n', hD, _, hyl, hj⟩ := hi i (by omega)
      obtain ⟨v0, y0, hc0, hy0, ht0⟩ := hj 0 _ rfl
      obtain ⟨v1, y1, hc1, hy1, ht1⟩ := hj 1 _ rfl
      obtain ⟨s0, e0, rfl, w0⟩ := DataW.trod_int Tryd.underlying3 ht0
      obtain rfl := List.cons.inj e0 |>.1
      obtain ⟨FA, fc, fx, fs, rfl, h1, h2, h3, h4⟩ := open_fds Tryd.underlying32 ht1
      have hyl : ys.length = 2 := hyl
      match ys, hyl with
      | [z0, z1], _ =>
        injection hy0 with hy0
        injection hy1 with hy1
        subst hy0 hy1
        obtain ⟨_, _, _, _, _, hj0⟩ := hi 0 (by omega)
        obtain ⟨_, _, hz0, _, _⟩ := hj0 0 _ rfl
        have hsp := spot_none (by simpa using hz0)
        obtain ⟨g, o, sp⟩ := a
        have hsp : sp = none := hsp
        subst hsp
        refine ⟨⟨⟨s0, fs⟩, .slice FA fs.length fc⟩, ⟨g, o, rfl, ?_, ?_⟩, ⟨FA, fc, fx, rfl, h1, h2, h3⟩, ?_⟩
        · rw [addN] at hc0; exact hc0
        · rw [addN] at hc1; exact hc1
        · rw [hD]
          refine h4.mono ?_
          simp only [List.map_cons, List.map_nil, Rows.uptoBulk, Rows.uptoBulkAll]
          omega
    obtain ⟨L, hL, hq⟩ := list_of len0 _ key
    have hmem : ∀ j, j < len0 → Rows.uptoBulk (D j) ≤ Rows.uptoBulk (DataW.slice ((List.range len0).map D) ((List.range (m - len0)).map fun j => D (len0 + j))) := fun j hj => (bulk_slice (List.mem_map.2 ⟨j, List.mem_range.2 hj, rfl⟩)).1
    have hll : (L.map (·.1)).length = len0 := by rw [List.length_map, hL]
    refine ⟨L.map (·.1), ⟨fun _ => True, some a, m, flat2 (L.map fun q => (.int .i64 q.1.line, q.2)), by rw [hll], by rw [hll]; omega, ⟨by rw [flat2_len, List.length_map, hll, hL], fun h0 => ?_⟩, SV.of_flat L (fun q hq2 => ?_)⟩, ?_, fun f hf2 => ?_⟩
    · rw [hll] at h0
      obtain ⟨⟨g, o, e, hc0, _⟩, _⟩ := hq 0 (by omega)
      refine ⟨g, o, by rw [e], World.block_lt_of_cell? W _ hc0, trivial, fun j u hj => ?_⟩
      obtain ⟨i, hi2, h2⟩ := flat2_get _ _ _ hj
      rw [List.length_map] at hi2
      obtain ⟨⟨g', o', e', k0, k1⟩, _⟩ := hq i hi2
      rw [e] at e'
      injection e' with e1 e2
      subst e1 e2
      rcases h2 with ⟨rfl, rfl⟩ | ⟨rfl, rfl⟩
      · rw [List.getElem_map]; exact k0
      · rw [List.getElem_map]; exact k1
    · obtain ⟨j, hj, rfl⟩ := List.mem_iff_getElem.1 hq2
      exact (hq j hj).2.1
    · rw [hll]
      have := bulkR_length ((List.range len0).map D)
      rw [List.length_map, List.length_range] at this
      simp only [Rows.uptoBulk]
      omega
    · obtain ⟨q, hq2, rfl⟩ := List.mem_map.1 hf2
      obtain ⟨j, hj, rfl⟩ := List.mem_iff_getElem.1 hq2
      exact (hq j hj).2.2.mono (hmem j (by omega))
end
end Go.Proofs.YtjkaigfpjebfbaaDoor
