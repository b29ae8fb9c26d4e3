/- A slice of calls (chandlerlaw2.Call), as it came in. -/
import Derived.Test.YtiiegimnnngnnaaSector
import Derived.Test.YtiiegimnnngnnaaOpen
import Derived.Deep.Slices
import Derived.Deep.Fields
import Derived.ChangeSame
namespace Go.Proofs.Ytiiegimnnngnnaa
open Go.RowKit
set_option linter.unusedVariables false

structure CallD where
  Do : Int
  I : Int
  B : Nat
  sh : Bool
  A : Option Addr
  n : Nat
  c : Nat
  bs : List Nat
def CallD.cells (c : CallD) : List Value := [.int .i64 c.Do, .int .i64 c.I, .int .u8 (c.B : Int), .bool c.sh, .slice c.A c.n c.c]
structure CallD.Ok (w : World) (c : CallD) : Prop where
  Do : -9223372036854775808 ≤ c.Do ∧ c.Do ≤ 9223372036854775807
  I : -9223372036854775808 ≤ c.I ∧ c.I ≤ 9223372036854775807
  B : c.B < 256
  bytes : Bytes w c.A c.n c.bs
  nc : c.n ≤ c.c
  cap : c.c ≤ maxLen
theorem CallD.Ok.below {w w' : World} {c : CallD} (h : c.Ok w) (hb : Below w.heap.size w w') : c.Ok w' := ⟨h.Do, h.I, h.B, h.bytes.below hb, h.nc, h.cap⟩
/-- The slice at A, of n calls, reads as cs. -/
def CallsAt (w : World) (A : Option Addr) (n : Nat) (cs : List CallD) : Prop :=
  cs.length = n ∧ (∀ c ∈ cs, c.Ok w) ∧ (0 < n → ∃ b o, A = some ⟨b, o, none⟩ ∧ b < w.heap.size ∧ ∀ k c, cs[k]? = some c → ∀ j v, c.cells[j]? = some v → w.cell? ⟨b, o + k * 5 + j, none⟩ = some v)
theorem CallsAt.nil (w : World) : CallsAt w none 0 [] := ⟨rfl, by simp, fun h => absurd h (by omega)⟩
theorem CallsAt.below {w w' : World} {A : Option Addr} {n : Nat} {cs : List CallD} (h : CallsAt w A n cs) (hb : Below w.heap.size w w') : CallsAt w' A n cs :=
  ⟨h.1, fun c hc => (h.2.1 c hc).below hb, fun hn => by
    obtain ⟨b, o, e, hl, hc⟩ := h.2.2 hn
    exact ⟨b, o, e, Nat.lt_of_lt_of_le hl hb.size, fun k c hk j v hj => (hb.cell (p := ⟨b, o + k * 5 + j, none⟩) hl).trans (hc k c hk j v hj)⟩⟩
theorem CallsAt.at_ {w : World} {A : Option Addr} {n : Nat} {cs : List CallD} (h : CallsAt w A n cs) {k : Nat} (hk : k < n) : ∃ c b o, cs[k]? = some c ∧ c.Ok w ∧ A = some ⟨b, o, none⟩ ∧ b < w.heap.size ∧
    w.cell? ⟨b, o + k * 5, none⟩ = some (.int .i64 c.Do) ∧ w.cell? ⟨b, o + k * 5 + 1, none⟩ = some (.int .i64 c.I) ∧ w.cell? ⟨b, o + k * 5 + 2, none⟩ = some (.int .u8 (c.B : Int)) ∧ w.cell? ⟨b, o + k * 5 + 3, none⟩ = some (.bool c.sh) ∧ w.cell? ⟨b, o + k * 5 + 4, none⟩ = some (.slice c.A c.n c.c) := by
  obtain ⟨hl, hok, hc⟩ := h
  obtain ⟨b, o, e, hb, hcell⟩ := hc (by omega)
  have hk' : cs[k]? = some (cs[k]'(by omega)) := List.getElem?_eq_getElem (by omega)
  have := hcell k _ hk'
  exact ⟨_, b, o, hk', hok _ (List.getElem_mem _), e, hb, this 0 _ rfl, this 1 _ rfl, this 2 _ rfl, this 3 _ rfl, this 4 _ rfl⟩

def five (W : World) (b q : Nat) (v0 v1 v2 v3 v4 : Value) : Prop := W.cell? ⟨b, q, none⟩ = some v0 ∧ W.cell? ⟨b, q + 1, none⟩ = some v1 ∧ W.cell? ⟨b, q + 2, none⟩ = some v2 ∧ W.cell? ⟨b, q + 3, none⟩ = some v3 ∧ W.cell? ⟨b, q + 4, none⟩ = some v4
theorem five_below {w W : World} {b q B : Nat} {v0 v1 v2 v3 v4 : Value} (h : five w b q v0 v1 v2 v3 v4) (hb : b < B) (hbel : Below B w W) : five W b q v0 v1 v2 v3 v4 :=
  ⟨(hbel.cell hb).trans h.1, (hbel.cell hb).trans h.2.1, (hbel.cell hb).trans h.2.2.1, (hbel.cell hb).trans h.2.2.2.1, (hbel.cell hb).trans h.2.2.2.2⟩
section
open Go.ChangeShapes Go.WideShapes Go.Deep
variable {H : Type} {enc : TypeId × Value → H} {P : Program} {w : World} {base : Nat} {spare : Nat → Bool} {held : Bool}
theorem open_slice_fields {t e : TypeId} {fs : Array Field} {fuel : Nat} {cs : List Value} {x : DataW H × List MemPlace} (ht : P.underlying t = some (.slice e)) (he : P.underlying e = some (.struct fs))
    (hone : oneCellFields P fs = true) (hC : P.cellsOf e = fs.size) (h : DataW.trod enc P w base spare held fuel t cs = some x) :
    (cs = [.slice none 0 0] ∧ x = (.nil, [])) ∨
    ∃ (a : Addr) (len cap m : Nat) (D : Nat → DataW H) (Pl : Nat → List MemPlace), cs = [.slice (some a) len cap] ∧ base ≤ a.block ∧ len ≤ cap ∧ cap ≤ maxLen ∧ m = (if spare a.block then cap else len) ∧
      x = (.slice ((List.range len).map D) ((List.range (m - len)).map fun j => D (len + j)), MemPlace.row a (m * fs.size) ++ (List.range m).flatMap Pl) ∧
      ∀ i, i < m → ∃ (ys : List (DataW H × List MemPlace)) (n : Nat), D i = .agg (ys.map (·.1)) ∧ Pl i = ys.flatMap (·.2) ∧ ys.length = fs.size ∧
        ∀ (j : Nat) (f : Field), fs[j]? = some f → ∃ (v : Value) (y : DataW H × List MemPlace), w.cell? (a.add (i * fs.size + j)) = some v ∧ ys[j]? = some y ∧ DataW.trod enc P w base spare held n f.type [v] = some y := by
  rcases open_slice ht h with h0 | ⟨a, len, cap, m, n, D, Pl, hcs, hb, hl, hm, hmm, hx, hi⟩
  · exact .inl h0
  · refine .inr ⟨a, len, cap, m, D, Pl, hcs, hb, hl, hm, hmm, by rw [hC] at hx; exact hx, fun i him => ?_⟩
    obtain ⟨cs', hc, ht'⟩ := hi i him
    rw [hC] at hc
    obtain ⟨ys, n', hn', hy, hlen, hyl, hf⟩ := DataW.trod_struct he ht'
    obtain ⟨_, hcl, hat⟩ := World.cells?_some hc
    simp only [Prod.mk.injEq] at hy
    refine ⟨ys, n', hy.1, hy.2, hyl, fun j f hj => ?_⟩
    obtain ⟨ho, hk⟩ := hone_of hone j f hj
    have hjl : j < fs.size := (Array.getElem?_eq_some_iff.1 hj).1
    have hcell := hat j hjl
    have hv : cs'[j]? = some (cs'[j]'(by omega)) := List.getElem?_eq_getElem (by omega)
    have h1 := hf j f hj
    rw [ho, hk] at h1
    have hone' : (cs'.drop j).take 1 = [cs'[j]'(by omega)] := by
      rw [List.drop_eq_getElem_cons (by omega)]
      rfl
    rw [hone'] at h1
    have hys : ys[j]? = some (ys[j]'(by omega)) := List.getElem?_eq_getElem (by omega)
    refine ⟨_, _, ?_, hys, h1.trans hys⟩
    rw [← Go.Deep.add_add, hcell, hv]
end

section
open Go.ChangeShapes Go.WideShapes Go.ChangeAt Go.Deep
variable {H : Type} {enc : TypeId × Value → H} {W : World} {base : Nat}
theorem cell_int {k : IntKind} {t : TypeId} {fuel : Nat} {v : Value} {y : DataW H × List MemPlace} (hu : Try.prog.underlying t = some (.int k)) (h : DataW.trod enc Try.prog W 0 (fun _ => true) true fuel t [v] = some y) : ∃ n, v = .int k n ∧ (Lit.int k n).wf = true := by
  obtain ⟨n, hn, _, hw⟩ := DataW.trod_int hu h
  exact ⟨n, by simpa using hn, hw⟩
theorem cell_bool {t : TypeId} {fuel : Nat} {v : Value} {y : DataW H × List MemPlace} (hu : Try.prog.underlying t = some .bool) (h : DataW.trod enc Try.prog W 0 (fun _ => true) true fuel t [v] = some y) : ∃ b, v = .bool b := by
  obtain ⟨n, hn, _⟩ := DataW.trod_bool hu h
  exact ⟨n, by simpa using hn⟩
theorem cell_bytes {fuel : Nat} {v : Value} {y : DataW H × List MemPlace} (h : DataW.trod enc Try.prog W 0 (fun _ => true) true fuel 22 [v] = some y) :
    ∃ A n cp bs, v = .slice A n cp ∧ Bytes W A n bs ∧ n ≤ cp ∧ cp ≤ maxLen := by
  have hv : ∃ a0 l0 c0, v = .slice a0 l0 c0 := by
    rcases open_ints Try.underlying22 Try.underlying5 (by kernel_rfl) h with ⟨hcs, _⟩ | ⟨x, l, c, zs, hcs, _⟩
    · exact ⟨none, 0, 0, by simpa using hcs⟩
    · exact ⟨some x, l, c, by simpa using hcs⟩
  obtain ⟨a0, l0, c0, rfl⟩ := hv
  rcases open_ints Try.underlying22 Try.underlying5 (by kernel_rfl) h with ⟨hcs, hx⟩ | ⟨x, l, c, zs, hcs, _, hl, hm, hz, hx, hcell, hwz⟩
  · simp at hcs
    obtain ⟨rfl, rfl, rfl⟩ := hcs
    exact ⟨none, 0, 0, [], rfl, Bytes.nil W, Nat.le_refl _, Nat.zero_le _⟩
  · simp at hcs
    obtain ⟨rfl, rfl, rfl⟩ := hcs
    have hzl : zs.length = c0 := by simpa using hz
    have hr : ∀ n ∈ zs, 0 ≤ n ∧ n ≤ 255 := fun n hn => by
      have := hwz n hn
      simpa [Lit.wf, IntKind.min, IntKind.max, IntKind.signed, IntKind.bits] using this
    refine ⟨_, l0, c0, (zs.take l0).map Int.toNat, rfl, ⟨by simp; omega, ?_, fun h0 => ?_⟩, hl, hm⟩
    · intro y hy
      obtain ⟨z, hz1, rfl⟩ := List.mem_map.1 hy
      have := hr z (List.mem_of_mem_take hz1)
      omega
    · obtain ⟨b, off, spot⟩ := x
      have hc0 := hcell 0 (by omega)
      have hspot : spot = none := by simpa [Addr.add] using World.cell?_spot hc0
      subst hspot
      refine ⟨b, off, rfl, lt_of_cell (by simpa [Addr.add] using hc0), fun k hk => ?_⟩
      have hck := hcell k (by omega)
      have hkz : k < zs.length := by omega
      have e1 : zs.getD k 0 = zs[k] := by simp [List.getD, hkz]
      have e2 : (((zs.take l0).map Int.toNat).getD k 0 : Nat) = (zs[k]).toNat := by simp [List.getD, hk, hkz]
      have := hr zs[k] (List.getElem_mem hkz)
      rw [add_none] at hck
      rw [e2, Int.toNat_of_nonneg this.1, ← e1, ← hck]
theorem open_calls {v : Value} {d : DataW H} {p : List MemPlace} (h : DataW.Trod enc Try.prog W 0 (fun _ => true) true 43 v d p) (o : Value.okWide Try.prog W .any base 43 v) :
    ∃ A n cp cs, v = .slice A n cp ∧ CallsAt W A n cs ∧ n ≤ maxLen := by
  obtain ⟨a0, len0, cap0, rfl⟩ := okWide_slice Try.underlying43 o
  obtain ⟨fuel, hf⟩ := h
  rcases open_slice_fields Try.underlying43 Try.underlying45 (by kernel_rfl) (by kernel_rfl) hf with ⟨hcs, hx⟩ | ⟨a, len, cap, m, D, Pl, hcs, _, hl, hm, hmm, hx, hi⟩
  · simp [Value.cells] at hcs
    obtain ⟨rfl, rfl, rfl⟩ := hcs
    exact ⟨none, 0, 0, [], rfl, CallsAt.nil W, Nat.zero_le _⟩
  · simp [Value.cells] at hcs
    obtain ⟨rfl, rfl, rfl⟩ := hcs
    have hlm : len0 ≤ m := by rw [hmm]; simp; omega
    have hone : ∀ i, i < m → ∃ c : CallD, c.Ok W ∧ ∀ j v, c.cells[j]? = some v → W.cell? (a.add (i * 5 + j)) = some v := by
      intro i him
      obtain ⟨ys, n, _, _, _, hf⟩ := hi i him
      obtain ⟨v0, y0, hc0, _, t0⟩ := hf 0 _ rfl
      obtain ⟨v1, y1, hc1, _, t1⟩ := hf 1 _ rfl
      obtain ⟨v2, y2, hc2, _, t2⟩ := hf 2 _ rfl
      obtain ⟨v3, y3, hc3, _, t3⟩ := hf 3 _ rfl
      obtain ⟨v4, y4, hc4, _, t4⟩ := hf 4 _ rfl
      obtain ⟨n0, rfl, w0⟩ := cell_int Try.underlying3 t0
      obtain ⟨n1, rfl, w1⟩ := cell_int Try.underlying3 t1
      obtain ⟨n2, rfl, w2⟩ := cell_int Try.underlying5 t2
      obtain ⟨b3, rfl⟩ := cell_bool Try.underlying4 t3
      obtain ⟨A4, l4, c4, bs, rfl, hb4, hl4, hm4⟩ := cell_bytes t4
      have r2 : 0 ≤ n2 ∧ n2 ≤ 255 := by simpa [Lit.wf, IntKind.min, IntKind.max, IntKind.signed, IntKind.bits] using w2
      refine ⟨⟨n0, n1, n2.toNat, b3, A4, l4, c4, bs⟩, ⟨?_, ?_, ?_, hb4, hl4, hm4⟩, ?_⟩
      · simpa [Lit.wf, IntKind.min, IntKind.max, IntKind.signed, IntKind.bits] using w0
      · simpa [Lit.wf, IntKind.min, IntKind.max, IntKind.signed, IntKind.bits] using w1
      · show n2.toNat < 256; omega
      · intro j v hv
        match j, hv with
        | 0, hv => cases hv; exact hc0
        | 1, hv => cases hv; exact hc1
        | 2, hv =>
          cases hv
          show W.cell? _ = some (.int .u8 ((n2.toNat : Nat) : Int))
          rw [Int.toNat_of_nonneg r2.1]
          exact hc2
        | 3, hv => cases hv; exact hc3
        | 4, hv => cases hv; exact hc4
        | j + 5, hv => simp [CallD.cells] at hv
    have hch : ∃ f : Nat → CallD, ∀ i, i < m → (f i).Ok W ∧ ∀ j v, (f i).cells[j]? = some v → W.cell? (a.add (i * 5 + j)) = some v := by
      refine ⟨fun i => if h : i < m then Classical.choose (hone i h) else ⟨0, 0, 0, false, none, 0, 0, []⟩, fun i him => ?_⟩
      simp only [him, dif_pos]
      exact Classical.choose_spec (hone i him)
    obtain ⟨f, hfs⟩ := hch
    refine ⟨_, len0, cap0, (List.range len0).map f, rfl, ⟨by simp, ?_, fun h0 => ?_⟩, by omega⟩
    · intro c hc
      obtain ⟨i, hi', rfl⟩ := List.mem_map.1 hc
      exact (hfs i (by have := List.mem_range.1 hi'; omega)).1
    · obtain ⟨b, off, spot⟩ := a
      have hc0 := (hfs 0 (by omega)).2 0 _ rfl
      have hspot : spot = none := by simpa [Addr.add] using World.cell?_spot hc0
      subst hspot
      refine ⟨b, off, rfl, lt_of_cell (by simpa [Addr.add] using hc0), fun k c hk j v hj => ?_⟩
      rw [List.getElem?_map] at hk
      rcases Nat.lt_or_ge k len0 with hlt | hge
      · rw [List.getElem?_range hlt] at hk
        cases hk
        have := (hfs k (by omega)).2 j v hj
        rw [add_none, ← Nat.add_assoc] at this
        exact this
      · rw [List.getElem?_eq_none (by simpa using hge)] at hk
        cases hk
end
end Go.Proofs.Ytiiegimnnngnnaa
