/- A value as data, opened with sizes; both Writes the same. -/
import Derived.Test.YtjkaigfpjebfbaaGreatDoorZw
namespace Go.Proofs.YtjkaigfpjebfbaaGreatDoor
open Go.RowKit
set_option linter.unusedVariables false

/-- No text of these is too long. -/
def SzC (C : List (List RA)) : Prop := ∀ c ∈ C, ∀ a ∈ c, a.n.size ≤ 1048576 ∧ a.v.size ≤ 1048576
def SzA (A : List RA) : Prop := ∀ a ∈ A, a.n.size ≤ 1048576 ∧ a.v.size ≤ 1048576
def SzP (P : List RP) : Prop := ∀ a ∈ P, a.n.size ≤ 1048576 ∧ a.v.size ≤ 1048576
theorem SzA.ones {A : List RA} (h : SzA A) : SzC (A.map (fun a => [a])) := fun c hc a ha => by
  obtain ⟨x, hx, rfl⟩ := List.mem_map.1 hc
  simp only [List.mem_cons, List.not_mem_nil, or_false] at ha
  subst ha
  exact h _ hx
theorem SzP.pv {P : List RP} (h : SzP P) : SzA (P.map pvA) := fun a ha => by
  obtain ⟨x, hx, rfl⟩ := List.mem_map.1 ha
  exact h _ hx
def Wr (x : Value) (X : ByteArray) (ok : Bool) (W : World) : Prop := Calls Tryz.prog 8 #[.agg #[x]] W fun e w' => e = .returned (.tuple #[.string X, .bool ok]) ∧ Below W.heap.size W w'
def RWr (v : Value) (X : ByteArray) (ok : Bool) (W : World) : Prop := Calls Tryz.prog 9 #[v] W fun e w' => e = .returned (.tuple #[.string X, .bool ok]) ∧ Below W.heap.size W w'
theorem len_of_cls {w : World} {A : Option Addr} {n c : Nat} {L : List (List RA)} (h : ClsAt w (.slice A n c) L) : n = L.length := by
  obtain ⟨_, _, e, _⟩ := h
  injection e
theorem len_of_ats {w : World} {A : Option Addr} {n c : Nat} {L : List RA} (h : AtsAt w (.slice A n c) L) : n = L.length := by
  obtain ⟨_, _, e, _⟩ := h
  injection e
theorem len_of_prs {w : World} {A : Option Addr} {n c : Nat} {L : List RP} (h : PrsAt w (.slice A n c) L) : n = L.length := by
  obtain ⟨_, _, e, _⟩ := h
  injection e
theorem wr_clauses {w : World} {A : Option Addr} {n c : Nat} {C : List (List RA)} (h : ClsAt w (.slice A n c) C) (hs : SzC C) (W : World) (hb : Below w.heap.size w W) : Wr (vClauses (.slice A n c)) (Rl.tob (ltx C)) (wOk (Rl.tob (ltx C)) C.length) W := by
  have e := len_of_cls h
  rw [← e]
  exact Write_clauses A n c _ W (fun W' hb' => RelText_any _ C W' ((h.below hb).below hb') hs)
theorem wr_atoms {w : World} {A : Option Addr} {n c : Nat} {L : List RA} (h : AtsAt w (.slice A n c) L) (hl : L.length ≤ 1048576) (hs : SzA L) (W : World) (hb : Below w.heap.size w W) : Wr (vAtoms (.slice A n c)) (Rl.tob (ltx (L.map (fun a => [a])))) (wOk (Rl.tob (ltx (L.map (fun a => [a])))) L.length) W := by
  have e := len_of_ats h
  rw [← e]
  exact Write_atoms A n c _ W (fun W' hb' => RelAtoms_any _ L W' ((h.below hb).below hb') hl hs)
theorem wr_provides {w : World} {A : Option Addr} {n c : Nat} {L : List RP} (h : PrsAt w (.slice A n c) L) (hl : L.length ≤ 1048576) (hs : SzP L) (W : World) (hb : Below w.heap.size w W) : Wr (vProvides (.slice A n c)) (Rl.tob (ltx ((L.map pvA).map (fun a => [a])))) (wOk (Rl.tob (ltx ((L.map pvA).map (fun a => [a])))) L.length) W := by
  have e := len_of_prs h
  rw [← e]
  exact Write_provides A n c _ W (fun W' hb' => RelProvides_any _ L W' ((h.below hb).below hb') hl hs)
theorem both_write {w : World} {q : Nat} {x : Value} {s : ByteArray} {n : Int} {b : Bool} {Ac Aa Ap : Option Addr} {nc cc na ca np cp : Nat} {C : List (List RA)} {A : List RA} {P : List RP}
    (h : MadeAt w q x s n b (.slice Ac nc cc) (.slice Aa na ca) (.slice Ap np cp) C A P) (hC : SzC C) (hA : SzA A) (hP : SzP P) (h0 : -9223372036854775808 ≤ n) (h1 : n ≤ 9223372036854775807) (hT : Tab w) :
    ∃ X ok, ∀ W, Below w.heap.size w W → Wr x X ok W ∧ RWr (.agg #[.string (kindB q), .string s, .int .i64 n, .bool b, .slice Ac nc cc, .slice Aa na ca, .slice Ap np cp]) X ok W := by
  obtain ⟨hv, ht, hc, hy, hcl, hat, hpr, l1, l2, l3, l4⟩ := h
  cases hv with
  | none => exact ⟨_, _, fun W hb => ⟨Write_none W, RWrite_none s n b Ac Aa Ap nc cc na ca np cp W⟩⟩
  | text s1 =>
    have e : s1 = s := by
      have := congrArg Prod.fst ht
      injection this
    subst e
    exact ⟨_, _, fun W hb => ⟨Write_text s1 W, RWrite_text s1 n b Ac Aa Ap nc cc na ca np cp W⟩⟩
  | count n1 =>
    have e : n1 = n := by
      have := congrArg Prod.fst hc
      injection this
    subst e
    exact ⟨_, _, fun W hb => ⟨Write_count n1 h0 h1 W (hT.below hb), RWrite_count s n1 b Ac Aa Ap nc cc na ca np cp W h0 h1 (hT.below hb)⟩⟩
  | yes b1 =>
    have e : b1 = b := by
      have := congrArg Prod.fst hy
      injection this
    subst e
    cases b1 with
    | true => exact ⟨_, _, fun W hb => ⟨Write_yes_true W, RWrite_yes_true s n Ac Aa Ap nc cc na ca np cp W⟩⟩
    | false => exact ⟨_, _, fun W hb => ⟨Write_yes_false W, RWrite_yes_false s n Ac Aa Ap nc cc na ca np cp W⟩⟩
  | clauses A0 n0 c0 _ hh g1 g2 =>
    refine ⟨_, _, fun W hb => ⟨wr_clauses hh hC W hb, ?_⟩⟩
    rw [← len_of_cls hcl]
    exact RWrite_clauses s n b Ac Aa Ap nc cc na ca np cp W _ (fun W' hb' => RText_any _ C W' ((hcl.below hb).below hb') hC)
  | atoms A0 n0 c0 _ hh g1 =>
    refine ⟨_, _, fun W hb => ⟨wr_atoms hh l3 hA W hb, ?_⟩⟩
    rw [← len_of_ats hat]
    refine RWrite_atoms s n b Ac Aa Ap nc cc na ca np cp W _ (fun W' hb' => (Singles_any _ A W' ((hat.below hb).below hb') l3).mono fun e w' ⟨v, he, hv, hbb⟩ => ⟨v, he, RText_any _ _ w' hv hA.ones, hbb⟩)
  | provides A0 n0 c0 _ hh g1 =>
    refine ⟨_, _, fun W hb => ⟨wr_provides hh l4 hP W hb, ?_⟩⟩
    rw [← len_of_prs hpr]
    refine RWrite_provides s n b Ac Aa Ap nc cc na ca np cp W _ (fun W' hb' => (Provided_any _ P W' ((hpr.below hb).below hb') l4).mono fun e w' ⟨v, he, hv, hbb⟩ => ⟨v, he, (Singles_any _ _ w' hv (by rw [List.length_map]; exact l4)).mono fun e w'' ⟨v2, he2, hv2, hb2⟩ => ⟨v2, he2, RText_any _ _ w'' hv2 hP.pv.ones, hb2⟩, hbb⟩)

section
open Go.ChangeShapes Go.WideShapes Go.ChangeAt Go.ChangeMaps Go.Deep Go.Joins
variable {H : Type} {enc : TypeId × Value → H} {W : World} {base : Nat}
theorem open_agg7u {P : Program} {w : World} {base : Nat} {spare : Nat → Bool} {held : Bool} {r : Reach} {b0 : Nat} {t : TypeId} {f0 f1 f2 f3 f4 f5 f6 : Field} {v : Value} {d : DataW H} {p : List MemPlace} (hs : P.underlying t = some (.struct #[f0, f1, f2, f3, f4, f5, f6])) (hone : oneCellFields P #[f0, f1, f2, f3, f4, f5, f6] = true) (hC : P.cellsOf t = 7)
    (hv : Value.okWide P w r b0 t v) (h : DataW.Trod enc P w base spare held t v d p) :
    ∃ (v0 v1 v2 v3 v4 v5 v6 : Value) (y0 y1 y2 y3 y4 y5 y6 : DataW H × List MemPlace) (n : Nat), v = .agg #[v0, v1, v2, v3, v4, v5, v6] ∧ d = .agg [y0.1, y1.1, y2.1, y3.1, y4.1, y5.1, y6.1] ∧ DataW.trod enc P w base spare held n f0.type [v0] = some y0 ∧ DataW.trod enc P w base spare held n f1.type [v1] = some y1 ∧ DataW.trod enc P w base spare held n f2.type [v2] = some y2 ∧ DataW.trod enc P w base spare held n f3.type [v3] = some y3 ∧ DataW.trod enc P w base spare held n f4.type [v4] = some y4 ∧ DataW.trod enc P w base spare held n f5.type [v5] = some y5 ∧ DataW.trod enc P w base spare held n f6.type [v6] = some y6 := by
  obtain ⟨cs, rfl, hsz⟩ := okWide_struct hs hv
  rw [hC] at hsz
  obtain ⟨l⟩ := cs
  match l, hsz with
  | [v0, v1, v2, v3, v4, v5, v6], _ =>
    obtain ⟨fuel, hf⟩ := h
    obtain ⟨ys, n, hn', hy, hlen, hyl, hf⟩ := DataW.trod_struct hs hf
    have hyl : ys.length = 7 := hyl
    match ys, hyl with
    | [y0, y1, y2, y3, y4, y5, y6], _ =>
      obtain ⟨o0, k0⟩ := hone_of hone 0 f0 rfl
      obtain ⟨o1, k1⟩ := hone_of hone 1 f1 rfl
      obtain ⟨o2, k2⟩ := hone_of hone 2 f2 rfl
      obtain ⟨o3, k3⟩ := hone_of hone 3 f3 rfl
      obtain ⟨o4, k4⟩ := hone_of hone 4 f4 rfl
      obtain ⟨o5, k5⟩ := hone_of hone 5 f5 rfl
      obtain ⟨o6, k6⟩ := hone_of hone 6 f6 rfl
      have g0 : DataW.trod enc P w base spare held n f0.type [v0] = some y0 := by simpa [Value.cells, o0, k0] using hf 0 f0 rfl
      have g1 : DataW.trod enc P w base spare held n f1.type [v1] = some y1 := by simpa [Value.cells, o1, k1] using hf 1 f1 rfl
      have g2 : DataW.trod enc P w base spare held n f2.type [v2] = some y2 := by simpa [Value.cells, o2, k2] using hf 2 f2 rfl
      have g3 : DataW.trod enc P w base spare held n f3.type [v3] = some y3 := by simpa [Value.cells, o3, k3] using hf 3 f3 rfl
      have g4 : DataW.trod enc P w base spare held n f4.type [v4] = some y4 := by simpa [Value.cells, o4, k4] using hf 4 f4 rfl
      have g5 : DataW.trod enc P w base spare held n f5.type [v5] = some y5 := by simpa [Value.cells, o5, k5] using hf 5 f5 rfl
      have g6 : DataW.trod enc P w base spare held n f6.type [v6] = some y6 := by simpa [Value.cells, o6, k6] using hf 6 f6 rfl
      simp only [Prod.mk.injEq] at hy
      exact ⟨v0, v1, v2, v3, v4, v5, v6, y0, y1, y2, y3, y4, y5, y6, n, rfl, hy.1, g0, g1, g2, g3, g4, g5, g6⟩
set_option maxRecDepth 100000 in
/-- A value as data, with sizes. -/
theorem open_anyU {v : Value} {d : DataW H} {p : List MemPlace} (h : DataW.Trod enc Tryz.prog W 0 (fun _ => true) true 26 v d p) (o : Value.okWide Tryz.prog W .any base 26 v) (hd : Rows.uptoBulk d ≤ 1048576) :
    ∃ (k : Int) (s : ByteArray) (n : Int) (b : Bool) (vc va vp : Value) (C : List (List RA)) (A : List RA) (P : List RP), v = .agg #[.int .i64 k, .string s, .int .i64 n, .bool b, vc, va, vp] ∧ ClsAt W vc C ∧ AtsAt W va A ∧ PrsAt W vp P ∧ C.length ≤ 1048576 ∧ (∀ l ∈ C, l.length ≤ 1048576) ∧ A.length ≤ 1048576 ∧ P.length ≤ 1048576 ∧ SzC C ∧ SzA A ∧ SzP P ∧ s.size ≤ 1048576 ∧ -9223372036854775808 ≤ n ∧ n ≤ 9223372036854775807 := by
  obtain ⟨v0, v1, v2, v3, v4, v5, v6, y0, y1, y2, y3, y4, y5, y6, m, rfl, rfl, g0, g1, g2, g3, g4, g5, g6⟩ := open_agg7u Tryz.underlying26 (by kernel_rfl) (by kernel_rfl) o h
  obtain ⟨k, e0, _, _⟩ := DataW.trod_int Tryz.underlying3 g0
  obtain ⟨s, e1, hy1, _⟩ := DataW.trod_string Tryz.underlying9 g1
  obtain ⟨n, e2, _, wn⟩ := DataW.trod_int Tryz.underlying3 g2
  obtain ⟨b, e3, _⟩ := DataW.trod_bool Tryz.underlying4 g3
  obtain rfl := List.cons.inj e0 |>.1
  obtain rfl := List.cons.inj e1 |>.1
  obtain rfl := List.cons.inj e2 |>.1
  obtain rfl := List.cons.inj e3 |>.1
  obtain ⟨C, hC1, hC2, hC3, hC4⟩ := open_cls g4
  obtain ⟨A, hA1, hA2, hA3, hA4⟩ := open_ats Tryz.underlying23 g5
  obtain ⟨P, hP1, hP2, hP3, hP4⟩ := open_prs Tryz.underlying24 g6
  have hw : -9223372036854775808 ≤ n ∧ n ≤ 9223372036854775807 := by simpa [Lit.wf, IntKind.min, IntKind.max, IntKind.signed, IntKind.bits] using wn
  have e1 : y1.1 = .lit (.string s.data.toList) := by rw [hy1]
  have ebk : Rows.uptoBulk (DataW.agg [y0.1, y1.1, y2.1, y3.1, y4.1, y5.1, y6.1] : DataW H) = Rows.uptoBulkAll [y0.1, y1.1, y2.1, y3.1, y4.1, y5.1, y6.1] + 1 := by first | rfl | (simp only [Rows.uptoBulk]; omega)
  have e9 : s.size = s.data.toList.length := rfl
  have hl : Rows.uptoBulk (y1.1) = s.data.toList.length + 1 := by rw [e1]; first | rfl | (simp only [Rows.uptoBulk]; omega)
  rw [ebk] at hd
  simp only [Rows.uptoBulkAll] at hd
  refine ⟨k, s, n, b, v4, v5, v6, C, A, P, rfl, hC1, hA1, hP1, by omega, fun l hl => by have := (hC4 l hl).1; omega, by omega, by omega, fun c hc a ha => by have := (hC4 c hc).2 a ha; omega, fun a ha => by have := hA4 a ha; omega, fun a ha => by have := hP4 a ha; omega, by omega, hw.1, hw.2⟩
end
end Go.Proofs.YtjkaigfpjebfbaaGreatDoor
