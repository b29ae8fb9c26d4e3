/- The law CrcTells, walked. -/
import Derived.Test.YtiiegimnnngnnaaCrc
import Derived.Test.YtiiegimnnngnnaaOpen
import Derived.Test.YtiiegimnnngnnaaWords
import Derived.Test.YtiiegimnnngnnaaQuiet
import Derived.Deep.RegionWith
import Derived.BigRegion
import Derived.SizedLaws
import Derived.Laws.BytesString
import Derived.Lib.SmallJoins
import Derived.Laws.IdiomArrays
namespace Go.Proofs.Ytiiegimnnngnnaa
open Go.RowKit Go.Sort
set_option linter.unusedVariables false

/-- The row, its cells from p on changed, j of them. -/
def turned (b : List Nat) (p : Nat) (Y : Nat → Nat) (j i : Nat) : Nat := if p ≤ i ∧ i < p + j then b.getD i 0 ^^^ Y (i - p) else b.getD i 0
def rowOf (n : Nat) (f : Nat → Nat) : List Value := (List.range n).map fun i => Value.int .u8 ((f i : Nat) : Int)
theorem rowOf_get (n : Nat) (f : Nat → Nat) (i : Nat) (h : i < n) : (rowOf n f)[i]? = some (.int .u8 ((f i : Nat) : Int)) := by
  unfold rowOf
  rw [List.getElem?_map, List.getElem?_range h]; rfl
theorem rowOf_none (n : Nat) (f : Nat → Nat) (i : Nat) (h : ¬ i < n) : (rowOf n f)[i]? = none := List.getElem?_eq_none (by simp [rowOf]; omega)
theorem turned_set (b : List Nat) (p n : Nat) (Y : Nat → Nat) (j : Nat) (h : p + j < n) : (rowOf n (turned b p Y j)).set (p + j) (.int .u8 ((b.getD (p + j) 0 ^^^ Y j : Nat) : Int)) = rowOf n (turned b p Y (j + 1)) := by
  apply List.ext_getElem?
  intro i
  rw [List.getElem?_set]
  by_cases e : p + j = i
  · subst e
    rw [if_pos rfl, if_pos (by simp [rowOf]; omega), rowOf_get _ _ _ h]
    unfold turned
    rw [if_pos ⟨by omega, by omega⟩, show p + j - p = j by omega]
  · rw [if_neg e]
    by_cases hi : i < n
    · rw [rowOf_get _ _ _ hi, rowOf_get _ _ _ hi]
      unfold turned
      by_cases h1 : p ≤ i ∧ i < p + j
      · rw [if_pos h1, if_pos ⟨h1.1, by omega⟩]
      · rw [if_neg h1, if_neg (by omega)]
    · rw [rowOf_none _ _ _ hi, rowOf_none _ _ _ hi]
theorem turned_zero (b : List Nat) (p n : Nat) (Y : Nat → Nat) (h : b.length = n) : b.map (fun x => Value.int .u8 ((x : Nat) : Int)) = rowOf n (turned b p Y 0) := by
  apply List.ext_getElem?
  intro i
  by_cases hi : i < n
  · rw [rowOf_get _ _ _ hi, List.getElem?_map, List.getElem?_eq_getElem (by omega)]
    unfold turned
    rw [if_neg (by omega), List.getD_eq_getElem?_getD, List.getElem?_eq_getElem (by omega)]
    rfl
  · rw [rowOf_none _ _ _ hi, List.getElem?_eq_none (by simp; omega)]
theorem turned_lt {b : List Nat} (hb : ∀ k, b.getD k 0 < 256) {Y : Nat → Nat} (hY : ∀ k, Y k < 256) (p j i : Nat) : turned b p Y j i < 256 := by
  unfold turned
  split
  · exact Nat.xor_lt_two_pow (n := 8) (hb _) (hY _)
  · exact hb _
theorem rowOf_map (n : Nat) (f : Nat → Nat) : rowOf n f = ((List.range n).map f).map fun x => Value.int .u8 ((x : Nat) : Int) := by simp [rowOf]
theorem toList_inj {s t : ByteArray} (h : s.toList = t.toList) : s = t := by
  rw [ByteArray.toList_eq, ByteArray.toList_eq] at h
  cases s; cases t; simpa using h
/-- What the law says: the rows are the same just if their sums are. -/
theorem tells_law {b : List Nat} {n p j : Nat} {Y : Nat → Nat} (hl : b.length = n) (hb : ∀ x ∈ b, x < 256) (hY : ∀ k, Y k < 256) (hj : j ≤ 4) (hp : p + j ≤ n) :
    (CrcLaw.sum b = CrcLaw.sum ((List.range n).map (turned b p Y j))) ↔ b = (List.range n).map (turned b p Y j) := by
  have hbk : ∀ k, b.getD k 0 < 256 := fun k => by
    rcases Nat.lt_or_ge k b.length with hk | hk
    · rw [List.getD_eq_getElem?_getD, List.getElem?_eq_getElem hk]; exact hb _ (List.getElem_mem hk)
    · rw [List.getD_eq_getElem?_getD, List.getElem?_eq_none hk]; simp
  refine ⟨fun h => ?_, fun h => by rw [← h]⟩
  have e1 : (List.range n).map (turned b p Y j) = b.take p ++ ((List.range n).map (turned b p Y j)).extract p (p + j) ++ b.drop (p + j) := by
    apply List.ext_getElem?
    intro i
    rw [List.extract_eq_take_drop, List.getElem?_append, List.getElem?_append]
    simp only [List.length_append, List.length_take, List.length_drop, List.length_map, List.length_range, hl]
    by_cases hi : i < n
    · rw [List.getElem?_map, List.getElem?_range hi]
      by_cases h1 : i < p
      · rw [if_pos (by omega), if_pos (by omega), List.getElem?_take, if_pos h1, List.getElem?_eq_getElem (by omega)]
        simp only [Option.map_some, turned]
        rw [if_neg (by omega), List.getD_eq_getElem?_getD, List.getElem?_eq_getElem (by omega)]; rfl
      · by_cases h2 : i < p + j
        · rw [if_pos (by omega), if_neg (by omega), List.getElem?_take, if_pos (by omega), List.getElem?_drop, List.getElem?_map, show p + (i - min p n) = i by omega, List.getElem?_range hi]
        · rw [if_neg (by omega), List.getElem?_drop, show p + j + (i - (min p n + min (p + j - p) (n - p))) = i by omega, List.getElem?_eq_getElem (by omega)]
          simp only [Option.map_some, turned]
          rw [if_neg (by omega), List.getD_eq_getElem?_getD, List.getElem?_eq_getElem (by omega)]; rfl
    · rw [List.getElem?_eq_none (by simp; omega), if_neg (by omega), List.getElem?_drop, List.getElem?_eq_none (by omega)]
  have e2 : b = b.take p ++ b.extract p (p + j) ++ b.drop (p + j) := by
    rw [List.extract_eq_take_drop, List.append_assoc, show p + j - p = j by omega]
    conv => lhs; rw [← List.take_append_drop p b, ← List.take_append_drop j (b.drop p), List.drop_drop]
  have hx : ∀ x ∈ (List.range n).map (turned b p Y j), x < 256 := fun x hx => by
    obtain ⟨i, _, rfl⟩ := List.mem_map.1 hx
    exact turned_lt hbk hY p j i
  have e3 := CrcLaw.sum_tells (b.take p) (b.extract p (p + j)) (((List.range n).map (turned b p Y j)).extract p (p + j)) (b.drop (p + j))
    (by simp [List.extract_eq_take_drop, hl]) (by simp [List.extract_eq_take_drop]; omega) (fun x h => hb x (List.mem_of_mem_take h))
    (fun x h => hb x (by rw [List.extract_eq_take_drop] at h; exact List.mem_of_mem_drop (List.mem_of_mem_take h)))
    (fun x h => hx x (by rw [List.extract_eq_take_drop] at h; exact List.mem_of_mem_drop (List.mem_of_mem_take h))) (fun x h => hb x (List.mem_of_mem_drop h))
    (by rw [← e1, ← e2]; exact h)
  rw [e1, ← e3, ← e2]

set_option maxRecDepth 100000 in
set_option maxHeartbeats 1000000 in
theorem tells (A : Option Addr) (n ca : Nat) (b : List Nat) (t : Int) (y0 y1 y2 y3 : Nat) (w : World) (ha : Bytes w A n b) (hn : n ≤ ca) (hca : ca ≤ 140737488355328) (ht1 : -9223372036854775808 ≤ t) (ht2 : t ≤ 9223372036854775807)
    (hy0 : y0 < 256) (hy1 : y1 < 256) (hy2 : y2 < 256) (hy3 : y3 < 256) :
    Calls Try.prog 5 #[.slice A n ca, .int .i64 t, .agg #[.int .u8 (y0 : Int), .int .u8 (y1 : Int), .int .u8 (y2 : Int), .int .u8 (y3 : Int)]] w fun e w' => e = .returned (.bool true) ∧ Below w.heap.size w w' := by
  have HA := Lib.hid ha
  clear ha
  obtain ⟨i0, hi0, hz0, hz1, hz2⟩ := info_parts (show (Try.prog.info? 5).map (fun i => (i.zero, i.size, i.bytes)) = some (some (.int .u8 0), 1, 1) from by kernel_rfl)
  by_cases h0 : n = 0
  · subst h0
    go_enter Try.func5, Try.ntmps5
    go_wp2_with (go_at_call 27; refine (awake1 _).mono ?_; rintro e w' ⟨rfl, hbel⟩)
    go_ret
    exact ⟨rfl, ((Below.refl _ _).alloc (Nat.le_refl _) _).trans (hbel.mono (by simp))⟩
  · have hne : ((n : Int) == 0) = false := by simp; omega
    have hpos : 0 < n := by omega
    have hposi : (0 : Int) < (n : Int) := by omega
    obtain ⟨p, hp, hpn⟩ : ∃ p : Nat, (IntKind.u64.wrap t).tmod (n : Int) = (p : Int) ∧ p < n := by
      have h1 := Int.emod_lt_of_pos (IntKind.u64.wrap t) hposi
      have h2 := Int.emod_nonneg (IntKind.u64.wrap t) (show (n : Int) ≠ 0 by omega)
      have h3 : 0 ≤ IntKind.u64.wrap t := by rw [IntKind.wrap_u64]; omega
      rw [Int.tmod_eq_emod_of_nonneg h3]
      exact ⟨(IntKind.u64.wrap t % (n : Int)).toNat, by omega, by omega⟩
    go_enter Try.func5, Try.ntmps5
    go_wp2_with (first
      | (at_builtin
         have ho := own_empty (w.alloc (.cells #[.int .u8 (y0 : Int), .int .u8 (y1 : Int), .int .u8 (y2 : Int), .int .u8 (y3 : Int)] 29)) 5 1 (w.heap.size + 1) (by simp)
         go_loud (refine wpList_append_any _ rfl (.tmp 13) (.tmp 14) _ rfl (w.heap.size + 1) 5 i0 _ 1 1 Try.underlying22 hi0 hz0 hz1 hz2 rfl (by omega) _ 0 [] (by rfl) ho w.heap.size A n ca _ rfl ((HA.out.reads.alloc (Nat.le_refl _) _).alloc (by simp) _) (bytes_one b) (by unfold maxLen; omega) (by omega) (by simp) ?_)
         intro v1 w1 hown1 hg1 hat1
         have hb1 : Below (w.heap.size + 1) (w.alloc (.cells #[.int .u8 (y0 : Int), .int .u8 (y1 : Int), .int .u8 (y2 : Int), .int .u8 (y3 : Int)] 29)) w1 := ((Below.refl _ _).alloc (by simp) _).grown hg1 (by simp) (fun k hk => (ho.lt k hk).1)
         clear ho hg1 hat1))


    rw [Nat.zero_add, List.nil_append] at hown1
    obtain ⟨g, cap, hv1, hg, hgl⟩ := hown1.form hpos
    rw [hv1] at hown1 ⊢
    clear hv1
    have HO := Lib.hid hown1
    have HB1 := Lib.hid hb1
    clear hown1 hb1
    go_simp
    go_wp2_with fail
    clear hp
    obtain ⟨W1, hW1⟩ : ∃ W1, W1 = w.alloc (.cells #[.int .u8 (y0 : Int), .int .u8 (y1 : Int), .int .u8 (y2 : Int), .int .u8 (y3 : Int)] 29) := ⟨_, rfl⟩
    rw [← hW1] at HB1
    obtain ⟨Y, hY⟩ : ∃ Y : Nat → Nat, Y = fun i => [y0, y1, y2, y3].getD i 0 := ⟨_, rfl⟩
    have hYl : ∀ k, Y k < 256 := fun k => by
      rw [hY]
      match k with
      | 0 => exact hy0
      | 1 => exact hy1
      | 2 => exact hy2
      | 3 => exact hy3
      | k + 4 => simp
    have hYc : ∀ k, k < 4 → W1.cell? ⟨w.heap.size, k, none⟩ = some (.int .u8 ((Y k : Nat) : Int)) := fun k hk => by
      rw [hW1, hY, World.cell?_alloc_at _ _ _ _ rfl]
      match k, hk with
      | 0, _ => rfl
      | 1, _ => rfl
      | 2, _ => rfl
      | 3, _ => rfl
    have HBW : Below w.heap.size w W1 := by rw [hW1]; exact (Below.refl _ _).alloc (Nat.le_refl _) _
    have HW := Lib.hid HBW
    have HYl := Lib.hid hYl
    have HYc := Lib.hid hYc
    clear hW1 hY hYl hYc HBW hy0 hy1 hy2 hy3
    rw [turned_zero b p n Y HA.out.1] at HO
    go_loopw [8] (fun i wr => ∃ j : Nat, j ≤ 4 ∧ p + j ≤ n ∧ i = .int .i64 j ∧ Below (w.heap.size + 1) W1 wr ∧ wr.ownsRow (w.heap.size + 1) 5 1 (.slice (some ⟨g, 0, none⟩) n cap) n (rowOf n (turned b p Y j))) (fun i _ => 4 - (intOf i).toNat)
    case atStart => exact ⟨0, by omega, by omega, rfl, HB1.out, HO.out⟩
    case round =>
      obtain ⟨j, hj4, hjn, rfl, hbel, hown⟩ := hrel
      have HBel := Lib.hid hbel
      have HOwn := Lib.hid hown
      clear hbel hown HO HB1
      by_cases hlt : j < 4 ∧ p + j < n
      · obtain ⟨hl1, hl2⟩ := hlt
        have hcg := (HOwn.out.cellAt (p + j) (by omega)).trans (rowOf_get n _ (p + j) hl2)
        have hfg := HOwn.out.frozenAt (p + j)
        have hcy := (HBel.out.cell (p := ⟨w.heap.size, j, none⟩) (by simp)).trans (HYc.out j hl1)
        have e1 : turned b p Y j (p + j) = b.getD (p + j) 0 := by unfold turned; rw [if_neg (by omega)]
        rw [e1] at hcg
        clear e1
        have HS := Lib.hid (turned_set b p n Y j hl2)
        have hx := HA.out.lt (p + j)
        have hy := HYl.out j
        obtain ⟨x, hxe⟩ : ∃ x, b.getD (p + j) 0 = x := ⟨_, rfl⟩
        obtain ⟨y, hye⟩ : ∃ x, Y j = x := ⟨_, rfl⟩
        rw [hxe] at hcg hx HS
        rw [hye] at hcy hy HS
        clear hxe hye
        have f1 := u8_xor_nat x y hx hy
        have i1 : (0 : Int) ≤ (j : Int) := by omega
        have i2 : (j : Int) < 4 := by omega
        have i3 : (0 : Int) ≤ (p : Int) + (j : Int) := by omega
        have i4 : (p : Int) + (j : Int) < (n : Int) := by omega
        go_wp2_with fail
        go_region
        go_wp2_with fail
        go_roundw
        case rel =>
          refine ⟨j + 1, by omega, by omega, by go_num, (HBel.out.setCell (by simpa using hg) _).drew, ?_⟩
          rw [← HS.out]
          exact (HOwn.out.stored (p + j) _).1
        case measure => simp [intOf]; omega
      · obtain ⟨c, hc⟩ : ∃ c, c = (List.range n).map (turned b p Y j) := ⟨_, rfl⟩
        have hlaw := tells_law HA.out.1 HA.out.2.1 HYl.out hj4 hjn
        have hcl : ∀ x ∈ c, x < 256 := fun x hx => by
          rw [hc] at hx
          obtain ⟨i, _, rfl⟩ := List.mem_map.1 hx
          exact turned_lt HA.out.lt HYl.out p j i
        have hown := HOwn.out
        rw [rowOf_map, ← hc] at hown
        rw [← hc] at hlaw
        have hcb : Bytes wr (some ⟨g, 0, none⟩) n c := by
          obtain ⟨A', cp', hv', hb'⟩ := Bytes.of_own hown hcl
          have : A' = some ⟨g, 0, none⟩ := by injection hv' with h1; exact h1.symm
          rw [this] at hb'; exact hb'
        have hbw : Bytes wr A n b := HA.out.below (HW.out.trans (HBel.out.mono (by simp)))
        have H1 := Lib.hid (fun (d1 : Nat) (os : Array Obj) => Sum_any A n ca b _ (hbw.below (below_regrown wr d1 os)) (by unfold maxLen; omega))
        have H2 := Lib.hid (fun (d1 : Nat) (os : Array Obj) => Sum_any (some ⟨g, 0, none⟩) n cap c _ (hcb.below (below_regrown wr d1 os)) (by unfold maxLen; omega))
        have v1 := fun (d1 : Nat) (os : Array Obj) => (hbw.below (below_regrown wr d1 os)).to_string (P := Try.prog) 22 9 5 ca Try.underlying22 Try.underlying5 Try.underlying9
        have v2 := fun (d1 : Nat) (os : Array Obj) => (hcb.below (below_regrown wr d1 os)).to_string (P := Try.prog) 22 9 5 cap Try.underlying22 Try.underlying5 Try.underlying9
        have hstr : strOf b = strOf c ↔ b = c := ⟨fun h => strOf_inj HA.out.2.1 hcl h, fun h => by rw [h]⟩
        have hfin := HW.out.trans (HBel.out.mono (show w.heap.size ≤ w.heap.size + 1 by simp))
        have HF := Lib.hid hfin
        clear hown hcb hbw hcl hc hfin HOwn HBel HYc HYl HW
        have same : ∃ q : Bool, ((strOf b).toList == (strOf c).toList) = q ∧ (((CrcLaw.sum b : Nat) : Int) == ((CrcLaw.sum c : Nat) : Int)) = q := by
          by_cases e : b = c
          · exact ⟨true, by rw [e, beq_iff_eq], by rw [e, beq_iff_eq]⟩
          · refine ⟨false, beq_eq_false_iff_ne.2 fun h => e (hstr.1 (toList_inj h)), beq_eq_false_iff_ne.2 fun h => e (hlaw.1 (by omega))⟩
        obtain ⟨q, s1, s2⟩ := same
        clear hstr hlaw
        generalize CrcLaw.sum b = x1 at *
        generalize CrcLaw.sum c = x2 at *
        generalize strOf b = t1 at *
        generalize strOf c = t2 at *
        have i1 : (0 : Int) ≤ (j : Int) := by omega
        by_cases h4 : j < 4
        all_goals
          go_wp2_with fail
          refine wp_region_quiet_below (by kernel_rfl) (by kernel_rfl) ?_
          repeat (quiet_step (first
            | (go_at_call_of 23 A; exact regrown_same (H1.out _ _))
            | (go_at_call 23; exact regrown_same (H2.out _ _))
            | (go_at_call 27; exact Calls.regrown_of (awake1 _))))
          refine wpQuiet_nil ?_
          intro _ hw'
          obtain ⟨⟨dq, osq⟩, hw''⟩ := hw'
          subst hw''
          go_wp2_with fail
          go_ret
          exact ⟨rfl, HF.out.trans ((below_regrown wr dq osq).mono HF.out.size)⟩

section
open Go.ChangeShapes Go.WideShapes Go.ChangeAt
theorem u8_nat' {x : Int} (h : (Lit.int .u8 x).wf = true) : ∃ n : Nat, x = (n : Int) ∧ n < 256 := by
  have h2 : 0 ≤ x ∧ x ≤ 255 := by simpa [Lit.wf, IntKind.min, IntKind.max, IntKind.signed, IntKind.bits] using h
  exact ⟨x.toNat, by omega, by omega⟩
theorem crcTells_walk {H : Type} {enc : TypeId × Value → H} (W : World) {base : Nat} (v0 v1 v2 : Value) {d0 d1 d2 : DataW H} {p0 p1 p2 : List MemPlace} (h0 : DataW.Trod enc Try.prog W 0 (fun _ => true) true 22 v0 d0 p0) (o0 : Value.okWide Try.prog W .any base 22 v0)
    (h1 : DataW.Trod enc Try.prog W 0 (fun _ => true) true 3 v1 d1 p1) (o1 : Value.okWide Try.prog W .any base 3 v1)
    (h2 : DataW.Trod enc Try.prog W 0 (fun _ => true) true 29 v2 d2 p2) (o2 : Value.okWide Try.prog W .any base 29 v2)
    (hz : (DataW.weightsEach Try.prog [22, 3, 29] [d0, d1, d2]).all (· ≤ reachBytes) = true) :
    Calls Try.prog 5 #[v0, v1, v2] W fun e w' => e = .returned (.bool true) ∧ Below W.heap.size W w' := by
  obtain ⟨A, n, ca, a, rfl, ha, na, _, _, ea⟩ := open_bytes h0 o0
  obtain ⟨x, rfl, rfl, rfl, wx⟩ := open_int Try.underlying3 o1 h1
  have hx : -9223372036854775808 ≤ x ∧ x ≤ 9223372036854775807 := by simpa [Lit.wf, IntKind.min, IntKind.max, IntKind.signed, IntKind.bits] using wx
  have hca := ea _ _ 0 hz rfl rfl
  obtain ⟨cs, rfl, hcs⟩ : ∃ cs, v2 = .agg cs ∧ cs.size = 4 := by
    simp only [Value.okWide, Try.underlying29] at o2
    obtain ⟨cs, h1, h2, _⟩ := o2
    exact ⟨cs, h1, h2.trans (by kernel_rfl)⟩
  obtain ⟨c0, c1, c2, c3, rfl⟩ := Joins.array4 hcs
  obtain ⟨fuel, hf⟩ := h2
  obtain ⟨y0, y1, y2, y3, m, _, g0, g1, g2, g3⟩ := trod_array4 Try.underlying29 (by kernel_rfl) (by simpa [Value.cells] using hf)
  obtain ⟨z0, e0, _, w0⟩ := DataW.trod_int Try.underlying5 g0
  obtain ⟨z1, e1, _, w1⟩ := DataW.trod_int Try.underlying5 g1
  obtain ⟨z2, e2, _, w2⟩ := DataW.trod_int Try.underlying5 g2
  obtain ⟨z3, e3, _, w3⟩ := DataW.trod_int Try.underlying5 g3
  simp only [List.cons.injEq, and_true] at e0 e1 e2 e3
  obtain ⟨x0, rfl, l0⟩ := u8_nat' w0
  obtain ⟨x1, rfl, l1⟩ := u8_nat' w1
  obtain ⟨x2, rfl, l2⟩ := u8_nat' w2
  obtain ⟨x3, rfl, l3⟩ := u8_nat' w3
  rw [e0, e1, e2, e3]
  exact tells A n ca a x x0 x1 x2 x3 W ha na hca hx.1 hx.2 l0 l1 l2 l3
end
end Go.Proofs.Ytiiegimnnngnnaa
