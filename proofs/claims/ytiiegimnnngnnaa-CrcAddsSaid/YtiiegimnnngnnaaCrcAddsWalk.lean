/- The law CrcAdds, walked. -/
import Derived.Test.YtiiegimnnngnnaaCrc
import Derived.Test.YtiiegimnnngnnaaOpen
import Derived.Test.YtiiegimnnngnnaaWords
import Derived.Deep.RegionWith
import Derived.Deep.OwnRows
import Derived.BigRegion
import Derived.SizedLaws
import Derived.WalkLawsBesides
import Derived.Deep.DeepCutAuto
import Derived.Test.YtiiegimnnngnnaaQuiet
namespace Go.Proofs.Ytiiegimnnngnnaa
open Go.RowKit
set_option linter.unusedVariables false

theorem byte_infoA : (Try.prog.info? 5).map (fun i => (i.zero, i.size, i.bytes)) = some (some (.int .u8 0), 1, 1) := by kernel_rfl
/-- The row of sums, its first k cells laid. -/
def xorTo (f : Nat → Nat) (n k : Nat) : Array Value := ((List.range n).map fun i => Value.int .u8 (if i < k then ((f i : Nat) : Int) else 0)).toArray
theorem xorTo_size (f : Nat → Nat) (n k : Nat) : (xorTo f n k).size = n := by simp [xorTo]
theorem xorTo_get (f : Nat → Nat) (n k i : Nat) (h : i < n) : (xorTo f n k)[i]? = some (.int .u8 (if i < k then ((f i : Nat) : Int) else 0)) := by
  unfold xorTo
  rw [List.getElem?_toArray, List.getElem?_map, List.getElem?_range h]; rfl
theorem xorTo_set (f : Nat → Nat) (n k : Nat) (h : k < n) : (xorTo f n k).setIfInBounds k (.int .u8 ((f k : Nat) : Int)) = xorTo f n (k + 1) := by
  apply Array.ext_getElem?
  intro i
  rw [Array.getElem?_setIfInBounds, xorTo_size]
  by_cases hik : k = i
  · subst hik
    rw [if_pos rfl, if_pos h, xorTo_get _ _ _ _ h, if_pos (by omega)]
  · rw [if_neg hik]
    by_cases hi : i < n
    · rw [xorTo_get _ _ _ _ hi, xorTo_get _ _ _ _ hi]
      by_cases h1 : i < k
      · rw [if_pos h1, if_pos (by omega)]
      · rw [if_neg h1, if_neg (by omega)]
    · rw [Array.getElem?_eq_none (by rw [xorTo_size]; omega), Array.getElem?_eq_none (by rw [xorTo_size]; omega)]
theorem xorTo_zero (f : Nat → Nat) (n : Nat) : madeCells #[.int .u8 0] n = xorTo f n 0 := by
  apply Array.ext_getElem?
  intro i
  by_cases hi : i < n
  · rw [xorTo_get _ _ _ _ hi, if_neg (by omega), ← Array.getElem?_toList, toList_madeCells_one, List.getElem?_replicate, if_pos hi]
  · rw [← Array.getElem?_toList, toList_madeCells_one, List.getElem?_replicate, if_neg hi, Array.getElem?_eq_none (by rw [xorTo_size]; omega)]

set_option maxRecDepth 100000 in
set_option maxHeartbeats 1000000 in
theorem adds (A B C : Option Addr) (n m l ca cb cc : Nat) (a b c : List Nat) (w : World) (ha : Bytes w A n a) (hb : Bytes w B m b) (hc : Bytes w C l c) (h1 : n ≤ ca) (h2 : m ≤ cb) (h3 : l ≤ cc) (hn : ca ≤ 140737488355328) (hm : cb ≤ 140737488355328) (hl : cc ≤ 140737488355328) :
    Calls Try.prog 6 #[.slice A n ca, .slice B m cb, .slice C l cc] w fun e w' => e = .returned (.bool true) ∧ Below w.heap.size w w' := by
  have HA := Lib.hid ha
  have HB := Lib.hid hb
  have HC := Lib.hid hc
  clear ha hb hc
  obtain ⟨q, hq⟩ : ∃ q, q = min n (min m l) := ⟨_, rfl⟩
  have HQ := Lib.hid hq
  have q1 : q ≤ n := by omega
  have q2 : q ≤ m := by omega
  have q3 : q ≤ l := by omega
  clear hq
  have hmk := run_make_row' (P := Try.prog) 22 5 (.int .u8 0) 1 Try.underlying22 byte_infoA rfl .i64 .i64 q (by omega) (by omega)
  go_enter Try.func6, Try.ntmps6
  have hmin : (if (l : Int) < if m < n then (m : Int) else (n : Int) then (l : Int) else if m < n then (m : Int) else (n : Int)) = (q : Int) := by have := HQ.out; repeat' split <;> omega
  go_upto_region 2 with fail
  clear hmin
  go_wp2_with fail
  clear hmk
  rw [xorTo_zero (fun i => a.getD i 0 ^^^ b.getD i 0 ^^^ c.getD i 0) q]
  obtain ⟨f, hf⟩ : ∃ f, f = fun i => a.getD i 0 ^^^ b.getD i 0 ^^^ c.getD i 0 := ⟨_, rfl⟩
  have HF := Lib.hid hf
  rw [← hf]
  clear hf
  go_loopw [21] (fun i wr => ∃ k : Nat, k ≤ q ∧ i = .int .i64 k ∧ Below w.heap.size w wr ∧ Blk wr w.heap.size 5 (xorTo f q k)) (fun i _ => q - (intOf i).toNat)
  case atStart => exact ⟨0, by omega, rfl, (Below.refl _ _).alloc (Nat.le_refl _) _, Blk.new _ _ _⟩
  case round =>
    obtain ⟨k, hk, rfl, hbel, hblk⟩ := hrel
    have HBel := Lib.hid hbel
    have HBlk := Lib.hid hblk
    clear hbel hblk
    by_cases hlt : k < q
    · obtain ⟨ba, oa, rfl, hba, halla⟩ := HA.out.2.2 (by omega)
      obtain ⟨bb, ob, rfl, hbb, hallb⟩ := HB.out.2.2 (by omega)
      obtain ⟨bc, oc, rfl, hbc, hallc⟩ := HC.out.2.2 (by omega)
      have hca := (HBel.out.cell (p := ⟨ba, oa + k, none⟩) hba).trans (halla k (by omega))
      have hcb := (HBel.out.cell (p := ⟨bb, ob + k, none⟩) hbb).trans (hallb k (by omega))
      have hcc := (HBel.out.cell (p := ⟨bc, oc + k, none⟩) hbc).trans (hallc k (by omega))
      clear halla hallb hallc
      have hcr := (HBlk.out.cell k).trans (xorTo_get f q k k hlt)
      have hfr := HBlk.out.frozen k
      rw [if_neg (by omega)] at hcr
      have hx := HA.out.lt k
      have hy := HB.out.lt k
      have hz := HC.out.lt k
      have hfk : f k = a.getD k 0 ^^^ b.getD k 0 ^^^ c.getD k 0 := by rw [HF.out]
      obtain ⟨x, hxe⟩ : ∃ x, a.getD k 0 = x := ⟨_, rfl⟩
      obtain ⟨y, hye⟩ : ∃ x, b.getD k 0 = x := ⟨_, rfl⟩
      obtain ⟨z, hze⟩ : ∃ x, c.getD k 0 = x := ⟨_, rfl⟩
      rw [hxe] at hca hx hfk
      rw [hye] at hcb hy hfk
      rw [hze] at hcc hz hfk
      have HFK := Lib.hid hfk
      clear hfk hxe hye hze
      have hxy : x ^^^ y < 256 := Nat.xor_lt_two_pow (n := 8) hx hy
      have f1 := u8_xor_nat x y hx hy
      have f2 := u8_xor_nat (x ^^^ y) z hxy hz
      have i0 : (0 : Int) ≤ (k : Int) := by omega
      have i1 : (k : Int) < (q : Int) := by omega
      have HS := Lib.hid (xorTo_set f q k hlt)
      go_wp2_with fail
      go_region
      go_wp2_with fail
      go_roundw
      case rel =>
        refine ⟨k + 1, by omega, by go_num, (HBel.out.setCell (Nat.le_refl _) _).drew, ?_⟩
        have hs := (HBlk.out.set_ k (.int .u8 ((f k : Nat) : Int))).drew
        rw [HS.out, HFK.out] at hs
        exact hs
      case measure => simp [intOf]; omega
    · have hkq : k = q := by omega
      subst hkq
      obtain ⟨d, hd⟩ : ∃ d, d = CrcLaw.xors (CrcLaw.xors (a.take k) (b.take k)) (c.take k) := ⟨_, rfl⟩
      have la : (a.take k).length = k := by rw [List.length_take, HA.out.1]; omega
      have lb : (b.take k).length = k := by rw [List.length_take, HB.out.1]; omega
      have lc : (c.take k).length = k := by rw [List.length_take, HC.out.1]; omega
      have hsum : CrcLaw.sum d = CrcLaw.sum (a.take k) ^^^ CrcLaw.sum (b.take k) ^^^ CrcLaw.sum (c.take k) := by
        rw [hd, CrcLaw.sum_xors3 _ _ _ (by rw [la, lb]) (by rw [lb, lc])]
      have hda : Bytes wr (some ⟨w.heap.size, 0, none⟩) k d := by
        have hld : d.length = k := by rw [hd]; simp only [CrcLaw.xors, List.length_zipWith, la, lb, lc]; omega
        have hdi : ∀ i, i < k → d.getD i 0 = f i := fun i hi => by
          rw [hd, HF.out]
          simp only [CrcLaw.xors, List.getD_eq_getElem?_getD]
          rw [List.getElem?_eq_getElem (by simp only [List.length_zipWith, la, lb, lc]; omega)]
          have := HA.out.1
          have := HB.out.1
          have := HC.out.1
          rw [List.getElem?_eq_getElem (show i < a.length by omega), List.getElem?_eq_getElem (show i < b.length by omega), List.getElem?_eq_getElem (show i < c.length by omega)]
          simp
        refine ⟨hld, fun y hy => ?_, fun _ => ⟨_, _, rfl, HBlk.out.lt, fun i hi => ?_⟩⟩
        · obtain ⟨i, hi, rfl⟩ := List.getElem_of_mem hy
          have e := hdi i (by omega)
          rw [List.getD_eq_getElem?_getD, List.getElem?_eq_getElem hi] at e
          simp only [Option.getD_some] at e
          rw [e, HF.out]
          exact Nat.xor_lt_two_pow (n := 8) (Nat.xor_lt_two_pow (n := 8) (HA.out.lt i) (HB.out.lt i)) (HC.out.lt i)
        · rw [Nat.zero_add, HBlk.out.cell i, xorTo_get _ _ _ _ hi, if_pos hi, hdi i hi]
      have sa := CrcLaw.more_lt (show 0 < 4294967296 by omega) (a.take k) (HA.out.take q1).2.1
      have sb := CrcLaw.more_lt (show 0 < 4294967296 by omega) (b.take k) (HB.out.take q2).2.1
      have sc := CrcLaw.more_lt (show 0 < 4294967296 by omega) (c.take k) (HC.out.take q3).2.1
      have x1 := u32_xor_nat _ _ sa sb
      have x2 := u32_xor_nat _ _ (Nat.xor_lt_two_pow (n := 32) sa sb) sc
      have H0 := Lib.hid (fun (d1 : Nat) (os : Array Obj) => Sum_any (some ⟨w.heap.size, 0, none⟩) k k d _ (hda.below (below_regrown wr d1 os)) (by unfold maxLen; omega))
      have H1 := Lib.hid (fun (d1 : Nat) (os : Array Obj) => Sum_any A k ca (a.take k) _ (((HA.out.take q1).below HBel.out).below (below_regrown wr d1 os)) (by unfold maxLen; omega))
      have H2 := Lib.hid (fun (d1 : Nat) (os : Array Obj) => Sum_any B k cb (b.take k) _ (((HB.out.take q2).below HBel.out).below (below_regrown wr d1 os)) (by unfold maxLen; omega))
      have H3 := Lib.hid (fun (d1 : Nat) (os : Array Obj) => Sum_any C k cc (c.take k) _ (((HC.out.take q3).below HBel.out).below (below_regrown wr d1 os)) (by unfold maxLen; omega))
      rw [hsum] at H0
      clear hsum hda hd la lb lc sa sb sc
      change bits .xor .u32 ((CrcLaw.sum (a.take k) : Nat) : Int) ((CrcLaw.sum (b.take k) : Nat) : Int) = _ at x1
      change bits .xor .u32 ((CrcLaw.sum (a.take k) ^^^ CrcLaw.sum (b.take k) : Nat) : Int) ((CrcLaw.sum (c.take k) : Nat) : Int) = _ at x2
      change _ = ((CrcLaw.sum (a.take k) ^^^ CrcLaw.sum (b.take k) : Nat) : Int) at x1
      change _ = ((CrcLaw.sum (a.take k) ^^^ CrcLaw.sum (b.take k) ^^^ CrcLaw.sum (c.take k) : Nat) : Int) at x2
      generalize CrcLaw.sum (a.take k) = ya at *
      generalize CrcLaw.sum (b.take k) = yb at *
      generalize CrcLaw.sum (c.take k) = yc at *
      have i1 : (0 : Int) ≤ (k : Int) := by omega
      have i2 : (k : Int) ≤ (ca : Int) := by omega
      have i3 : (k : Int) ≤ (cb : Int) := by omega
      have i4 : (k : Int) ≤ (cc : Int) := by omega
      go_wp2_with fail
      refine wp_region_quiet_below (by kernel_rfl) (by kernel_rfl) ?_
      repeat (quiet_step (first
        | (go_at_call_of 23 A; exact regrown_same (H1.out _ _))
        | (go_at_call_of 23 B; exact regrown_same (H2.out _ _))
        | (go_at_call_of 23 C; exact regrown_same (H3.out _ _))
        | (go_at_call 23; exact regrown_same (H0.out _ _))
        | (go_at_call 27; exact Calls.regrown_of (awake1 _))))
      refine wpQuiet_nil ?_
      intro _ hw'
      obtain ⟨⟨dq, osq⟩, hw''⟩ := hw'
      subst hw''
      go_wp2_with fail
      go_ret
      exact ⟨rfl, HBel.out.trans ((below_regrown wr dq osq).mono HBel.out.size)⟩

section
open Go.ChangeShapes Go.WideShapes Go.ChangeAt
theorem crcAdds_walk {H : Type} {enc : TypeId × Value → H} (W : World) {base : Nat} (v0 v1 v2 : Value) {d0 d1 d2 : DataW H} {p0 p1 p2 : List MemPlace} (h0 : DataW.Trod enc Try.prog W 0 (fun _ => true) true 22 v0 d0 p0) (o0 : Value.okWide Try.prog W .any base 22 v0)
    (h1 : DataW.Trod enc Try.prog W 0 (fun _ => true) true 22 v1 d1 p1) (o1 : Value.okWide Try.prog W .any base 22 v1)
    (h2 : DataW.Trod enc Try.prog W 0 (fun _ => true) true 22 v2 d2 p2) (o2 : Value.okWide Try.prog W .any base 22 v2)
    (hz : (DataW.weightsEach Try.prog [22, 22, 22] [d0, d1, d2]).all (· ≤ reachBytes) = true) :
    Calls Try.prog 6 #[v0, v1, v2] W fun e w' => e = .returned (.bool true) ∧ Below W.heap.size W w' := by
  obtain ⟨A, n, ca, a, rfl, ha, na, _, _, ea⟩ := open_bytes h0 o0
  obtain ⟨B, m, cb, b, rfl, hb, nb, _, _, eb⟩ := open_bytes h1 o1
  obtain ⟨C, l, cc, c, rfl, hc, nc, _, _, ec⟩ := open_bytes h2 o2
  exact adds A B C n m l ca cb cc a b c W ha hb hc na nb nc (ea _ _ 0 hz rfl rfl) (eb _ _ 1 hz rfl rfl) (ec _ _ 2 hz rfl rfl)
end
end Go.Proofs.Ytiiegimnnngnnaa
