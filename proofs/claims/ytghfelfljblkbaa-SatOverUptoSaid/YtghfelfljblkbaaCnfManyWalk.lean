/- CnfMany: the walk. -/
import Derived.Test.YtghfelfljblkbaaAwakeC
namespace Go.Proofs.Ytghfelfljblkbaa
open Go.RowKit
set_option linter.unusedVariables false

theorem one_lits (w : World) (l : Int) (h : Ok l) : Lits (w.alloc (.cells #[.int .i64 l] 37)) (some ⟨w.heap.size, 0, none⟩) 1 [l] := by
  have hb := Blk.new w 37 #[Value.int .i64 l]
  refine ⟨rfl, fun z hz => by simp at hz; rw [hz]; exact h, fun _ => ⟨_, 0, rfl, hb.lt, fun k hk => ?_⟩⟩
  rw [Nat.zero_add, hb.cell]
  obtain rfl : k = 0 := by omega
  rfl
theorem two_lits (w : World) (l k : Int) (h : Ok l) (h2 : Ok k) : Lits (w.alloc (.cells #[.int .i64 l, .int .i64 k] 37)) (some ⟨w.heap.size, 0, none⟩) 2 [l, k] := by
  have hb := Blk.new w 37 #[Value.int .i64 l, .int .i64 k]
  refine ⟨rfl, fun z hz => ?_, fun _ => ⟨_, 0, rfl, hb.lt, fun j hj => ?_⟩⟩
  · simp only [List.mem_cons, List.not_mem_nil, or_false] at hz
    rcases hz with rfl | rfl
    · exact h
    · exact h2
  · rw [Nat.zero_add, hb.cell]
    rcases (show j = 0 ∨ j = 1 by omega) with rfl | rfl <;> rfl
set_option maxRecDepth 100000 in
set_option maxHeartbeats 1000000 in
theorem AtMost_no (p cap n : Nat) (A : Option Addr) (L : List (List Int)) (B : Option Addr) (m c : Nat) (zs : List Int) (w : World) (h : SetAt w p A cap n L) (hz : Lits w B m zs) (hm : m ≤ 1048576) (hmay : mayL n L zs = false) :
    Calls Try.prog 33 #[.pointer (some ⟨p, 0, none⟩), .slice B m c] w fun e w' => e = .returned (.bool false) ∧ Below w.heap.size w w' := by
  have H := may_any p cap n A L B m c zs w h hz hm
  rw [hmay] at H
  have HM := Lib.hid H
  clear H h hz hmay
  go_enter Try.func33, Try.ntmps33
  go_wp2_with (go_at_call 74; refine HM.out.mono ?_; rintro e w1 ⟨rfl, hb1⟩)
  go_ret
  exact ⟨rfl, hb1⟩
theorem tidy_one {l : Int} (h : l ≠ 0) : Cf.tidy [l] = some [l] := by
  unfold Cf.tidy
  rw [List.foldl_cons, List.foldl_nil]
  unfold Cf.step
  dsimp only
  rw [if_neg h]; rfl
theorem mod_u20 (x : Int) : ∃ N : Nat, N < 20 ∧ (IntKind.u64.wrap x).tmod 20 = (N : Int) := by
  rw [u64_w, Int.tmod_eq_emod_of_nonneg (Int.emod_nonneg _ (by decide))]
  have a0 := Int.emod_nonneg (x % 18446744073709551616) (b := 20) (by omega)
  have a1 := Int.emod_lt_of_pos (x % 18446744073709551616) (b := 20) (by omega)
  generalize x % 18446744073709551616 % 20 = y at *
  exact ⟨y.toNat, by omega, by omega⟩
theorem off_in {n : Nat} {l : Int} (h1 : 1 ≤ l) (h2 : l ≤ n) (hn : n ≤ 200) : offL n l = false := by
  have hv := vw_ok (x := l) ⟨by omega, by omega⟩
  unfold offL
  rw [decide_eq_false (by omega : ¬ l = 0), decide_eq_false (by rw [hv]; unfold Cf.va; omega)]; rfl
theorem may_one {n : Nat} {L : List (List Int)} {l : Int} (h1 : 1 ≤ l) (h2 : l ≤ n) (hn : n ≤ 200) : mayL n L [l] = decide (L.length < 5000) := by
  unfold mayL
  rw [List.any_cons, off_in h1 h2 hn]
  simp
theorem add_len {n : Nat} {L : List (List Int)} {l : Int} (h1 : 1 ≤ l) (h2 : l ≤ n) (hn : n ≤ 200) : (addL n L [l]).length = if L.length < 5000 then L.length + 1 else L.length := by
  unfold addL
  rw [may_one h1 h2 hn, tidy_one (by omega)]
  by_cases h : L.length < 5000
  · rw [decide_eq_true h, if_pos rfl, if_pos h]; simp
  · rw [decide_eq_false h, if_neg (by decide), if_neg h]
set_option maxRecDepth 100000 in
set_option maxHeartbeats 2000000 in
theorem cnfMany_any (x : Int) (w : World) :
    Calls Try.prog 6 #[.int .i64 x] w fun e w' => e = .returned (.bool true) ∧ Below w.heap.size w w' := by
  have HN := Lib.hid (New_any 120 w)
  obtain ⟨N, hN, hx⟩ := mod_u20 x
  go_enter Try.func6, Try.ntmps6
  go_wp2_with fail
  go_at_call 29
  refine HN.out.mono ?_
  rintro e w1 ⟨p, rfl, hs1, hb1, hp⟩
  have hs1' : SetAt w1 p none 0 120 [] := hs1
  have HS1 := Lib.hid hs1'
  have HB1 := Lib.hid hb1
  clear hs1 hs1' hb1 HN
  go_wp2_with fail
  go_loopw [12] (fun t wr => ∃ (i : Nat) (A : Option Addr) (cap : Nat) (L : List (List Int)), t = .int .i64 (i : Int) ∧ i ≤ 4990 + N ∧ Hid (SetAt wr p A cap 120 L) ∧ Hid (∀ k, sF p A k → w.heap.size ≤ k) ∧ Hid (Below w.heap.size w wr) ∧ Hid (L.length = min i 5000)) (fun t _ => 4990 + N - (match t with | .int _ x => x.toNat | _ => 0))
  case atStart => exact ⟨0, none, 0, [], rfl, Nat.zero_le _, HS1, Lib.hid (fun k hk => by
    rcases hk with rfl | hk
    · exact hp
    · cases hk), HB1, Lib.hid rfl⟩
  case round =>
    obtain ⟨i, A, cap, L, rfl, hi, HS, HF, HB, HLN⟩ := hrel
    clear HS1 HB1
    by_cases hlt : i < 4990 + N
    · have i1 : (i : Int) < 4990 + (N : Int) := by omega
      obtain ⟨l, hl⟩ : ∃ l : Int, l = (i : Int) % 120 + 1 := ⟨_, rfl⟩
      have hl1 : 1 ≤ l := by omega
      have hl2 : l ≤ 120 := by omega
      have hbw : Below wr.heap.size wr (wr.alloc (.cells #[.int .i64 l] 37)) := (Below.refl _ _).alloc (Nat.le_refl _) _
      have HA := Add_any p cap 120 A L (some ⟨wr.heap.size, 0, none⟩) 1 1 [l] _ (HS.out.below hbw) (one_lits wr l ⟨by omega, by omega⟩) (by omega)
      rw [may_one hl1 hl2 (by decide)] at HA
      have HADD := Lib.hid HA
      have HAL := Lib.hid (add_len (L := L) hl1 hl2 (by decide))
      obtain ⟨bb, hbb⟩ : ∃ bb, bb = decide (L.length < 5000) := ⟨_, rfl⟩
      have hbi : decide ((i : Int) < 5000) = bb := by rw [hbb, HLN.out, decide_eq_decide]; omega
      rw [← hbb] at HADD
      have HBB := Lib.hid hbb
      have HBW := Lib.hid hbw
      have HL := Lib.hid hl
      clear HA hbb hbw hl
      go_wp2_with fail
      rw [← HL.out]
      go_at_call 28
      refine HADD.out.mono ?_
      rintro e w2 ⟨rfl, hu, A', cap', hs', hf'⟩
      have HS2 := Lib.hid hs'
      have hb2 : Below w.heap.size w w2 := (HB.out.trans (HBW.out.mono HB.out.size)).trans (hu.below (fun k hk => HF.out k hk) (Nat.le_trans HB.out.size HBW.out.size))
      have HB2 := Lib.hid hb2
      have HF2 : Hid (∀ k, sF p A' k → w.heap.size ≤ k) := Lib.hid (fun k hk => (hf' k hk).elim (fun h => HF.out k h) (fun h => Nat.le_trans (Nat.le_trans HB.out.size HBW.out.size) h))
      have HLN2 : Hid ((addL 120 L [l]).length = min (i + 1) 5000) := Lib.hid (by rw [HAL.out, HLN.out]; split <;> omega)
      clear hu hs' hf' hb2
      cases bb with
      | true =>
        go_wp2_with fail
        refine ⟨⟨i + 1, A', cap', _, by go_num, by omega, HS2, HF2, HB2, HLN2⟩, ?_⟩
        show 4990 + N - ((i : Int) + 1).toNat < 4990 + N - (i : Int).toNat
        omega
      | false =>
        go_wp2_with fail
        refine ⟨⟨i + 1, A', cap', _, by go_num, by omega, HS2, HF2, HB2, HLN2⟩, ?_⟩
        show 4990 + N - ((i : Int) + 1).toNat < 4990 + N - (i : Int).toNat
        omega
    · have hil : i = 4990 + N := by omega
      have HLE := Lib.hid (Len_any p cap 120 A L wr HS.out)
      obtain ⟨k, hk⟩ : ∃ k, k = L.length := ⟨_, rfl⟩
      rw [← hk] at HLE
      have hk2 : (k : Int) = min (4990 + (N : Int)) 5000 := by rw [hk, HLN.out]; omega
      have HK := Lib.hid hk
      clear hk
      by_cases hN5 : 10 ≤ N
      · have hge : (5000 : Int) ≤ 4990 + (N : Int) := by omega
        have hmay : mayL 120 L [1, 2] = false := by
          unfold mayL
          have : decide (L.length < 5000) = false := decide_eq_false (by rw [HLN.out]; omega)
          rw [this]; rfl
        have HAM := Lib.hid (fun W (hW : Below wr.heap.size wr W) => AtMost_no p cap 120 A L (some ⟨W.heap.size, 0, none⟩) 2 2 [1, 2] _ ((HS.out.below hW).below ((Below.refl _ _).alloc (Nat.le_refl _) _)) (two_lits W 1 2 ⟨by decide, by decide⟩ ⟨by decide, by decide⟩) (by omega) hmay)
        clear hil hmay
        go_wp2_with (first
          | (go_at_call 32; refine HLE.out.mono ?_; rintro e w2 ⟨rfl, rfl⟩)
          | (go_at_call 33; refine (HAM.out wr (Below.refl _ _)).mono ?_; rintro e w3 ⟨rfl, hb3⟩)
          | (go_at_call 22; refine (awake_any w3).mono ?_; rintro e w5 ⟨rfl, hb5⟩))
        go_ret
        refine ⟨rfl, HB.out.trans (Below.mono ?_ HB.out.size)⟩
        have h1 : Below wr.heap.size wr (wr.alloc (.cells #[.int .i64 1, .int .i64 2] 37)) := (Below.refl _ _).alloc (Nat.le_refl _) _
        exact h1.trans ((hb3.trans (hb5.mono hb3.size)).mono h1.size)
      · have hge : ¬ (5000 : Int) ≤ 4990 + (N : Int) := by omega
        have hge' : decide ((5000 : Int) ≤ 4990 + (N : Int)) = false := decide_eq_false hge
        clear hil
        go_wp2_with (first
          | (go_at_call 32; refine HLE.out.mono ?_; rintro e w2 ⟨rfl, rfl⟩)
          | (go_at_call 22; refine (awake_any _).mono ?_; rintro e w5 ⟨rfl, hb5⟩))
        go_ret
        exact ⟨rfl, HB.out.trans (hb5.mono HB.out.size)⟩
open Go.ChangeShapes Go.WideShapes Go.ChangeAt in
set_option maxRecDepth 100000 in
theorem cnfMany_walk {H : Type} {enc : TypeId × Value → H} (W : World) {base : Nat} (v0 : Value) {d0 : DataW H} {p0 : List MemPlace} (h0 : DataW.Trod enc Try.prog W 0 (fun _ => true) true 3 v0 d0 p0) (o0 : Value.okWide Try.prog W .any base 3 v0) :
    Calls Try.prog 6 #[v0] W fun e w' => e = .returned (.bool true) ∧ Below W.heap.size W w' := by
  obtain ⟨n, rfl, rfl, rfl, wn⟩ := open_int Try.underlying3 o0 h0
  exact cnfMany_any n W
end Go.Proofs.Ytghfelfljblkbaa
