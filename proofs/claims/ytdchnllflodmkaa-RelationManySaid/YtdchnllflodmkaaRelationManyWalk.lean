/- RelationMany: the walk. -/
import Derived.Test.YtdchnllflodmkaaRo
import Derived.Test.YtdchnllflodmkaaRows
import Derived.ShutString
import Derived.ChangeOld
namespace Go.Proofs.Ytdchnllflodmkaa
open Go.RowKit
set_option linter.unusedVariables false

theorem u64_wM (n : Int) : IntKind.u64.wrap n = n % 18446744073709551616 := by
  simp [IntKind.wrap, IntKind.signed, IntKind.bits]
theorem mod_uM (x : Int) (m : Nat) (h0 : 0 < m) : ∃ N : Nat, N < m ∧ (IntKind.u64.wrap x).tmod (m : Int) = (N : Int) := by
  rw [u64_wM, Int.tmod_eq_emod_of_nonneg (Int.emod_nonneg _ (by decide))]
  have a0 := Int.emod_nonneg (x % 18446744073709551616) (b := (m : Int)) (by omega)
  have a1 := Int.emod_lt_of_pos (x % 18446744073709551616) (b := (m : Int)) (by omega)
  generalize x % 18446744073709551616 % (m : Int) = y at *
  exact ⟨y.toNat, by omega, by omega⟩
set_option maxRecDepth 100000 in
set_option maxHeartbeats 4000000 in
theorem relationMany_any (x y : Int) (bad : Bool) (w : World) :
    Calls Try.prog 3 #[.int .i64 x, .int .i64 y, .bool bad] w fun e w' => e = .returned (.bool true) ∧ Below w.heap.size w w' := by
  obtain ⟨N, hN, hx⟩ := mod_uM x 15 (by omega)
  obtain ⟨M, hM, hy⟩ := mod_uM y 9 (by omega)
  have hx : (IntKind.u64.wrap x).tmod 15 = (N : Int) := hx
  have hy : (IntKind.u64.wrap y).tmod 9 = (M : Int) := hy
  have HP : Hid (∀ W (s : ByteArray), s.size ≤ 1048576 → Calls Try.prog 9 #[.string s] W fun e w' => Below W.heap.size W w' ∧ ∃ v L k, e = .returned (.tuple #[v, .int .i64 k]) ∧ ClsAt w' v L ∧ Hid (L.length ≤ 281474976710656 ∧ (∀ l ∈ L, l.length ≤ 281474976710656)) ∧
      Hid (∀ W', Calls Try.prog 10 #[.string s] W' fun e w' => Below W'.heap.size W' w' ∧ ∃ v, e = .returned (.tuple #[v, .int .i64 k]) ∧ ClsAt w' v L)) := Lib.hid (fun W s hs => (Parse_any s W hs).mono fun e w' ⟨hb, v, he, ho⟩ => ⟨hb, v, _, _, he, ho.cls, Lib.hid ⟨by have := (okv_len (mf := anyF) (one := false) (s := bl s)).1; rw [List.length_map]; omega, fun l hl => by
        obtain ⟨x, hx, rfl⟩ := List.mem_map.1 hl
        have := (okv_len (mf := anyF) (one := false) (s := bl s)).2 x hx
        rw [List.length_map]; omega⟩, Lib.hid (fun W' => (Relation_any s W' hs).mono fun e w' ⟨hb, v, he, ho⟩ => by
      rw [← Rl.all_sim plain_nm plain_ver] at he ho
      exact ⟨hb, v, he, ho.cls⟩)⟩)
  have HSC : Hid (∀ W u v L, ClsAt W u L → ClsAt W v L → L.length ≤ 281474976710656 → (∀ l ∈ L, l.length ≤ 281474976710656) → Calls Try.prog 11 #[u, v] W fun e w' => e = .returned (.bool true) ∧ Below W.heap.size W w') := Lib.hid (fun W u v L a b h1 h2 => (SameClauses_any u v L L W a b h1 h2).mono fun e w' ⟨he, m, hm⟩ => ⟨by rw [he, decide_eq_true rfl], by rw [hm]; exact below_drewN _ _⟩)
  have HAW := Lib.hid (fun W => awake_any W)
  go_enter Try.func3, Try.ntmps3
  go_wp2_with fail
  clear hx hy
  go_loopw [7, 22] (fun s t wr => ∃ (i : Nat) (S : ByteArray), s = .string S ∧ t = .int .i64 (i : Int) ∧ i ≤ N ∧ S.size ≤ 3 * i ∧ wr = w) (fun _ t _ => N - (match t with | .int _ x => x.toNat | _ => 0))
  case atStart => exact ⟨0, _, rfl, rfl, Nat.zero_le _, Nat.le_refl _, rfl⟩
  case round =>
    obtain ⟨i, S, rfl, rfl, hi, hs, rfl⟩ := hrel
    by_cases hlt : i < N
    · have hln : (i : Int) < (N : Int) := by omega
      by_cases h0 : 0 < i
      · have h0' : (0 : Int) < (i : Int) := by omega
        have hz : (S ++ (⟨#[44]⟩ : ByteArray) ++ (⟨#[97, 97]⟩ : ByteArray)).size ≤ 3 * (i + 1) := by
          rw [ByteArray.size_append, ByteArray.size_append]
          show S.size + 1 + 2 ≤ _
          omega
        have HZ := Lib.hid hz
        clear hz
        go_wp2_with fail
        refine ⟨⟨i + 1, _, rfl, by go_num, by omega, HZ.out, trivial⟩, ?_⟩
        show N - ((i : Int) + 1).toNat < N - (i : Int).toNat
        omega
      · have h0' : ¬ (0 : Int) < (i : Int) := by omega
        have hz : (S ++ (⟨#[97, 97]⟩ : ByteArray)).size ≤ 3 * (i + 1) := by
          rw [ByteArray.size_append]
          show S.size + 2 ≤ _
          omega
        have HZ := Lib.hid hz
        clear hz
        go_wp2_with fail
        refine ⟨⟨i + 1, _, rfl, by go_num, by omega, HZ.out, trivial⟩, ?_⟩
        show N - ((i : Int) + 1).toNat < N - (i : Int).toNat
        omega
    · have hln : ¬ (i : Int) < (N : Int) := by omega
      have hsN : S.size ≤ 45 := by omega
      clear hs hi hlt
      go_wp2_with fail
      go_loopw [7, 33] (fun s t w2 => ∃ (j : Nat) (S : ByteArray), s = .string S ∧ t = .int .i64 (j : Int) ∧ j ≤ M ∧ S.size ≤ 45 + 3 * j ∧ w2 = wr) (fun _ t _ => M - (match t with | .int _ x => x.toNat | _ => 0))
      case atStart => exact ⟨0, _, rfl, rfl, Nat.zero_le _, hsN, rfl⟩
      case round =>
        obtain ⟨j, S, rfl, rfl, hj, hs, rfl⟩ := hrel
        by_cases hlt : j < M
        · have hln2 : (j : Int) < (M : Int) := by omega
          have hz : (S ++ (⟨#[124, 98, 98]⟩ : ByteArray)).size ≤ 45 + 3 * (j + 1) := by
            rw [ByteArray.size_append]
            show S.size + 3 ≤ _
            omega
          have HZ := Lib.hid hz
          clear hz
          go_wp2_with fail
          refine ⟨⟨j + 1, _, rfl, by go_num, by omega, HZ.out, trivial⟩, ?_⟩
          show M - ((j : Int) + 1).toNat < M - (j : Int).toNat
          omega
        · have hln2 : ¬ (j : Int) < (M : Int) := by omega
          have hsz : S.size ≤ 100 := by omega
          clear hs hj hlt hsN hN hM
          cases bad
          all_goals
            go_wp2_with fail
            go_at_call 9
            refine (HP.out _ _ (by first | omega | (rw [ByteArray.size_append]; show S.size + 2 ≤ _; omega))).mono ?_
            rintro e w1 ⟨hb1, v1, L, k, rfl, hc1, HLN, HRR⟩
            have HB1 := Lib.hid hb1
            have HC1 := Lib.hid hc1
            clear hb1 hc1 HP hsz
            go_wp2_with fail
            go_at_call 10
            refine (HRR.out _).mono ?_
            rintro e w2 ⟨hb2, v2, rfl, hc2⟩
            have HC2 := Lib.hid hc2
            have HC1 := Lib.hid (HC1.out.below hb2)
            have HB2 := Lib.hid (HB1.out.trans (hb2.mono HB1.out.size))
            have HS := Lib.hid (HSC.out w2 v1 v2 L HC1.out hc2 HLN.out.1 HLN.out.2)
            clear hb2 hc2 HRR HSC HLN
            go_wp2_with (first
              | (go_at_call 11; refine HS.out.mono ?_; rintro e w3 ⟨rfl, hb3⟩; have HB3 := Lib.hid (HB2.out.trans (hb3.mono HB2.out.size)); clear hb3)
              | (go_at_call 12; refine (HAW.out _).mono ?_; rintro e w4 ⟨rfl, hb4⟩; have HB4 := Lib.hid (HB3.out.trans (hb4.mono HB3.out.size)); clear hb4))
            go_ret
            exact ⟨rfl, HB4.out⟩
section
open Go.ChangeShapes Go.WideShapes Go.ChangeAt Go.ChangeMaps
theorem relationMany_walk {H : Type} {enc : TypeId × Value → H} (W : World) {base : Nat} (v0 v1 v2 : Value) {d0 d1 d2 : DataW H} {p0 p1 p2 : List MemPlace}
    (h0 : DataW.Trod enc Try.prog W 0 (fun _ => true) true 3 v0 d0 p0) (o0 : Value.okWide Try.prog W .any base 3 v0)
    (h1 : DataW.Trod enc Try.prog W 0 (fun _ => true) true 3 v1 d1 p1) (o1 : Value.okWide Try.prog W .any base 3 v1)
    (h2 : DataW.Trod enc Try.prog W 0 (fun _ => true) true 4 v2 d2 p2) (o2 : Value.okWide Try.prog W .any base 4 v2) :
    Calls Try.prog 3 #[v0, v1, v2] W fun e w' => e = .returned (.bool true) ∧ Below W.heap.size W w' := by
  obtain ⟨x, rfl, rfl, rfl, wx⟩ := open_int Try.underlying3 o0 h0
  obtain ⟨y, rfl, rfl, rfl, wy⟩ := open_int Try.underlying3 o1 h1
  obtain ⟨b, rfl, rfl, rfl⟩ := open_bool Try.underlying4 o2 h2
  exact relationMany_any x y b W
end
end Go.Proofs.Ytdchnllflodmkaa
