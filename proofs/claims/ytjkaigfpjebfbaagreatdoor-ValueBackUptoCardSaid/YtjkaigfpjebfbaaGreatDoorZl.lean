/- ValueWrites: the law. -/
import Derived.Test.YtjkaigfpjebfbaaGreatDoorZo
import Derived.Test.YtjkaigfpjebfbaaGreatDoorW2
import Derived.Test.YtjkaigfpjebfbaaGreatDoorVk
namespace Go.Proofs.YtjkaigfpjebfbaaGreatDoor
open Go.RowKit
set_option linter.unusedVariables false

set_option maxRecDepth 100000 in
set_option maxHeartbeats 1000000 in
theorem writes_heavy (k : Int) (s : ByteArray) (n : Int) (b : Bool) (Ac Aa Ap : Option Addr) (nc cc na ca np cp : Nat) (C : List (List RA)) (A : List RA) (P : List RP) (w : World) (hc : ClsAt w (.slice Ac nc cc) C) (ha : AtsAt w (.slice Aa na ca) A) (hp : PrsAt w (.slice Ap np cp) P) (h1 : C.length ≤ 9223372036854775807) (h2 : A.length ≤ 9223372036854775807) (h3 : P.length ≤ 9223372036854775807) (hl : lightV C A P = false) :
    Calls Tryz.prog 3 #[.agg #[.int .i64 k, .string s, .int .i64 n, .bool b, .slice Ac nc cc, .slice Aa na ca, .slice Ap np cp]] w fun e w' => e = .returned (.bool true) ∧ Below w.heap.size w w' := by
  have HAW := Lib.hid (fun W => awake_any W)
  have HLT : Hid (∀ W, Below w.heap.size w W → Calls Tryz.prog 5 #[.agg #[.int .i64 k, .string s, .int .i64 n, .bool b, .slice Ac nc cc, .slice Aa na ca, .slice Ap np cp]] W fun e w' => e = .returned (.bool false) ∧ Below W.heap.size W w') := Lib.hid (fun W hW => by rw [← hl]; exact light_any k s n b _ _ _ C A P W (hc.below hW) (ha.below hW) (hp.below hW) h1 h2 h3)
  have HBA : Hid (Below w.heap.size w (w.alloc (.cells #[.int .i64 k, .string s, .int .i64 n, .bool b, .slice Ac nc cc, .slice Aa na ca, .slice Ap np cp] 26))) := Lib.hid ((Below.refl _ _).alloc (Nat.le_refl _) _)
  clear hc ha hp h1 h2 h3 hl
  go_enter Tryz.func3, Tryz.ntmps3
  go_wp2_with (first
    | (go_at_call 5; refine (HLT.out _ HBA.out).mono ?_; rintro e w1 ⟨rfl, hb1⟩; have HB1 := Lib.hid hb1; clear hb1)
    | (go_at_call 6; refine (HAW.out _).mono ?_; rintro e w2 ⟨rfl, hb2⟩; have HB2 := Lib.hid hb2; clear hb2))
  go_ret
  exact ⟨rfl, HBA.out.trans ((HB1.out.trans (HB2.out.mono HB1.out.size)).mono HBA.out.size)⟩

theorem sub_or {α : Type} {L L' : List α} {p : α → Prop} (h : L' = L ∨ L' = []) (hp : ∀ x ∈ L, p x) : ∀ x ∈ L', p x := by
  rcases h with rfl | rfl
  · exact hp
  · exact fun x hx => by cases hx
set_option maxRecDepth 100000 in
set_option maxHeartbeats 16000000 in
theorem writes_light (k : Int) (s : ByteArray) (n : Int) (b : Bool) (Ac Aa Ap : Option Addr) (nc cc na ca np cp : Nat) (C : List (List RA)) (A : List RA) (P : List RP) (w : World) (hc : ClsAt w (.slice Ac nc cc) C) (ha : AtsAt w (.slice Aa na ca) A) (hp : PrsAt w (.slice Ap np cp) P) (hl : lightV C A P = true)
    (sC : SzC C) (sA : SzA A) (sP : SzP P) (n0 : -9223372036854775808 ≤ n) (n1 : n ≤ 9223372036854775807) (hT : Tab w) :
    Calls Tryz.prog 3 #[.agg #[.int .i64 k, .string s, .int .i64 n, .bool b, .slice Ac nc cc, .slice Aa na ca, .slice Ap np cp]] w fun e w' => e = .returned (.bool true) ∧ Below w.heap.size w w' := by
  obtain ⟨l1, l2, l3, l4⟩ := lightV_yes hl
  have HAW := Lib.hid (fun W => awake_any W)
  have HLT : Hid (∀ W, Below w.heap.size w W → Calls Tryz.prog 5 #[.agg #[.int .i64 k, .string s, .int .i64 n, .bool b, .slice Ac nc cc, .slice Aa na ca, .slice Ap np cp]] W fun e w' => e = .returned (.bool true) ∧ Below W.heap.size W w') := Lib.hid (fun W hW => by rw [← hl]; exact light_any k s n b _ _ _ C A P W (hc.below hW) (ha.below hW) (hp.below hW) (by omega) (by omega) (by omega))
  have HMD : Hid (∀ W, Below w.heap.size w W → Calls Tryz.prog 7 #[.agg #[.int .i64 k, .string s, .int .i64 n, .bool b, .slice Ac nc cc, .slice Aa na ca, .slice Ap np cp]] W fun e w' => ∃ (q : Nat) (x : Value) (s' : ByteArray) (n' : Int) (b' : Bool) (Ac' Aa' Ap' : Option Addr) (nc' cc' na' ca' np' cp' : Nat) (C' : List (List RA)) (A' : List RA) (P' : List RP), e = .returned (.tuple #[.agg #[x], .agg #[.string (kindB q), .string s', .int .i64 n', .bool b', .slice Ac' nc' cc', .slice Aa' na' ca', .slice Ap' np' cp']]) ∧ Hid (MadeAt w' q x s' n' b' (.slice Ac' nc' cc') (.slice Aa' na' ca') (.slice Ap' np' cp') C' A' P' ∧ SzC C' ∧ SzA A' ∧ SzP P' ∧ -9223372036854775808 ≤ n' ∧ n' ≤ 9223372036854775807 ∧ Below W.heap.size W w')) := Lib.hid (fun W hW => (made_any k s n b _ _ _ C A P W (hc.below hW) (ha.below hW) (hp.below hW) (by omega) (fun l hl => by have := l2 l hl; omega) (by omega) (by omega)).mono fun e w' hh => by
    obtain ⟨q, x, s', n', b', vc', va', vp', C', A', P', he, hM, _, hn', hC', hA', hP', hb⟩ := hh
    have e1 := hM.cls
    have e2 := hM.ats
    have e3 := hM.prs
    obtain ⟨Ac9, cc9, rfl, _⟩ := e1
    obtain ⟨Aa9, ca9, rfl, _⟩ := e2
    obtain ⟨Ap9, cp9, rfl, _⟩ := e3
    refine ⟨q, x, s', n', b', _, _, _, _, _, _, _, _, _, C', A', P', he, Lib.hid ⟨hM, sub_or hC' sC, sub_or hA' sA, sub_or hP' sP, ?_, ?_, hb⟩⟩
    · rcases hn' with rfl | rfl
      · exact n0
      · decide
    · rcases hn' with rfl | rfl
      · exact n1
      · decide)
  have HBA : Hid (Below w.heap.size w (w.alloc (.cells #[.int .i64 k, .string s, .int .i64 n, .bool b, .slice Ac nc cc, .slice Aa na ca, .slice Ap np cp] 26))) := Lib.hid ((Below.refl _ _).alloc (Nat.le_refl _) _)
  have HKA : Hid (Blk (w.alloc (.cells #[.int .i64 k, .string s, .int .i64 n, .bool b, .slice Ac nc cc, .slice Aa na ca, .slice Ap np cp] 26)) w.heap.size 26 #[.int .i64 k, .string s, .int .i64 n, .bool b, .slice Ac nc cc, .slice Aa na ca, .slice Ap np cp]) := Lib.hid (Blk.new w _ _)
  have HTB := Lib.hid hT
  clear hc ha hp hl l1 l2 l3 l4 sC sA sP n0 n1 hT
  go_enter Tryz.func3, Tryz.ntmps3
  go_wp2_with (go_at_call 5; refine (HLT.out _ HBA.out).mono ?_; rintro e w1 ⟨rfl, hb1⟩; have HB1 := Lib.hid (HBA.out.trans (hb1.mono HBA.out.size)); have HK1 := Lib.hid (HKA.out.below hb1 HKA.out.lt); clear hb1; have c0 : w1.cell? ⟨w.heap.size, 0, none⟩ = some (.int .i64 k) := HK1.out.cell 0; have c1 : w1.cell? ⟨w.heap.size, 1, none⟩ = some (.string s) := HK1.out.cell 1; have c2 : w1.cell? ⟨w.heap.size, 2, none⟩ = some (.int .i64 n) := HK1.out.cell 2; have c3 : w1.cell? ⟨w.heap.size, 3, none⟩ = some (.bool b) := HK1.out.cell 3; have c4 : w1.cell? ⟨w.heap.size, 4, none⟩ = some (.slice Ac nc cc) := HK1.out.cell 4; have c5 : w1.cell? ⟨w.heap.size, 5, none⟩ = some (.slice Aa na ca) := HK1.out.cell 5; have c6 : w1.cell? ⟨w.heap.size, 6, none⟩ = some (.slice Ap np cp) := HK1.out.cell 6)
  go_at_call 7
  refine (HMD.out _ HB1.out).mono ?_
  rintro e w2 ⟨q, x, s', n', b', Ac', Aa', Ap', nc', cc', na', ca', np', cp', C', A', P', rfl, hM⟩
  have HB2 := Lib.hid (HB1.out.trans (hM.out.2.2.2.2.2.2.mono HB1.out.size))
  have hK := KB.new hM.out.1 HB2.out
  have h4 : Below w2.heap.size w2 ((w2.alloc (.cells #[x] 30)).alloc (.cells #[.string (kindB q), .string s', .int .i64 n', .bool b', .slice Ac' nc' cc', .slice Aa' na' ca', .slice Ap' np' cp'] 32)) := ((Below.refl _ w2).alloc (Nat.le_refl _) _).alloc (by simp) _
  obtain ⟨w4, hw4⟩ : ∃ w4, w4 = ((w2.alloc (.cells #[x] 30)).alloc (.cells #[.string (kindB q), .string s', .int .i64 n', .bool b', .slice Ac' nc' cc', .slice Aa' na' ca', .slice Ap' np' cp'] 32)) := ⟨_, rfl⟩
  rw [← hw4] at hK h4
  have HX := Lib.hid (hM.out.1.v.kind.shape)
  obtain ⟨X, ok, hwr⟩ := both_write (w := w4) hK.m hM.out.2.1 hM.out.2.2.1 hM.out.2.2.2.1 hM.out.2.2.2.2.1 hM.out.2.2.2.2.2.1 (HTB.out.below (HB2.out.trans (h4.mono HB2.out.size)))
  unfold Wr RWr at hwr
  have HWR := Lib.hid hwr
  have K4 := Lib.hid hK
  clear hwr hK hM h4
  rcases HX.out with hx | ⟨tx, ux, hx⟩
  all_goals subst hx
  · go_upto_region 4 with fail
    rw [← hw4]
    clear hw4
    have a4 : w4.cell? ⟨w2.heap.size, 0, none⟩ = some (.nilIface) := K4.out.a.cell 0
    go_wp2_with (first
      | (go_at_call 8; refine ((HWR.out _ (Below.refl _ _)).1).mono ?_; rintro e w5 ⟨rfl, hb⟩; have K5 := Lib.hid (K4.out.later hb); have HB5 := Lib.hid hb; clear hb; have r0 : w5.cell? ⟨w2.heap.size + 1, 0, none⟩ = some (.string (kindB q)) := K5.out.r.cell 0; have r1 : w5.cell? ⟨w2.heap.size + 1, 1, none⟩ = some (.string s') := K5.out.r.cell 1; have r2 : w5.cell? ⟨w2.heap.size + 1, 2, none⟩ = some (.int .i64 n') := K5.out.r.cell 2; have r3 : w5.cell? ⟨w2.heap.size + 1, 3, none⟩ = some (.bool b') := K5.out.r.cell 3; have r4 : w5.cell? ⟨w2.heap.size + 1, 4, none⟩ = some (.slice Ac' nc' cc') := K5.out.r.cell 4; have r5 : w5.cell? ⟨w2.heap.size + 1, 5, none⟩ = some (.slice Aa' na' ca') := K5.out.r.cell 5; have r6 : w5.cell? ⟨w2.heap.size + 1, 6, none⟩ = some (.slice Ap' np' cp') := K5.out.r.cell 6)
      | (go_at_call 9; refine ((HWR.out _ HB5.out).2).mono ?_; rintro e w6 ⟨rfl, hb⟩; have K6 := Lib.hid (K5.out.later hb); clear hb)
      | (go_at_call 6; refine (HAW.out _).mono ?_; rintro e w7 ⟨rfl, hb⟩; have K7 := Lib.hid (K6.out.later hb); clear hb))
    go_ret
    exact ⟨rfl, K7.out.bl⟩
  · go_upto_region 4 with fail
    rw [← hw4]
    clear hw4
    have a4 : w4.cell? ⟨w2.heap.size, 0, none⟩ = some (.iface tx ux) := K4.out.a.cell 0
    go_wp2_with (first
      | (go_at_call 8; refine ((HWR.out _ (Below.refl _ _)).1).mono ?_; rintro e w5 ⟨rfl, hb⟩; have K5 := Lib.hid (K4.out.later hb); have HB5 := Lib.hid hb; clear hb; have r0 : w5.cell? ⟨w2.heap.size + 1, 0, none⟩ = some (.string (kindB q)) := K5.out.r.cell 0; have r1 : w5.cell? ⟨w2.heap.size + 1, 1, none⟩ = some (.string s') := K5.out.r.cell 1; have r2 : w5.cell? ⟨w2.heap.size + 1, 2, none⟩ = some (.int .i64 n') := K5.out.r.cell 2; have r3 : w5.cell? ⟨w2.heap.size + 1, 3, none⟩ = some (.bool b') := K5.out.r.cell 3; have r4 : w5.cell? ⟨w2.heap.size + 1, 4, none⟩ = some (.slice Ac' nc' cc') := K5.out.r.cell 4; have r5 : w5.cell? ⟨w2.heap.size + 1, 5, none⟩ = some (.slice Aa' na' ca') := K5.out.r.cell 5; have r6 : w5.cell? ⟨w2.heap.size + 1, 6, none⟩ = some (.slice Ap' np' cp') := K5.out.r.cell 6)
      | (go_at_call 9; refine ((HWR.out _ HB5.out).2).mono ?_; rintro e w6 ⟨rfl, hb⟩; have K6 := Lib.hid (K5.out.later hb); clear hb)
      | (go_at_call 6; refine (HAW.out _).mono ?_; rintro e w7 ⟨rfl, hb⟩; have K7 := Lib.hid (K6.out.later hb); clear hb))
    go_ret
    exact ⟨rfl, K7.out.bl⟩
end Go.Proofs.YtjkaigfpjebfbaaGreatDoor
