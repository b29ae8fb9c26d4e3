/- ValueKinds. -/
import Derived.Test.YtjkaigfpjebfbaaW4
import Derived.Test.YtjkaigfpjebfbaaW2
import Derived.Test.YtjkaigfpjebfbaaRb
namespace Go.Proofs.Ytjkaigfpjebfbaa
open Go.RowKit
set_option linter.unusedVariables false


theorem kind_is {q : Nat} {x : Value} (h : VK q x) : ((kindB q).toList == [116, 101, 120, 116]) = decide (q = 1) ∧ ((kindB q).toList == [99, 111, 117, 110, 116]) = decide (q = 2) ∧ ((kindB q).toList == [121, 101, 115]) = decide (q = 3) ∧ ((kindB q).toList == [99, 108, 97, 117, 115, 101, 115]) = decide (q = 4) ∧ ((kindB q).toList == [97, 116, 111, 109, 115]) = decide (q = 5) ∧ ((kindB q).toList == [112, 114, 111, 118, 105, 100, 101, 115]) = decide (q = 6) := by
  rw [ByteArray.toList_eq]
  cases h <;> decide +kernel
theorem VK.shape {q : Nat} {x : Value} (h : VK q x) : x = .nilIface ∨ ∃ t u, x = .iface t u := by
  cases h with
  | none => exact .inl rfl
  | text s => exact .inr ⟨_, _, rfl⟩
  | count n => exact .inr ⟨_, _, rfl⟩
  | yes b => exact .inr ⟨_, _, rfl⟩
  | clauses A n c => exact .inr ⟨_, _, rfl⟩
  | atoms A n c => exact .inr ⟨_, _, rfl⟩
  | provides A n c => exact .inr ⟨_, _, rfl⟩
theorem MadeAt.below {w w' : World} {q : Nat} {x : Value} {s : ByteArray} {n : Int} {b : Bool} {vc va vp : Value} {C : List (List RA)} {A : List RA} {P : List RP} (h : MadeAt w q x s n b vc va vp C A P) (hb : Below w.heap.size w w') : MadeAt w' q x s n b vc va vp C A P :=
  ⟨h.v.below hb, h.t, h.c, h.y, h.cls.below hb, h.ats.below hb, h.prs.below hb, h.hc, h.hi, h.ha, h.hp⟩
/-- A value and the reference's, each in its block. -/
structure KB (w0 w : World) (B q : Nat) (x : Value) (s : ByteArray) (n : Int) (b : Bool) (vc va vp : Value) (C : List (List RA)) (A : List RA) (P : List RP) : Prop where
  a : Blk w B 35 #[x]
  r : Blk w (B + 1) 37 #[.string (kindB q), .string s, .int .i64 n, .bool b, vc, va, vp]
  m : MadeAt w q x s n b vc va vp C A P
  bl : Below w0.heap.size w0 w
theorem KB.later {w0 w w' : World} {B q : Nat} {x : Value} {s : ByteArray} {n : Int} {b : Bool} {vc va vp : Value} {C : List (List RA)} {A : List RA} {P : List RP} (h : KB w0 w B q x s n b vc va vp C A P) (hb : Below w.heap.size w w') : KB w0 w' B q x s n b vc va vp C A P :=
  ⟨h.a.below hb h.a.lt, h.r.below hb h.r.lt, h.m.below hb, h.bl.trans (hb.mono h.bl.size)⟩
theorem KB.new {w0 w : World} {q : Nat} {x : Value} {s : ByteArray} {n : Int} {b : Bool} {vc va vp : Value} {C : List (List RA)} {A : List RA} {P : List RP} (h : MadeAt w q x s n b vc va vp C A P) (hb : Below w0.heap.size w0 w) : KB w0 ((w.alloc (.cells #[x] 35)).alloc (.cells #[.string (kindB q), .string s, .int .i64 n, .bool b, vc, va, vp] 37)) w.heap.size q x s n b vc va vp C A P := by
  have h1 : (w.alloc (.cells #[x] 35)).heap.size = w.heap.size + 1 := by simp
  have hb2 : Below w.heap.size w ((w.alloc (.cells #[x] 35)).alloc (.cells #[.string (kindB q), .string s, .int .i64 n, .bool b, vc, va, vp] 37)) := ((Below.refl _ w).alloc (Nat.le_refl _) _).alloc (by simp) _
  refine ⟨(Blk.new w _ _).alloc _, ?_, h.below hb2, hb.trans (hb2.mono hb.size)⟩
  have := Blk.new (w.alloc (.cells #[x] 35)) 37 #[.string (kindB q), .string s, .int .i64 n, .bool b, vc, va, vp]
  rw [h1] at this
  exact this

set_option maxRecDepth 100000 in
set_option maxHeartbeats 1000000 in
theorem kinds_heavy (k : Int) (s : ByteArray) (n : Int) (b : Bool) (Ac Aa Ap : Option Addr) (nc cc na ca np cp : Nat) (C : List (List RA)) (A : List RA) (P : List RP) (w : World) (hc : ClsAt w (.slice Ac nc cc) C) (ha : AtsAt w (.slice Aa na ca) A) (hp : PrsAt w (.slice Ap np cp) P) (h1 : C.length ≤ 9223372036854775807) (h2 : A.length ≤ 9223372036854775807) (h3 : P.length ≤ 9223372036854775807) (hl : lightV C A P = false) :
    Calls Try.prog 5 #[.agg #[.int .i64 k, .string s, .int .i64 n, .bool b, .slice Ac nc cc, .slice Aa na ca, .slice Ap np cp]] w fun e w' => e = .returned (.bool true) ∧ Below w.heap.size w w' := by
  have HAW := Lib.hid (fun W => awake_any W)
  have HLT : Hid (∀ W, Below w.heap.size w W → Calls Try.prog 12 #[.agg #[.int .i64 k, .string s, .int .i64 n, .bool b, .slice Ac nc cc, .slice Aa na ca, .slice Ap np cp]] W fun e w' => e = .returned (.bool false) ∧ Below W.heap.size W w') := Lib.hid (fun W hW => by rw [← hl]; exact light_any k s n b _ _ _ C A P W (hc.below hW) (ha.below hW) (hp.below hW) h1 h2 h3)
  have HBA : Hid (Below w.heap.size w (w.alloc (.cells #[.int .i64 k, .string s, .int .i64 n, .bool b, .slice Ac nc cc, .slice Aa na ca, .slice Ap np cp] 32))) := Lib.hid ((Below.refl _ _).alloc (Nat.le_refl _) _)
  clear hc ha hp h1 h2 h3 hl
  go_enter Try.func5, Try.ntmps5
  go_wp2_with (first
    | (go_at_call 12; refine (HLT.out _ HBA.out).mono ?_; rintro e w1 ⟨rfl, hb1⟩; have HB1 := Lib.hid hb1; clear hb1)
    | (go_at_call 11; refine (HAW.out _).mono ?_; rintro e w2 ⟨rfl, hb2⟩; have HB2 := Lib.hid hb2; clear hb2))
  go_ret
  exact ⟨rfl, HBA.out.trans ((HB1.out.trans (HB2.out.mono HB1.out.size)).mono HBA.out.size)⟩

set_option maxRecDepth 100000 in
set_option maxHeartbeats 16000000 in
theorem kinds_light (k : Int) (s : ByteArray) (n : Int) (b : Bool) (Ac Aa Ap : Option Addr) (nc cc na ca np cp : Nat) (C : List (List RA)) (A : List RA) (P : List RP) (w : World) (hc : ClsAt w (.slice Ac nc cc) C) (ha : AtsAt w (.slice Aa na ca) A) (hp : PrsAt w (.slice Ap np cp) P) (hl : lightV C A P = true) :
    Calls Try.prog 5 #[.agg #[.int .i64 k, .string s, .int .i64 n, .bool b, .slice Ac nc cc, .slice Aa na ca, .slice Ap np cp]] w fun e w' => e = .returned (.bool true) ∧ Below w.heap.size w w' := by
  obtain ⟨l1, l2, l3, l4⟩ := lightV_yes hl
  have HAW := Lib.hid (fun W => awake_any W)
  have HLT : Hid (∀ W, Below w.heap.size w W → Calls Try.prog 12 #[.agg #[.int .i64 k, .string s, .int .i64 n, .bool b, .slice Ac nc cc, .slice Aa na ca, .slice Ap np cp]] W fun e w' => e = .returned (.bool true) ∧ Below W.heap.size W w') := Lib.hid (fun W hW => by rw [← hl]; exact light_any k s n b _ _ _ C A P W (hc.below hW) (ha.below hW) (hp.below hW) (by omega) (by omega) (by omega))
  have HMD := Lib.hid (fun W (hW : Below w.heap.size w W) => made_any k s n b _ _ _ C A P W (hc.below hW) (ha.below hW) (hp.below hW) (by omega) (fun l hl => by have := l2 l hl; omega) (by omega) (by omega))
  have HBA : Hid (Below w.heap.size w (w.alloc (.cells #[.int .i64 k, .string s, .int .i64 n, .bool b, .slice Ac nc cc, .slice Aa na ca, .slice Ap np cp] 32))) := Lib.hid ((Below.refl _ _).alloc (Nat.le_refl _) _)
  have HKA : Hid (Blk (w.alloc (.cells #[.int .i64 k, .string s, .int .i64 n, .bool b, .slice Ac nc cc, .slice Aa na ca, .slice Ap np cp] 32)) w.heap.size 32 #[.int .i64 k, .string s, .int .i64 n, .bool b, .slice Ac nc cc, .slice Aa na ca, .slice Ap np cp]) := Lib.hid (Blk.new w _ _)
  clear hc ha hp hl l1 l2 l3 l4
  go_enter Try.func5, Try.ntmps5
  go_wp2_with (go_at_call 12; refine (HLT.out _ HBA.out).mono ?_; rintro e w1 ⟨rfl, hb1⟩; have HB1 := Lib.hid (HBA.out.trans (hb1.mono HBA.out.size)); have HK1 := Lib.hid (HKA.out.below hb1 HKA.out.lt); clear hb1; have c0 : w1.cell? ⟨w.heap.size, 0, none⟩ = some (.int .i64 k) := HK1.out.cell 0; have c1 : w1.cell? ⟨w.heap.size, 1, none⟩ = some (.string s) := HK1.out.cell 1; have c2 : w1.cell? ⟨w.heap.size, 2, none⟩ = some (.int .i64 n) := HK1.out.cell 2; have c3 : w1.cell? ⟨w.heap.size, 3, none⟩ = some (.bool b) := HK1.out.cell 3; have c4 : w1.cell? ⟨w.heap.size, 4, none⟩ = some (.slice Ac nc cc) := HK1.out.cell 4; have c5 : w1.cell? ⟨w.heap.size, 5, none⟩ = some (.slice Aa na ca) := HK1.out.cell 5; have c6 : w1.cell? ⟨w.heap.size, 6, none⟩ = some (.slice Ap np cp) := HK1.out.cell 6)
  go_at_call 13
  refine (HMD.out _ HB1.out).mono ?_
  rintro e w2 ⟨q, x, s', n', b', vc', va', vp', C', A', P', rfl, hM, _, _, _, _, hb2⟩
  have HB2 := Lib.hid (HB1.out.trans (hb2.mono HB1.out.size))
  obtain ⟨Ac9, cc9, e1, _⟩ := id hM.cls
  obtain ⟨Aa9, ca9, e2, _⟩ := id hM.ats
  obtain ⟨Ap9, cp9, e3, _⟩ := id hM.prs
  obtain ⟨nc9, hn1⟩ : ∃ m, m = C'.length := ⟨_, rfl⟩
  obtain ⟨na9, hn2⟩ : ∃ m, m = A'.length := ⟨_, rfl⟩
  obtain ⟨np9, hn3⟩ : ∃ m, m = P'.length := ⟨_, rfl⟩
  rw [← hn1] at e1
  rw [← hn2] at e2
  rw [← hn3] at e3
  subst e1 e2 e3
  have hK := KB.new hM HB2.out
  obtain ⟨w4, hw4⟩ : ∃ w4, w4 = ((w2.alloc (.cells #[x] 35)).alloc (.cells #[.string (kindB q), .string s', .int .i64 n', .bool b', .slice Ac9 nc9 cc9, .slice Aa9 na9 ca9, .slice Ap9 np9 cp9] 37)) := ⟨_, rfl⟩
  have hq := hM.v.kind
  obtain ⟨k1, k2, k3, k4, k5, k6⟩ := kind_is hq
  have HT : Hid (∀ W, Calls Try.prog 21 #[.agg #[x]] W fun e w' => e = .returned (.tuple #[.string s', .bool (decide (q = 1))]) ∧ Below W.heap.size W w') := Lib.hid (fun W => by have h := Text_any hq W; rw [hM.t] at h; exact h)
  have HC : Hid (∀ W, Calls Try.prog 22 #[.agg #[x]] W fun e w' => e = .returned (.tuple #[.int .i64 n', .bool (decide (q = 2))]) ∧ Below W.heap.size W w') := Lib.hid (fun W => by have h := Count_any hq W; rw [hM.c] at h; exact h)
  have HY : Hid (∀ W, Calls Try.prog 23 #[.agg #[x]] W fun e w' => e = .returned (.tuple #[.bool b', .bool (decide (q = 3))]) ∧ Below W.heap.size W w') := Lib.hid (fun W => by have h := Yes_any hq W; rw [hM.y] at h; exact h)
  have HCl := Lib.hid (fun W (hv : VAt W q x C' A' P') => Clauses_any W hv)
  have HAt := Lib.hid (fun W (hv : VAt W q x C' A' P') => Atoms_any W hv)
  have HPr := Lib.hid (fun W (hv : VAt W q x C' A' P') => Provides_any W hv)
  have HKi := Lib.hid (fun W => Kind_any hq W)
  have HSC : Hid (∀ u v W, ClsAt W u C' → ClsAt W v C' → Calls Try.prog 28 #[u, v] W fun e w' => e = .returned (.bool true) ∧ ∃ m, w' = W.drewN m) := Lib.hid (fun u v W h1 h2 => by have h := SameClauses_any u v C' C' W h1 h2 (by have := hM.hc; omega) (fun l hl => by have := hM.hi l hl; omega); rw [decide_eq_true rfl] at h; exact h)
  have HSA : Hid (∀ u v W, AtsAt W u A' → AtsAt W v A' → Calls Try.prog 29 #[u, v] W fun e w' => e = .returned (.bool true) ∧ ∃ m, w' = W.drewN m) := Lib.hid (fun u v W h1 h2 => by have h := SameAtoms_any u v A' A' W h1 h2 (by have := hM.ha; omega); rw [decide_eq_true rfl] at h; exact h)
  have HSP : Hid (∀ u v W, PrsAt W u P' → PrsAt W v P' → Calls Try.prog 30 #[u, v] W fun e w' => e = .returned (.bool true) ∧ ∃ m, w' = W.drewN m) := Lib.hid (fun u v W h1 h2 => by have h := SameProvides_any u v P' P' W h1 h2 (by have := hM.hp; omega); rw [decide_eq_true rfl] at h; exact h)
  rw [← hw4] at hK
  have K4 := Lib.hid hK
  have HX := Lib.hid hq.shape
  clear hn1 hn2 hn3 hM hq hK hb2
  obtain ⟨KBs, hkb⟩ : ∃ B, B = kindB q := ⟨_, rfl⟩
  generalize hd1 : decide (q = 1) = d1 at *
  generalize hd2 : decide (q = 2) = d2 at *
  generalize hd3 : decide (q = 3) = d3 at *
  generalize hd4 : decide (q = 4) = d4 at *
  generalize hd5 : decide (q = 5) = d5 at *
  generalize hd6 : decide (q = 6) = d6 at *
  rcases HX.out with hx | ⟨tx, ux, hx⟩
  all_goals subst hx

  · go_upto_region 4 with fail
    rw [← hw4]
    clear hw4
    have a4 : w4.cell? ⟨w2.heap.size, 0, none⟩ = some .nilIface := K4.out.a.cell 0
    go_wp2_with (first | (go_at_call 21; refine (HT.out _).mono ?_; rintro e w5 ⟨rfl, hb⟩; have K5 := Lib.hid (K4.out.later hb); clear hb; have a5 : w5.cell? ⟨w2.heap.size, 0, none⟩ = some .nilIface := K5.out.a.cell 0; skip) | (go_at_call 22; refine (HC.out _).mono ?_; rintro e w6 ⟨rfl, hb⟩; have K6 := Lib.hid (K5.out.later hb); clear hb; have a6 : w6.cell? ⟨w2.heap.size, 0, none⟩ = some .nilIface := K6.out.a.cell 0; skip) | (go_at_call 23; refine (HY.out _).mono ?_; rintro e w7 ⟨rfl, hb⟩; have K7 := Lib.hid (K6.out.later hb); clear hb; have a7 : w7.cell? ⟨w2.heap.size, 0, none⟩ = some .nilIface := K7.out.a.cell 0; skip) | (go_at_call 24; refine (HCl.out _ K7.out.m.v).mono ?_; rintro e w8 ⟨u1, rfl, hu, hb⟩; have K8 := Lib.hid (K7.out.later hb); have HU1 := Lib.hid hu; clear hb hu; have a8 : w8.cell? ⟨w2.heap.size, 0, none⟩ = some .nilIface := K8.out.a.cell 0; skip) | (go_at_call 25; refine (HAt.out _ K8.out.m.v).mono ?_; rintro e w9 ⟨u2, rfl, hu, hb⟩; have K9 := Lib.hid (K8.out.later hb); have HU1 := Lib.hid (HU1.out.below hb); have HU2 := Lib.hid hu; clear hb hu; have a9 : w9.cell? ⟨w2.heap.size, 0, none⟩ = some .nilIface := K9.out.a.cell 0; skip) | (go_at_call 26; refine (HPr.out _ K9.out.m.v).mono ?_; rintro e w10 ⟨u3, rfl, hu, hb⟩; have K10 := Lib.hid (K9.out.later hb); have HU1 := Lib.hid (HU1.out.below hb); have HU2 := Lib.hid (HU2.out.below hb); have HU3 := Lib.hid hu; clear hb hu; have a10 : w10.cell? ⟨w2.heap.size, 0, none⟩ = some .nilIface := K10.out.a.cell 0; have r10_0 : w10.cell? ⟨w2.heap.size + 1, 0, none⟩ = some (.string (kindB q)) := K10.out.r.cell 0; have r10_1 : w10.cell? ⟨w2.heap.size + 1, 1, none⟩ = some (.string s') := K10.out.r.cell 1; have r10_2 : w10.cell? ⟨w2.heap.size + 1, 2, none⟩ = some (.int .i64 n') := K10.out.r.cell 2; have r10_3 : w10.cell? ⟨w2.heap.size + 1, 3, none⟩ = some (.bool b') := K10.out.r.cell 3; have r10_4 : w10.cell? ⟨w2.heap.size + 1, 4, none⟩ = some (.slice Ac9 nc9 cc9) := K10.out.r.cell 4; have r10_5 : w10.cell? ⟨w2.heap.size + 1, 5, none⟩ = some (.slice Aa9 na9 ca9) := K10.out.r.cell 5; have r10_6 : w10.cell? ⟨w2.heap.size + 1, 6, none⟩ = some (.slice Ap9 np9 cp9) := K10.out.r.cell 6; skip) | (go_at_call 27; refine (HKi.out _).mono ?_; rintro e w11 ⟨rfl, hb⟩; have K11 := Lib.hid (K10.out.later hb); have HU1 := Lib.hid (HU1.out.below hb); have HU2 := Lib.hid (HU2.out.below hb); have HU3 := Lib.hid (HU3.out.below hb); clear hb; have r11_1 : w11.cell? ⟨w2.heap.size + 1, 1, none⟩ = some (.string s') := K11.out.r.cell 1; have r11_2 : w11.cell? ⟨w2.heap.size + 1, 2, none⟩ = some (.int .i64 n') := K11.out.r.cell 2; have r11_3 : w11.cell? ⟨w2.heap.size + 1, 3, none⟩ = some (.bool b') := K11.out.r.cell 3; have r11_4 : w11.cell? ⟨w2.heap.size + 1, 4, none⟩ = some (.slice Ac9 nc9 cc9) := K11.out.r.cell 4; have r11_5 : w11.cell? ⟨w2.heap.size + 1, 5, none⟩ = some (.slice Aa9 na9 ca9) := K11.out.r.cell 5; have r11_6 : w11.cell? ⟨w2.heap.size + 1, 6, none⟩ = some (.slice Ap9 np9 cp9) := K11.out.r.cell 6; skip) | (go_at_call 28; refine (HSC.out _ _ _ HU1.out K11.out.m.cls).mono ?_; rintro e w12 ⟨rfl, m, hm⟩; have hb : Below w11.heap.size w11 w12 := (by rw [hm]; exact below_drewN _ _); have K12 := Lib.hid (K11.out.later hb); have HU2 := Lib.hid (HU2.out.below hb); have HU3 := Lib.hid (HU3.out.below hb); clear hb hm; have r12_5 : w12.cell? ⟨w2.heap.size + 1, 5, none⟩ = some (.slice Aa9 na9 ca9) := K12.out.r.cell 5; have r12_6 : w12.cell? ⟨w2.heap.size + 1, 6, none⟩ = some (.slice Ap9 np9 cp9) := K12.out.r.cell 6; skip) | (go_at_call 29; refine (HSA.out _ _ _ HU2.out K12.out.m.ats).mono ?_; rintro e w13 ⟨rfl, m, hm⟩; have hb : Below w12.heap.size w12 w13 := (by rw [hm]; exact below_drewN _ _); have K13 := Lib.hid (K12.out.later hb); have HU3 := Lib.hid (HU3.out.below hb); clear hb hm; have r13_6 : w13.cell? ⟨w2.heap.size + 1, 6, none⟩ = some (.slice Ap9 np9 cp9) := K13.out.r.cell 6; skip) | (go_at_call 30; refine (HSP.out _ _ _ HU3.out K13.out.m.prs).mono ?_; rintro e w14 ⟨rfl, m, hm⟩; have hb : Below w13.heap.size w13 w14 := (by rw [hm]; exact below_drewN _ _); have K14 := Lib.hid (K13.out.later hb); clear hb hm) | (go_at_call 11; refine (HAW.out _).mono ?_; rintro e w15 ⟨rfl, hb⟩; have K15 := Lib.hid (K14.out.later hb); clear hb))
    go_ret
    exact ⟨rfl, K15.out.bl⟩
  · go_upto_region 4 with fail
    rw [← hw4]
    clear hw4
    have a4 : w4.cell? ⟨w2.heap.size, 0, none⟩ = some (.iface tx ux) := K4.out.a.cell 0
    go_wp2_with (first | (go_at_call 21; refine (HT.out _).mono ?_; rintro e w5 ⟨rfl, hb⟩; have K5 := Lib.hid (K4.out.later hb); clear hb; have a5 : w5.cell? ⟨w2.heap.size, 0, none⟩ = some (.iface tx ux) := K5.out.a.cell 0; skip) | (go_at_call 22; refine (HC.out _).mono ?_; rintro e w6 ⟨rfl, hb⟩; have K6 := Lib.hid (K5.out.later hb); clear hb; have a6 : w6.cell? ⟨w2.heap.size, 0, none⟩ = some (.iface tx ux) := K6.out.a.cell 0; skip) | (go_at_call 23; refine (HY.out _).mono ?_; rintro e w7 ⟨rfl, hb⟩; have K7 := Lib.hid (K6.out.later hb); clear hb; have a7 : w7.cell? ⟨w2.heap.size, 0, none⟩ = some (.iface tx ux) := K7.out.a.cell 0; skip) | (go_at_call 24; refine (HCl.out _ K7.out.m.v).mono ?_; rintro e w8 ⟨u1, rfl, hu, hb⟩; have K8 := Lib.hid (K7.out.later hb); have HU1 := Lib.hid hu; clear hb hu; have a8 : w8.cell? ⟨w2.heap.size, 0, none⟩ = some (.iface tx ux) := K8.out.a.cell 0; skip) | (go_at_call 25; refine (HAt.out _ K8.out.m.v).mono ?_; rintro e w9 ⟨u2, rfl, hu, hb⟩; have K9 := Lib.hid (K8.out.later hb); have HU1 := Lib.hid (HU1.out.below hb); have HU2 := Lib.hid hu; clear hb hu; have a9 : w9.cell? ⟨w2.heap.size, 0, none⟩ = some (.iface tx ux) := K9.out.a.cell 0; skip) | (go_at_call 26; refine (HPr.out _ K9.out.m.v).mono ?_; rintro e w10 ⟨u3, rfl, hu, hb⟩; have K10 := Lib.hid (K9.out.later hb); have HU1 := Lib.hid (HU1.out.below hb); have HU2 := Lib.hid (HU2.out.below hb); have HU3 := Lib.hid hu; clear hb hu; have a10 : w10.cell? ⟨w2.heap.size, 0, none⟩ = some (.iface tx ux) := K10.out.a.cell 0; have r10_0 : w10.cell? ⟨w2.heap.size + 1, 0, none⟩ = some (.string (kindB q)) := K10.out.r.cell 0; have r10_1 : w10.cell? ⟨w2.heap.size + 1, 1, none⟩ = some (.string s') := K10.out.r.cell 1; have r10_2 : w10.cell? ⟨w2.heap.size + 1, 2, none⟩ = some (.int .i64 n') := K10.out.r.cell 2; have r10_3 : w10.cell? ⟨w2.heap.size + 1, 3, none⟩ = some (.bool b') := K10.out.r.cell 3; have r10_4 : w10.cell? ⟨w2.heap.size + 1, 4, none⟩ = some (.slice Ac9 nc9 cc9) := K10.out.r.cell 4; have r10_5 : w10.cell? ⟨w2.heap.size + 1, 5, none⟩ = some (.slice Aa9 na9 ca9) := K10.out.r.cell 5; have r10_6 : w10.cell? ⟨w2.heap.size + 1, 6, none⟩ = some (.slice Ap9 np9 cp9) := K10.out.r.cell 6; skip) | (go_at_call 27; refine (HKi.out _).mono ?_; rintro e w11 ⟨rfl, hb⟩; have K11 := Lib.hid (K10.out.later hb); have HU1 := Lib.hid (HU1.out.below hb); have HU2 := Lib.hid (HU2.out.below hb); have HU3 := Lib.hid (HU3.out.below hb); clear hb; have r11_1 : w11.cell? ⟨w2.heap.size + 1, 1, none⟩ = some (.string s') := K11.out.r.cell 1; have r11_2 : w11.cell? ⟨w2.heap.size + 1, 2, none⟩ = some (.int .i64 n') := K11.out.r.cell 2; have r11_3 : w11.cell? ⟨w2.heap.size + 1, 3, none⟩ = some (.bool b') := K11.out.r.cell 3; have r11_4 : w11.cell? ⟨w2.heap.size + 1, 4, none⟩ = some (.slice Ac9 nc9 cc9) := K11.out.r.cell 4; have r11_5 : w11.cell? ⟨w2.heap.size + 1, 5, none⟩ = some (.slice Aa9 na9 ca9) := K11.out.r.cell 5; have r11_6 : w11.cell? ⟨w2.heap.size + 1, 6, none⟩ = some (.slice Ap9 np9 cp9) := K11.out.r.cell 6; skip) | (go_at_call 28; refine (HSC.out _ _ _ HU1.out K11.out.m.cls).mono ?_; rintro e w12 ⟨rfl, m, hm⟩; have hb : Below w11.heap.size w11 w12 := (by rw [hm]; exact below_drewN _ _); have K12 := Lib.hid (K11.out.later hb); have HU2 := Lib.hid (HU2.out.below hb); have HU3 := Lib.hid (HU3.out.below hb); clear hb hm; have r12_5 : w12.cell? ⟨w2.heap.size + 1, 5, none⟩ = some (.slice Aa9 na9 ca9) := K12.out.r.cell 5; have r12_6 : w12.cell? ⟨w2.heap.size + 1, 6, none⟩ = some (.slice Ap9 np9 cp9) := K12.out.r.cell 6; skip) | (go_at_call 29; refine (HSA.out _ _ _ HU2.out K12.out.m.ats).mono ?_; rintro e w13 ⟨rfl, m, hm⟩; have hb : Below w12.heap.size w12 w13 := (by rw [hm]; exact below_drewN _ _); have K13 := Lib.hid (K12.out.later hb); have HU3 := Lib.hid (HU3.out.below hb); clear hb hm; have r13_6 : w13.cell? ⟨w2.heap.size + 1, 6, none⟩ = some (.slice Ap9 np9 cp9) := K13.out.r.cell 6; skip) | (go_at_call 30; refine (HSP.out _ _ _ HU3.out K13.out.m.prs).mono ?_; rintro e w14 ⟨rfl, m, hm⟩; have hb : Below w13.heap.size w13 w14 := (by rw [hm]; exact below_drewN _ _); have K14 := Lib.hid (K13.out.later hb); clear hb hm) | (go_at_call 11; refine (HAW.out _).mono ?_; rintro e w15 ⟨rfl, hb⟩; have K15 := Lib.hid (K14.out.later hb); clear hb))
    go_ret
    exact ⟨rfl, K15.out.bl⟩
end Go.Proofs.Ytjkaigfpjebfbaa
