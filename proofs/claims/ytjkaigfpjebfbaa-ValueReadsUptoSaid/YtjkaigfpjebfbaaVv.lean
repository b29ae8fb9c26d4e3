/- ValueReads: the law, at any two texts. -/
import Derived.Test.YtjkaigfpjebfbaaX3
namespace Go.Proofs.Ytjkaigfpjebfbaa
open Go.RowKit
set_option linter.unusedVariables false

theorem vk_nil {q : Nat} (h : VK q .nilIface) : q = 0 := by cases h; rfl
/-- A value and the reference's, each in its block, apart. -/
structure KC (w0 w : World) (B D q : Nat) (x : Value) (s : ByteArray) (n : Int) (b : Bool) (vc va vp : Value) (C : List (List RA)) (A : List RA) (P : List RP) : Prop where
  a : Blk w B 35 #[x]
  r : Blk w D 37 #[.string (kindB q), .string s, .int .i64 n, .bool b, vc, va, vp]
  m : MadeAt w q x s n b vc va vp C A P
  bl : Below w0.heap.size w0 w
theorem KC.later {w0 w w' : World} {B D q : Nat} {x : Value} {s : ByteArray} {n : Int} {b : Bool} {vc va vp : Value} {C : List (List RA)} {A : List RA} {P : List RP} (h : KC w0 w B D q x s n b vc va vp C A P) (hb : Below w.heap.size w w') : KC w0 w' B D q x s n b vc va vp C A P :=
  ⟨h.a.below hb h.a.lt, h.r.below hb h.r.lt, h.m.below hb, h.bl.trans (hb.mono h.bl.size)⟩

set_option maxRecDepth 100000 in
set_option maxHeartbeats 4000000 in
theorem reads_bad (nm s : ByteArray) (q : Nat) (t : ByteArray) (n : Int) (b : Bool) (C : List (List RA)) (A : List RA) (P : List RP) (E : Int) (hB : BothR nm s q t n b C A P E) (hE : E ≠ 0) (w : World) :
    Calls Try.prog 6 #[.string nm, .string s] w fun e w' => e = .returned (.bool true) ∧ Below w.heap.size w w' := by
  have HAW := Lib.hid (fun W => awake_any W)
  have HV : Hid (∀ W, Calls Try.prog 31 #[.string nm, .string s] W fun e w' => e = .returned (.tuple #[.agg #[.nilIface], .int .i64 E]) ∧ Below W.heap.size W w') := Lib.hid (fun W => (hB.1 W).mono fun e w' ⟨x, he, _, hx, hb⟩ => ⟨by rw [he, hx hE], hb⟩)
  have HR : Hid (∀ W, Calls Try.prog 32 #[.string nm, .string s] W fun e w' => (∃ K vs vn vb Ac nc cc Aa na ca Ap np cp, e = .returned (.tuple #[.agg #[.string K, .string vs, .int .i64 vn, .bool vb, .slice Ac nc cc, .slice Aa na ca, .slice Ap np cp], .int .i64 E])) ∧ Below W.heap.size W w') := Lib.hid (fun W => (hB.2 W).mono fun e w' ⟨K, vs, vn, vb, a, b, c, d, f, g, h, i, j, he, _, hb⟩ => ⟨⟨K, vs, vn, vb, a, b, c, d, f, g, h, i, j, he⟩, hb⟩)
  have HKI : Hid (∀ W, Calls Try.prog 27 #[.agg #[.nilIface]] W fun e w' => e = .returned (.string (kindB 0)) ∧ Below W.heap.size W w') := Lib.hid (fun W => Kind_any VK.none W)
  have q1 : (E != 0) = true := by rw [bne_iff_ne]; exact hE
  have hk0 : ((kindB 0).toList == [110, 111, 110, 101]) = true := by rw [ByteArray.toList_eq]; decide +kernel
  clear hB hE
  go_enter Try.func6, Try.ntmps6
  go_upto_region 2 with (go_at_call 31; refine (HV.out _).mono ?_; rintro e w1 ⟨rfl, hb⟩; have HB1 := Lib.hid hb; clear hb)
  obtain ⟨w2, hw2⟩ : ∃ w2, w2 = w1.alloc (.cells #[.nilIface] 35) := ⟨_, rfl⟩
  rw [← hw2]
  have HA2 : Hid (Blk w2 w1.heap.size 35 #[.nilIface]) := Lib.hid (by rw [hw2]; exact Blk.new w1 _ _)
  have HB2 : Hid (Below w.heap.size w w2) := Lib.hid (by rw [hw2]; exact HB1.out.alloc HB1.out.size _)
  clear hw2
  go_upto_region 3 with (go_at_call 32; refine (HR.out _).mono ?_; rintro e w3 ⟨⟨K, vs, vn, vb, Ac9, nc9, cc9, Aa9, na9, ca9, Ap9, np9, cp9, rfl⟩, hb⟩; have HA3 := Lib.hid (HA2.out.below hb HA2.out.lt); have HB3 := Lib.hid (HB2.out.trans (hb.mono HB2.out.size)); clear hb)
  obtain ⟨w4, hw4⟩ : ∃ w4, w4 = w3.alloc (.cells #[.string K, .string vs, .int .i64 vn, .bool vb, .slice Ac9 nc9 cc9, .slice Aa9 na9 ca9, .slice Ap9 np9 cp9] 37) := ⟨_, rfl⟩
  rw [← hw4]
  have HA4 : Hid (Blk w4 w1.heap.size 35 #[.nilIface]) := Lib.hid (by rw [hw4]; exact HA3.out.alloc _)
  have HB4 : Hid (Below w.heap.size w w4) := Lib.hid (by rw [hw4]; exact HB3.out.alloc HB3.out.size _)
  clear hw4
  have a4 : w4.cell? ⟨w1.heap.size, 0, none⟩ = some .nilIface := HA4.out.cell 0
  go_wp2_with (first | (go_at_call 27; refine (HKI.out _).mono ?_; rintro e w5 ⟨rfl, hb⟩; have HB5 := Lib.hid (HB4.out.trans (hb.mono HB4.out.size)); clear hb) | (go_at_call 11; refine (HAW.out _).mono ?_; rintro e w6 ⟨rfl, hb⟩; have HB6 := Lib.hid (HB5.out.trans (hb.mono HB5.out.size)); clear hb))
  go_ret
  exact ⟨rfl, HB6.out⟩

set_option maxRecDepth 100000 in
set_option maxHeartbeats 16000000 in
theorem reads_good (nm s : ByteArray) (q : Nat) (t : ByteArray) (n : Int) (b : Bool) (C : List (List RA)) (A : List RA) (P : List RP) (hB : BothR nm s q t n b C A P 0) (hq0 : q ≠ 0) (w : World) :
    Calls Try.prog 6 #[.string nm, .string s] w fun e w' => e = .returned (.bool true) ∧ Below w.heap.size w w' := by
  have HAW := Lib.hid (fun W => awake_any W)
  have HV : Hid (∀ W, Calls Try.prog 31 #[.string nm, .string s] W fun e w' => (∃ tx ux, e = .returned (.tuple #[.agg #[.iface tx ux], .int .i64 0]) ∧ VAt w' q (.iface tx ux) C A P ∧ asText (.iface tx ux) = (.string t, decide (q = 1)) ∧ asCount (.iface tx ux) = (.int .i64 n, decide (q = 2)) ∧ asYes (.iface tx ux) = (.bool b, decide (q = 3))) ∧ Below W.heap.size W w') := Lib.hid (fun W => (hB.1 W).mono fun e w' ⟨x, he, hx, _, hb⟩ => by
    have hx := hx rfl
    rcases hx.1.kind.shape with h0 | ⟨tx, ux, h0⟩
    · subst h0
      exact absurd (vk_nil hx.1.kind) hq0
    · subst h0
      exact ⟨⟨tx, ux, he, hx⟩, hb⟩)
  have HR : Hid (∀ W, Calls Try.prog 32 #[.string nm, .string s] W fun e w' => (∃ Ac nc cc Aa na ca Ap np cp, e = .returned (.tuple #[.agg #[.string (kindB q), .string t, .int .i64 n, .bool b, .slice Ac nc cc, .slice Aa na ca, .slice Ap np cp], .int .i64 0]) ∧ ClsAt w' (.slice Ac nc cc) C ∧ AtsAt w' (.slice Aa na ca) A ∧ PrsAt w' (.slice Ap np cp) P) ∧ Below W.heap.size W w') := Lib.hid (fun W => (hB.2 W).mono fun e w' ⟨K, vs, vn, vb, _, _, _, _, _, _, _, _, _, he, hx, hb⟩ => by
    obtain ⟨rfl, rfl, rfl, rfl, hc, ha, hp⟩ := hx rfl
    exact ⟨⟨_, _, _, _, _, _, _, _, _, he, hc, ha, hp⟩, hb⟩)
  clear hB hq0
  go_enter Try.func6, Try.ntmps6
  go_upto_region 2 with (go_at_call 31; refine (HV.out _).mono ?_; rintro e w1 ⟨⟨tx, ux, rfl, hv, ht, hn, hy⟩, hb⟩; have HB1 := Lib.hid hb; clear hb)
  obtain ⟨w2, hw2⟩ : ∃ w2, w2 = w1.alloc (.cells #[.iface tx ux] 35) := ⟨_, rfl⟩
  rw [← hw2]
  have HA2 : Hid (Blk w2 w1.heap.size 35 #[.iface tx ux]) := Lib.hid (by rw [hw2]; exact Blk.new w1 _ _)
  have HB2 : Hid (Below w.heap.size w w2) := Lib.hid (by rw [hw2]; exact HB1.out.alloc HB1.out.size _)
  have HV2 : Hid (VAt w2 q (.iface tx ux) C A P) := Lib.hid (by rw [hw2]; exact hv.below ((Below.refl _ _).alloc (Nat.le_refl _) _))
  have HTX := Lib.hid (And.intro ht (And.intro hn hy))
  clear hw2 hv ht hn hy
  go_upto_region 3 with (go_at_call 32; refine (HR.out _).mono ?_; rintro e w3 ⟨⟨Ac9, nc9, cc9, Aa9, na9, ca9, Ap9, np9, cp9, rfl, hc, ha, hp⟩, hb⟩; have HA3 := Lib.hid (HA2.out.below hb HA2.out.lt); have HV3 := Lib.hid (HV2.out.below hb); have HB3 := Lib.hid (HB2.out.trans (hb.mono HB2.out.size)); have HC3 := Lib.hid (And.intro hc (And.intro ha hp)); clear hb hc ha hp)
  obtain ⟨w4, hw4⟩ : ∃ w4, w4 = w3.alloc (.cells #[.string (kindB q), .string t, .int .i64 n, .bool b, .slice Ac9 nc9 cc9, .slice Aa9 na9 ca9, .slice Ap9 np9 cp9] 37) := ⟨_, rfl⟩
  rw [← hw4]
  have K4 : Hid (KC w w4 w1.heap.size w3.heap.size q (.iface tx ux) t n b (.slice Ac9 nc9 cc9) (.slice Aa9 na9 ca9) (.slice Ap9 np9 cp9) C A P) := Lib.hid (by
    have hb : Below w3.heap.size w3 w4 := by rw [hw4]; exact (Below.refl _ _).alloc (Nat.le_refl _) _
    refine ⟨HA3.out.below hb HA3.out.lt, by rw [hw4]; exact Blk.new w3 _ _, ?_, HB3.out.trans (hb.mono HB3.out.size)⟩
    have hv := HV3.out.below hb
    exact ⟨hv, HTX.out.1, HTX.out.2.1, HTX.out.2.2, HC3.out.1.below hb, HC3.out.2.1.below hb, HC3.out.2.2.below hb, hv.bounds.1, hv.bounds.2.1, hv.bounds.2.2.1, hv.bounds.2.2.2⟩)
  have hM := K4.out.m
  have hq := hM.v.kind
  obtain ⟨B, hBe⟩ : ∃ B, B = w1.heap.size := ⟨_, rfl⟩
  obtain ⟨D, hDe⟩ : ∃ D, D = w3.heap.size := ⟨_, rfl⟩
  rw [← hBe, ← hDe] at K4
  rw [← hBe, ← hDe]
  have HT : Hid (∀ W, Calls Try.prog 21 #[.agg #[.iface tx ux]] W fun e w' => e = .returned (.tuple #[.string t, .bool (decide (q = 1))]) ∧ Below W.heap.size W w') := Lib.hid (fun W => by have h := Text_any hq W; rw [hM.t] at h; exact h)
  have HC : Hid (∀ W, Calls Try.prog 22 #[.agg #[.iface tx ux]] W fun e w' => e = .returned (.tuple #[.int .i64 n, .bool (decide (q = 2))]) ∧ Below W.heap.size W w') := Lib.hid (fun W => by have h := Count_any hq W; rw [hM.c] at h; exact h)
  have HY : Hid (∀ W, Calls Try.prog 23 #[.agg #[.iface tx ux]] W fun e w' => e = .returned (.tuple #[.bool b, .bool (decide (q = 3))]) ∧ Below W.heap.size W w') := Lib.hid (fun W => by have h := Yes_any hq W; rw [hM.y] at h; exact h)
  have HCl := Lib.hid (fun W (hv : VAt W q (.iface tx ux) C A P) => Clauses_any W hv)
  have HAt := Lib.hid (fun W (hv : VAt W q (.iface tx ux) C A P) => Atoms_any W hv)
  have HPr := Lib.hid (fun W (hv : VAt W q (.iface tx ux) C A P) => Provides_any W hv)
  have HKi := Lib.hid (fun W => Kind_any hq W)
  have HSC : Hid (∀ u v W, ClsAt W u C → ClsAt W v C → Calls Try.prog 28 #[u, v] W fun e w' => e = .returned (.bool true) ∧ ∃ m, w' = W.drewN m) := Lib.hid (fun u v W h1 h2 => by have h := SameClauses_any u v C C W h1 h2 (by have := hM.hc; omega) (fun l hl => by have := hM.hi l hl; omega); rw [decide_eq_true rfl] at h; exact h)
  have HSA : Hid (∀ u v W, AtsAt W u A → AtsAt W v A → Calls Try.prog 29 #[u, v] W fun e w' => e = .returned (.bool true) ∧ ∃ m, w' = W.drewN m) := Lib.hid (fun u v W h1 h2 => by have h := SameAtoms_any u v A A W h1 h2 (by have := hM.ha; omega); rw [decide_eq_true rfl] at h; exact h)
  have HSP : Hid (∀ u v W, PrsAt W u P → PrsAt W v P → Calls Try.prog 30 #[u, v] W fun e w' => e = .returned (.bool true) ∧ ∃ m, w' = W.drewN m) := Lib.hid (fun u v W h1 h2 => by have h := SameProvides_any u v P P W h1 h2 (by have := hM.hp; omega); rw [decide_eq_true rfl] at h; exact h)
  clear hM hq hw4 hBe hDe
  generalize hd1 : decide (q = 1) = d1 at *
  generalize hd2 : decide (q = 2) = d2 at *
  generalize hd3 : decide (q = 3) = d3 at *

  have a4 : w4.cell? ⟨B, 0, none⟩ = some (.iface tx ux) := K4.out.a.cell 0
  go_upto_region 13 with (first | (go_at_call 21; refine (HT.out _).mono ?_; rintro e w5 ⟨rfl, hb⟩; have K5 := Lib.hid (K4.out.later hb); clear hb; have a5 : w5.cell? ⟨B, 0, none⟩ = some (.iface tx ux) := K5.out.a.cell 0;  skip) | (go_at_call 22; refine (HC.out _).mono ?_; rintro e w6 ⟨rfl, hb⟩; have K6 := Lib.hid (K5.out.later hb); clear hb; have a6 : w6.cell? ⟨B, 0, none⟩ = some (.iface tx ux) := K6.out.a.cell 0;  skip) | (go_at_call 23; refine (HY.out _).mono ?_; rintro e w7 ⟨rfl, hb⟩; have K7 := Lib.hid (K6.out.later hb); clear hb; have a7 : w7.cell? ⟨B, 0, none⟩ = some (.iface tx ux) := K7.out.a.cell 0;  skip) | (go_at_call 24; refine (HCl.out _ K7.out.m.v).mono ?_; rintro e w8 ⟨u1, rfl, hu, hb⟩; have K8 := Lib.hid (K7.out.later hb); have HU1 := Lib.hid hu; clear hb hu; have a8 : w8.cell? ⟨B, 0, none⟩ = some (.iface tx ux) := K8.out.a.cell 0;  skip) | (go_at_call 25; refine (HAt.out _ K8.out.m.v).mono ?_; rintro e w9 ⟨u2, rfl, hu, hb⟩; have K9 := Lib.hid (K8.out.later hb); have HU1 := Lib.hid (HU1.out.below hb); have HU2 := Lib.hid hu; clear hb hu; have a9 : w9.cell? ⟨B, 0, none⟩ = some (.iface tx ux) := K9.out.a.cell 0;  skip) | (go_at_call 26; refine (HPr.out _ K9.out.m.v).mono ?_; rintro e w10 ⟨u3, rfl, hu, hb⟩; have K10 := Lib.hid (K9.out.later hb); have HU1 := Lib.hid (HU1.out.below hb); have HU2 := Lib.hid (HU2.out.below hb); have HU3 := Lib.hid hu; clear hb hu; have a10 : w10.cell? ⟨B, 0, none⟩ = some (.iface tx ux) := K10.out.a.cell 0; have r10_0 : w10.cell? ⟨D, 0, none⟩ = some (.string (kindB q)) := K10.out.r.cell 0; have r10_1 : w10.cell? ⟨D, 1, none⟩ = some (.string t) := K10.out.r.cell 1; have r10_2 : w10.cell? ⟨D, 2, none⟩ = some (.int .i64 n) := K10.out.r.cell 2; have r10_3 : w10.cell? ⟨D, 3, none⟩ = some (.bool b) := K10.out.r.cell 3; have r10_4 : w10.cell? ⟨D, 4, none⟩ = some (.slice Ac9 nc9 cc9) := K10.out.r.cell 4; have r10_5 : w10.cell? ⟨D, 5, none⟩ = some (.slice Aa9 na9 ca9) := K10.out.r.cell 5; have r10_6 : w10.cell? ⟨D, 6, none⟩ = some (.slice Ap9 np9 cp9) := K10.out.r.cell 6;  skip))
  have K10 := Lib.hid (K10.out.later ((Below.refl _ _).drew))
  have HU1 := Lib.hid (HU1.out.below ((Below.refl _ _).drew))
  have HU2 := Lib.hid (HU2.out.below ((Below.refl _ _).drew))
  have HU3 := Lib.hid (HU3.out.below ((Below.refl _ _).drew))
  go_region_with (first | (go_at_call 27; refine (HKi.out _).mono ?_; rintro e w11 ⟨rfl, hb⟩; have K11 := Lib.hid (K10.out.later hb); have HU1 := Lib.hid (HU1.out.below hb); have HU2 := Lib.hid (HU2.out.below hb); have HU3 := Lib.hid (HU3.out.below hb); clear hb; have r11_0 : w11.cell? ⟨D, 0, none⟩ = some (.string (kindB q)) := K11.out.r.cell 0; have r11_1 : w11.cell? ⟨D, 1, none⟩ = some (.string t) := K11.out.r.cell 1; have r11_2 : w11.cell? ⟨D, 2, none⟩ = some (.int .i64 n) := K11.out.r.cell 2; have r11_3 : w11.cell? ⟨D, 3, none⟩ = some (.bool b) := K11.out.r.cell 3; have r11_4 : w11.cell? ⟨D, 4, none⟩ = some (.slice Ac9 nc9 cc9) := K11.out.r.cell 4; have r11_5 : w11.cell? ⟨D, 5, none⟩ = some (.slice Aa9 na9 ca9) := K11.out.r.cell 5; have r11_6 : w11.cell? ⟨D, 6, none⟩ = some (.slice Ap9 np9 cp9) := K11.out.r.cell 6;  skip) | (go_at_call 28; refine (HSC.out _ _ _ HU1.out K11.out.m.cls).mono ?_; rintro e w12 ⟨rfl, m, hm⟩; have hb : Below w11.heap.size w11 w12 := (by rw [hm]; exact below_drewN _ _); have K12 := Lib.hid (K11.out.later hb); have HU2 := Lib.hid (HU2.out.below hb); have HU3 := Lib.hid (HU3.out.below hb); clear hb hm; have r12_5 : w12.cell? ⟨D, 5, none⟩ = some (.slice Aa9 na9 ca9) := K12.out.r.cell 5; have r12_6 : w12.cell? ⟨D, 6, none⟩ = some (.slice Ap9 np9 cp9) := K12.out.r.cell 6;  skip) | (go_at_call 29; refine (HSA.out _ _ _ HU2.out K12.out.m.ats).mono ?_; rintro e w13 ⟨rfl, m, hm⟩; have hb : Below w12.heap.size w12 w13 := (by rw [hm]; exact below_drewN _ _); have K13 := Lib.hid (K12.out.later hb); have HU3 := Lib.hid (HU3.out.below hb); clear hb hm; have r13_6 : w13.cell? ⟨D, 6, none⟩ = some (.slice Ap9 np9 cp9) := K13.out.r.cell 6;  skip) | (go_at_call 30; refine (HSP.out _ _ _ HU3.out K13.out.m.prs).mono ?_; rintro e w14 ⟨rfl, m, hm⟩; have hb : Below w13.heap.size w13 w14 := (by rw [hm]; exact below_drewN _ _); have K14 := Lib.hid (K13.out.later hb); clear hb hm) | (go_at_call 11; refine (HAW.out _).mono ?_; rintro e w15 ⟨rfl, hb⟩; have K15 := Lib.hid (K14.out.later hb); clear hb))
  all_goals (go_wp2_with fail)
  all_goals (go_ret)
  all_goals exact ⟨rfl, K15.out.bl⟩
theorem reads_any (nm s : ByteArray) (hn : nm.size ≤ 1048576) (hs : s.size ≤ 1048576) (w : World) :
    Calls Try.prog 6 #[.string nm, .string s] w fun e w' => e = .returned (.bool true) ∧ Below w.heap.size w w' := by
  obtain ⟨q, t, n, b, C, A, P, E, hq, h⟩ := both_read nm s hn hs
  by_cases hE : E = 0
  · subst hE; exact reads_good nm s q t n b C A P h hq w
  · exact reads_bad nm s q t n b C A P E h hE w
end Go.Proofs.Ytjkaigfpjebfbaa
