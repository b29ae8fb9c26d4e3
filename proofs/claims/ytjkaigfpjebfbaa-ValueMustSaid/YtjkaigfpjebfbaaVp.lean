/- ValueMust. -/
import Derived.Test.YtjkaigfpjebfbaaVq
namespace Go.Proofs.Ytjkaigfpjebfbaa
open Go.RowKit
set_option linter.unusedVariables false

set_option maxRecDepth 100000 in
set_option maxHeartbeats 1000000 in
theorem must_heavy (k : Int) (s : ByteArray) (n : Int) (b : Bool) (Ac Aa Ap : Option Addr) (nc cc na ca np cp : Nat) (C : List (List RA)) (A : List RA) (P : List RP) (w : World) (hc : ClsAt w (.slice Ac nc cc) C) (ha : AtsAt w (.slice Aa na ca) A) (hp : PrsAt w (.slice Ap np cp) P) (h1 : C.length ≤ 9223372036854775807) (h2 : A.length ≤ 9223372036854775807) (h3 : P.length ≤ 9223372036854775807) (hl : lightV C A P = false) :
    Calls Try.prog 4 #[.agg #[.int .i64 k, .string s, .int .i64 n, .bool b, .slice Ac nc cc, .slice Aa na ca, .slice Ap np cp]] w fun e w' => e = .returned (.bool true) ∧ Below w.heap.size w w' := by
  have HAW := Lib.hid (fun W => awake_any W)
  have HLT : Hid (∀ W, Below w.heap.size w W → Calls Try.prog 12 #[.agg #[.int .i64 k, .string s, .int .i64 n, .bool b, .slice Ac nc cc, .slice Aa na ca, .slice Ap np cp]] W fun e w' => e = .returned (.bool false) ∧ Below W.heap.size W w') := Lib.hid (fun W hW => by rw [← hl]; exact light_any k s n b _ _ _ C A P W (hc.below hW) (ha.below hW) (hp.below hW) h1 h2 h3)
  have HBA : Hid (Below w.heap.size w (w.alloc (.cells #[.int .i64 k, .string s, .int .i64 n, .bool b, .slice Ac nc cc, .slice Aa na ca, .slice Ap np cp] 32))) := Lib.hid ((Below.refl _ _).alloc (Nat.le_refl _) _)
  clear hc ha hp h1 h2 h3 hl
  go_enter Try.func4, Try.ntmps4
  go_wp2_with (first
    | (go_at_call 12; refine (HLT.out _ HBA.out).mono ?_; rintro e w1 ⟨rfl, hb1⟩; have HB1 := Lib.hid hb1; clear hb1)
    | (go_at_call 11; refine (HAW.out _).mono ?_; rintro e w2 ⟨rfl, hb2⟩; have HB2 := Lib.hid hb2; clear hb2))
  go_ret
  exact ⟨rfl, HBA.out.trans ((HB1.out.trans (HB2.out.mono HB1.out.size)).mono HBA.out.size)⟩

/-- Where ValueMust stands: the value, the reference's, the three results. -/
structure KM (w0 w : World) (B D q : Nat) (x : Value) (s : ByteArray) (n : Int) (b : Bool) (vc va vp : Value) (u0 u1 u2 : Value) : Prop where
  a : Blk w B 35 #[x]
  r : Blk w (B + 1) 37 #[.string (kindB q), .string s, .int .i64 n, .bool b, vc, va, vp]
  d0 : Blk w D 9 #[u0]
  d1 : Blk w (D + 1) 3 #[u1]
  d2 : Blk w (D + 1 + 1) 4 #[u2]
  bl : Below w0.heap.size w0 w
  hB : w0.heap.size ≤ B
  hD : B + 1 < D
theorem KM.later {w0 w w' : World} {B D q : Nat} {x : Value} {s : ByteArray} {n : Int} {b : Bool} {vc va vp u0 u1 u2 : Value} (h : KM w0 w B D q x s n b vc va vp u0 u1 u2) (hb : Below w.heap.size w w') : KM w0 w' B D q x s n b vc va vp u0 u1 u2 :=
  ⟨h.a.below hb h.a.lt, h.r.below hb h.r.lt, h.d0.below hb h.d0.lt, h.d1.below hb h.d1.lt, h.d2.below hb h.d2.lt, h.bl.trans (hb.mono h.bl.size), h.hB, h.hD⟩
theorem KM.new {w0 w : World} {B q : Nat} {x : Value} {s : ByteArray} {n : Int} {b : Bool} {vc va vp : Value} {C : List (List RA)} {A : List RA} {P : List RP} (h : KB w0 w B q x s n b vc va vp C A P) (hB : w0.heap.size ≤ B) :
    KM w0 (((w.alloc (.cells #[.string ⟨#[]⟩] 9)).alloc (.cells #[.int .i64 0] 3)).alloc (.cells #[.bool false] 4)) B w.heap.size q x s n b vc va vp (.string ⟨#[]⟩) (.int .i64 0) (.bool false) := by
  have h1 : (w.alloc (.cells #[.string ⟨#[]⟩] 9)).heap.size = w.heap.size + 1 := by simp
  have h2 : ((w.alloc (.cells #[.string ⟨#[]⟩] 9)).alloc (.cells #[.int .i64 0] 3)).heap.size = w.heap.size + 1 + 1 := by simp
  have hb2 : Below w.heap.size w (((w.alloc (.cells #[.string ⟨#[]⟩] 9)).alloc (.cells #[.int .i64 0] 3)).alloc (.cells #[.bool false] 4)) := (((Below.refl _ w).alloc (Nat.le_refl _) _).alloc (by simp) _).alloc (by simp; omega) _
  refine ⟨h.a.below hb2 h.a.lt, h.r.below hb2 h.r.lt, ((Blk.new w _ _).alloc _).alloc _, ?_, ?_, h.bl.trans (hb2.mono h.bl.size), hB, h.r.lt⟩
  · have := (Blk.new (w.alloc (.cells #[.string ⟨#[]⟩] 9)) 3 #[.int .i64 0]).alloc (.cells #[.bool false] 4)
    rw [h1] at this
    exact this
  · have := Blk.new ((w.alloc (.cells #[.string ⟨#[]⟩] 9)).alloc (.cells #[.int .i64 0] 3)) 4 #[.bool false]
    rw [h2] at this
    exact this

theorem KM.set0 {w0 w w' : World} {B D q : Nat} {x : Value} {s : ByteArray} {n : Int} {b : Bool} {vc va vp u0 u1 u2 u : Value} (h : KM w0 w B D q x s n b vc va vp u0 u1 u2) (hu : Upd (fun k => k = D) w w') (hn : Blk w' (D) 9 #[u]) : KM w0 w' B D q x s n b vc va vp u u1 u2 :=
  ⟨h.a.upd hu (fun e => by have e : B = D := e; have := h.hD; omega), h.r.upd hu (fun e => by have e : B + 1 = D := e; have := h.hD; omega), hn, h.d1.upd hu (fun e => by have e : D + 1 = D := e; omega), h.d2.upd hu (fun e => by have e : D + 1 + 1 = D := e; omega), h.bl.trans (hu.below (fun k hk => by have hk : k = D := hk; have := h.hD; have := h.hB; omega) h.bl.size), h.hB, h.hD⟩
theorem KM.set1 {w0 w w' : World} {B D q : Nat} {x : Value} {s : ByteArray} {n : Int} {b : Bool} {vc va vp u0 u1 u2 u : Value} (h : KM w0 w B D q x s n b vc va vp u0 u1 u2) (hu : Upd (fun k => k = D + 1) w w') (hn : Blk w' (D + 1) 3 #[u]) : KM w0 w' B D q x s n b vc va vp u0 u u2 :=
  ⟨h.a.upd hu (fun e => by have e : B = D + 1 := e; have := h.hD; omega), h.r.upd hu (fun e => by have e : B + 1 = D + 1 := e; have := h.hD; omega), h.d0.upd hu (fun e => by have e : D = D + 1 := e; omega), hn, h.d2.upd hu (fun e => by have e : D + 1 + 1 = D + 1 := e; omega), h.bl.trans (hu.below (fun k hk => by have hk : k = D + 1 := hk; have := h.hD; have := h.hB; omega) h.bl.size), h.hB, h.hD⟩
theorem KM.set2 {w0 w w' : World} {B D q : Nat} {x : Value} {s : ByteArray} {n : Int} {b : Bool} {vc va vp u0 u1 u2 u : Value} (h : KM w0 w B D q x s n b vc va vp u0 u1 u2) (hu : Upd (fun k => k = D + 1 + 1) w w') (hn : Blk w' (D + 1 + 1) 4 #[u]) : KM w0 w' B D q x s n b vc va vp u0 u1 u :=
  ⟨h.a.upd hu (fun e => by have e : B = D + 1 + 1 := e; have := h.hD; omega), h.r.upd hu (fun e => by have e : B + 1 = D + 1 + 1 := e; have := h.hD; omega), h.d0.upd hu (fun e => by have e : D = D + 1 + 1 := e; omega), h.d1.upd hu (fun e => by have e : D + 1 = D + 1 + 1 := e; omega), hn, h.bl.trans (hu.below (fun k hk => by have hk : k = D + 1 + 1 := hk; have := h.hD; have := h.hB; omega) h.bl.size), h.hB, h.hD⟩
set_option maxRecDepth 100000 in
set_option maxHeartbeats 16000000 in
theorem must_light (k : Int) (s : ByteArray) (n : Int) (b : Bool) (Ac Aa Ap : Option Addr) (nc cc na ca np cp : Nat) (C : List (List RA)) (A : List RA) (P : List RP) (w : World) (hc : ClsAt w (.slice Ac nc cc) C) (ha : AtsAt w (.slice Aa na ca) A) (hp : PrsAt w (.slice Ap np cp) P) (hl : lightV C A P = true) :
    Calls Try.prog 4 #[.agg #[.int .i64 k, .string s, .int .i64 n, .bool b, .slice Ac nc cc, .slice Aa na ca, .slice Ap np cp]] w fun e w' => e = .returned (.bool true) ∧ Below w.heap.size w w' := by
  obtain ⟨l1, l2, l3, l4⟩ := lightV_yes hl
  have HAW := Lib.hid (fun W => awake_any W)
  have HLT : Hid (∀ W, Below w.heap.size w W → Calls Try.prog 12 #[.agg #[.int .i64 k, .string s, .int .i64 n, .bool b, .slice Ac nc cc, .slice Aa na ca, .slice Ap np cp]] W fun e w' => e = .returned (.bool true) ∧ Below W.heap.size W w') := Lib.hid (fun W hW => by rw [← hl]; exact light_any k s n b _ _ _ C A P W (hc.below hW) (ha.below hW) (hp.below hW) (by omega) (by omega) (by omega))
  have HMD := Lib.hid (fun W (hW : Below w.heap.size w W) => made_any k s n b _ _ _ C A P W (hc.below hW) (ha.below hW) (hp.below hW) (by omega) (fun l hl => by have := l2 l hl; omega) (by omega) (by omega))
  have HBA : Hid (Below w.heap.size w (w.alloc (.cells #[.int .i64 k, .string s, .int .i64 n, .bool b, .slice Ac nc cc, .slice Aa na ca, .slice Ap np cp] 32))) := Lib.hid ((Below.refl _ _).alloc (Nat.le_refl _) _)
  have HKA : Hid (Blk (w.alloc (.cells #[.int .i64 k, .string s, .int .i64 n, .bool b, .slice Ac nc cc, .slice Aa na ca, .slice Ap np cp] 32)) w.heap.size 32 #[.int .i64 k, .string s, .int .i64 n, .bool b, .slice Ac nc cc, .slice Aa na ca, .slice Ap np cp]) := Lib.hid (Blk.new w _ _)
  clear hc ha hp hl l1 l2 l3 l4
  go_enter Try.func4, Try.ntmps4
  go_wp2_with (go_at_call 12; refine (HLT.out _ HBA.out).mono ?_; rintro e w1 ⟨rfl, hb1⟩; have HB1 := Lib.hid (HBA.out.trans (hb1.mono HBA.out.size)); have HK1 := Lib.hid (HKA.out.below hb1 HKA.out.lt); clear hb1; have c0 : w1.cell? ⟨w.heap.size, 0, none⟩ = some (.int .i64 k) := HK1.out.cell 0; have c1 : w1.cell? ⟨w.heap.size, 1, none⟩ = some (.string s) := HK1.out.cell 1; have c2 : w1.cell? ⟨w.heap.size, 2, none⟩ = some (.int .i64 n) := HK1.out.cell 2; have c3 : w1.cell? ⟨w.heap.size, 3, none⟩ = some (.bool b) := HK1.out.cell 3; have c4 : w1.cell? ⟨w.heap.size, 4, none⟩ = some (.slice Ac nc cc) := HK1.out.cell 4; have c5 : w1.cell? ⟨w.heap.size, 5, none⟩ = some (.slice Aa na ca) := HK1.out.cell 5; have c6 : w1.cell? ⟨w.heap.size, 6, none⟩ = some (.slice Ap np cp) := HK1.out.cell 6)
  go_at_call 13
  refine (HMD.out _ HB1.out).mono ?_
  rintro e w2 ⟨q, x, s', n', b', vc', va', vp', C', A', P', rfl, hM, _, _, _, _, hb2⟩
  have HB2 := Lib.hid (HB1.out.trans (hb2.mono HB1.out.size))
  obtain ⟨Ac9, cc9, e1, _⟩ := id hM.cls
  obtain ⟨Aa9, ca9, e2, _⟩ := id hM.ats
  obtain ⟨Ap9, cp9, e3, _⟩ := id hM.prs
  obtain ⟨nc9, hn1⟩ : ∃ m, m = C'.length := ⟨_, rfl⟩
  obtain ⟨na9, hn2⟩ : ∃ m, m = A'.length := ⟨_, rfl⟩
  obtain ⟨np9, hn3⟩ : ∃ m, m = P'.length := ⟨_, rfl⟩
  rw [← hn1] at e1
  rw [← hn2] at e2
  rw [← hn3] at e3
  subst e1 e2 e3
  have hK := KB.new hM HB2.out
  obtain ⟨w4, hw4⟩ : ∃ w4, w4 = ((w2.alloc (.cells #[x] 35)).alloc (.cells #[.string (kindB q), .string s', .int .i64 n', .bool b', .slice Ac9 nc9 cc9, .slice Aa9 na9 ca9, .slice Ap9 np9 cp9] 37)) := ⟨_, rfl⟩
  have hq := hM.v.kind
  have HT1 : Hid ((asText x).1 = .string s') := Lib.hid (by rw [hM.t])
  have HT2 : Hid ((asCount x).1 = .int .i64 n') := Lib.hid (by rw [hM.c])
  have HT3 : Hid ((asYes x).1 = .bool b') := Lib.hid (by rw [hM.y])
  have HV := Lib.hid hq
  have HR1 : Hid (∀ r W, WrAt W 1 q r → W.cell? ⟨w2.heap.size + 1, 0, none⟩ = some (.string (kindB q)) → Calls Try.prog 20 #[.pointer r, .string ⟨#[116, 101, 120, 116]⟩, .pointer (some ⟨w2.heap.size + 1, 0, none⟩)] W fun e w' => e = .returned (.bool true) ∧ Below W.heap.size W w') := Lib.hid (fun r W h1 h2 => right_any 1 q r _ W h1 h2)
  have HR2 : Hid (∀ r W, WrAt W 2 q r → W.cell? ⟨w2.heap.size + 1, 0, none⟩ = some (.string (kindB q)) → Calls Try.prog 20 #[.pointer r, .string ⟨#[99, 111, 117, 110, 116]⟩, .pointer (some ⟨w2.heap.size + 1, 0, none⟩)] W fun e w' => e = .returned (.bool true) ∧ Below W.heap.size W w') := Lib.hid (fun r W h1 h2 => right_any 2 q r _ W h1 h2)
  have HR3 : Hid (∀ r W, WrAt W 3 q r → W.cell? ⟨w2.heap.size + 1, 0, none⟩ = some (.string (kindB q)) → Calls Try.prog 20 #[.pointer r, .string ⟨#[121, 101, 115]⟩, .pointer (some ⟨w2.heap.size + 1, 0, none⟩)] W fun e w' => e = .returned (.bool true) ∧ Below W.heap.size W w') := Lib.hid (fun r W h1 h2 => right_any 3 q r _ W h1 h2)
  rw [← hw4] at hK
  have hK5 := KM.new hK HB2.out.size
  obtain ⟨w5, hw5⟩ : ∃ w5, w5 = (((w4.alloc (.cells #[.string ⟨#[]⟩] 9)).alloc (.cells #[.int .i64 0] 3)).alloc (.cells #[.bool false] 4)) := ⟨_, rfl⟩
  rw [← hw5] at hK5
  have K5 := Lib.hid hK5
  have HX := Lib.hid hq.shape
  clear hn1 hn2 hn3 hM hq hK hK5 hb2
  rcases HX.out with hx | ⟨tx, ux, hx⟩
  all_goals subst hx

  all_goals
    go_upto_region 4 with fail
    rw [← hw4]
    clear hw4
    go_upto_region 5 with fail
    rw [← hw5]
    clear hw5
    go_wp2_with (first
      | (go_at_call 7; refine (try1_any w2.heap.size w4.heap.size (.string s') _ HV.out HT1.out K5.out.a K5.out.d0).mono ?_; rintro e w6 ⟨r1, rfl, hq⟩; have K6 := Lib.hid (K5.out.set0 hq.out.2.2 hq.out.1); have R1 := Lib.hid hq.out.2.1; clear hq)
      | (go_at_call 7; refine (try2_any w2.heap.size (w4.heap.size + 1) (.int .i64 n') _ HV.out HT2.out K6.out.a K6.out.d1).mono ?_; rintro e w7 ⟨r2, rfl, hq⟩; have K7 := Lib.hid (K6.out.set1 hq.out.2.2 hq.out.1); have R1 := Lib.hid (R1.out.upd hq.out.2.2 (fun g t cs _ hb ht e => (hb.ne_ K6.out.d1 (by rw [ht]; decide)) e)); have R2 := Lib.hid hq.out.2.1; clear hq)
      | (go_at_call 7; refine (try3_any w2.heap.size (w4.heap.size + 1 + 1) (.bool b') _ HV.out HT3.out K7.out.a K7.out.d2).mono ?_; rintro e w8 ⟨r3, rfl, hq⟩; have K8 := Lib.hid (K7.out.set2 hq.out.2.2 hq.out.1); have R1 := Lib.hid (R1.out.upd hq.out.2.2 (fun g t cs _ hb ht e => (hb.ne_ K7.out.d2 (by rw [ht]; decide)) e)); have R2 := Lib.hid (R2.out.upd hq.out.2.2 (fun g t cs _ hb ht e => (hb.ne_ K7.out.d2 (by rw [ht]; decide)) e)); have R3 := Lib.hid hq.out.2.1; clear hq))
    have g8 := K8.out.r.cell 0
    have HH := HR1.out _ _ R1.out (show w8.cell? ⟨w2.heap.size + 1, 0, none⟩ = some (.string (kindB q)) from g8)
    refine HH.mono ?_
    rintro e w9 ⟨rfl, hb⟩
    have K9 := Lib.hid (K8.out.later hb)
    have R2 := Lib.hid (R2.out.below hb)
    have R3 := Lib.hid (R3.out.below hb)
    clear hb HH g8 HR1 R1
    clear K5 K6 K7 K8 HT1 HT2 HT3
    go_wp2_with fail
    go_at_call 20
    have g8 := K9.out.r.cell 0
    have HH := HR2.out _ _ R2.out (show w9.cell? ⟨w2.heap.size + 1, 0, none⟩ = some (.string (kindB q)) from g8)
    refine HH.mono ?_
    rintro e w10 ⟨rfl, hb⟩
    have K10 := Lib.hid (K9.out.later hb)
    have R3 := Lib.hid (R3.out.below hb)
    clear hb HH g8 HR2 R2
    go_wp2_with fail
    go_at_call 20
    have g8 := K10.out.r.cell 0
    have HH := HR3.out _ _ R3.out (show w10.cell? ⟨w2.heap.size + 1, 0, none⟩ = some (.string (kindB q)) from g8)
    refine HH.mono ?_
    rintro e w11 ⟨rfl, hb⟩
    have K11 := Lib.hid (K10.out.later hb)
    clear hb HH g8 HR3 R3
    have f0 : w11.cell? ⟨w4.heap.size, 0, none⟩ = some (.string s') := K11.out.d0.cell 0
    have f1 : w11.cell? ⟨w4.heap.size + 1, 0, none⟩ = some (.int .i64 n') := K11.out.d1.cell 0
    have f2 : w11.cell? ⟨w4.heap.size + 1 + 1, 0, none⟩ = some (.bool b') := K11.out.d2.cell 0
    have f3 : w11.cell? ⟨w2.heap.size + 1, 1, none⟩ = some (.string s') := K11.out.r.cell 1
    have f4 : w11.cell? ⟨w2.heap.size + 1, 2, none⟩ = some (.int .i64 n') := K11.out.r.cell 2
    have f5 : w11.cell? ⟨w2.heap.size + 1, 3, none⟩ = some (.bool b') := K11.out.r.cell 3
    go_wp2_with (go_at_call 11; refine (HAW.out _).mono ?_; rintro e w12 ⟨rfl, hb⟩; have K12 := Lib.hid (K11.out.later hb); clear hb)
    go_ret
    exact ⟨rfl, K12.out.bl⟩
end Go.Proofs.Ytjkaigfpjebfbaa
