/- ValueBack: the law. -/
import Derived.Test.YtjkaigfpjebfbaaGreatDoorZr
import Derived.Test.YtjkaigfpjebfbaaGreatDoorZl
import Derived.Test.YtjkaigfpjebfbaaGreatDoorW1
import Derived.Test.YtjkaigfpjebfbaaGreatDoorMono3
namespace Go.Proofs.YtjkaigfpjebfbaaGreatDoor
open Go.RowKit
set_option linter.unusedVariables false

theorem ent_vb : ∀ (args : Array Value) (w : World), (callFunc 19 args).run Tryz.prog w = .ok (.enter 19 args) w := enters_of Tryz.func19 (by kernel_rfl) rfl
set_option maxRecDepth 100000 in
theorem vb_ok (p : Addr) (s : ByteArray) (w : World) (hp : w.cell? p = some (vText s)) :
    Calls Tryz.prog 19 #[.pointer (some p)] w fun e w' => e = .returned (.tuple #[]) ∧ Below w.heap.size w w' := by
  have HM := Lib.hid (fun W => MustText_ok s W)
  unfold vText at HM hp
  go_enter Tryz.func19, Tryz.ntmps19
  go_wp2_with (go_at_call 20; refine (HM.out _).mono ?_; rintro e w1 ⟨rfl, hb⟩; have HB := Lib.hid hb; clear hb)
  go_end0
  exact ⟨rfl, HB.out⟩
set_option maxRecDepth 100000 in
theorem vb_no (p : Addr) {k : Nat} {x : Value} (h : VK k x) (hk : kindB 1 ≠ kindB k) (w : World) (hp : w.cell? p = some x) :
    Calls Tryz.prog 19 #[.pointer (some p)] w fun e w' => ∃ g, e = .panicked [{ v := .iface 52 (.pointer (some ⟨g, 0, none⟩)), recovered := false }] ∧ Hid (Blk w' g 59 #[.string (kindB 1), .string (kindB k)] ∧ w.heap.size ≤ g ∧ Below w.heap.size w w') := by
  have HM := Lib.hid (fun W => MustText_no h hk W)
  go_enter Tryz.func19, Tryz.ntmps19
  go_wp2_with (go_at_call 20; refine (HM.out _).mono ?_; rintro e w2 ⟨g, rfl, hq⟩)
  exact ⟨rfl, g, rfl, hq⟩
theorem tryb_ok (gv : Nat) (s : ByteArray) (w : World) (hv : Blk w gv 30 #[vText s]) :
    Calls Tryz.prog 18 #[.func (Fn.func 19) #[] #[.pointer (some ⟨gv, 0, none⟩)]] w fun e w' => e = .returned (.pointer none) ∧ Below w.heap.size w w' := by
  obtain ⟨W, hW⟩ : ∃ W, W = w.alloc (.cells #[.pointer none] 52) := ⟨_, rfl⟩
  have hz : W.heap.size = w.heap.size + 1 := by rw [hW]; simp
  have hk : Blk W w.heap.size 52 #[.pointer none] := by rw [hW]; exact Blk.new w _ _
  have hbw : Below w.heap.size w W := by rw [hW]; exact (Below.refl _ w).alloc (Nat.le_refl _) _
  refine (Try_ret 19 _ w (fun w' => Below W.heap.size W w') ent_vb (by rw [← hW]; exact vb_ok _ s W (by rw [hW]; exact (hv.alloc _).cell 0)) ?_).mono ?_
  · intro w' hb
    have := hk.below hb hk.lt
    exact ⟨this.cell 0, this.frozen 0⟩
  · rintro e w' ⟨rfl, w1, hb, rfl⟩
    exact ⟨rfl, (hbw.trans (hb.mono hbw.size)).setCell (Nat.le_refl _) _⟩
theorem tryb_no (gv : Nat) {k : Nat} {x : Value} (h : VK k x) (hk : kindB 1 ≠ kindB k) (w : World) (hv : Blk w gv 30 #[x]) :
    Calls Tryz.prog 18 #[.func (Fn.func 19) #[] #[.pointer (some ⟨gv, 0, none⟩)]] w fun e w' => ∃ g, e = .returned (.pointer (some ⟨g, 0, none⟩)) ∧ Below w.heap.size w w' :=
  (Try_must _ _ w _ _ ent_vb (fun W hW => vb_no _ h hk W (by rw [hW]; exact (hv.alloc _).cell 0))).mono fun e w' hh => by
    obtain ⟨g, rfl, hq2⟩ := hh
    exact ⟨_, rfl, hq2.out.2⟩
theorem vk_cases {q : Nat} {x : Value} (h : VK q x) : (q = 0 ∧ x = .nilIface) ∨ (q = 1 ∧ ∃ s, x = .iface 9 (.string s)) ∨ (q = 2 ∧ ∃ n, x = .iface 3 (.int .i64 n)) ∨ (q = 3 ∧ ∃ b, x = .iface 4 (.bool b)) ∨ (q = 4 ∧ ∃ A n c, x = .iface 22 (.slice A n c)) ∨ (q = 5 ∧ ∃ A n c, x = .iface 23 (.slice A n c)) ∨ (q = 6 ∧ ∃ A n c, x = .iface 24 (.slice A n c)) := by
  cases h with
  | none => exact .inl ⟨rfl, rfl⟩
  | text s => exact .inr (.inl ⟨rfl, s, rfl⟩)
  | count n => exact .inr (.inr (.inl ⟨rfl, n, rfl⟩))
  | yes b => exact .inr (.inr (.inr (.inl ⟨rfl, b, rfl⟩)))
  | clauses A n c => exact .inr (.inr (.inr (.inr (.inl ⟨rfl, A, n, c, rfl⟩))))
  | atoms A n c => exact .inr (.inr (.inr (.inr (.inr (.inl ⟨rfl, A, n, c, rfl⟩)))))
  | provides A n c => exact .inr (.inr (.inr (.inr (.inr (.inr ⟨rfl, A, n, c, rfl⟩)))))
theorem none_list (q : Nat) (h : 1 ≤ q) (h6 : q ≤ 6) : ((kindB q).toList == [110, 111, 110, 101]) = false := by
  have : q = 1 ∨ q = 2 ∨ q = 3 ∨ q = 4 ∨ q = 5 ∨ q = 6 := by omega
  rcases this with rfl | rfl | rfl | rfl | rfl | rfl
  all_goals
    rw [ByteArray.toList_eq]
    decide +kernel
/-- Two values of a kind, each in its block. -/
structure KU (w0 w : World) (G : Nat) (C0 : Array Value) (B D q : Nat) (x y : Value) : Prop where
  g : Blk w G 26 C0
  a : Blk w B 30 #[x]
  d : Blk w D 30 #[y]
  bl : Below w0.heap.size w0 w
theorem KU.later {w0 w w' : World} {G : Nat} {C0 : Array Value} {B D q : Nat} {x y : Value} (h : KU w0 w G C0 B D q x y) (hb : Below w.heap.size w w') : KU w0 w' G C0 B D q x y :=
  ⟨h.g.below hb h.g.lt, h.a.below hb h.a.lt, h.d.below hb h.d.lt, h.bl.trans (hb.mono h.bl.size)⟩

set_option maxRecDepth 100000 in
set_option maxHeartbeats 1000000 in
theorem back_heavy (nm s : ByteArray) (k : Int) (s0 : ByteArray) (n0 : Int) (b0 : Bool) (Ac Aa Ap : Option Addr) (nc cc na ca np cp : Nat) (C0 : List (List RA)) (A0 : List RA) (P0 : List RP) (w : World) (hc : ClsAt w (.slice Ac nc cc) C0) (ha : AtsAt w (.slice Aa na ca) A0) (hp : PrsAt w (.slice Ap np cp) P0) (h1 : C0.length ≤ 9223372036854775807) (h2 : A0.length ≤ 9223372036854775807) (h3 : P0.length ≤ 9223372036854775807) (hl : lightV C0 A0 P0 = false) :
    Calls Tryz.prog 4 #[.string nm, .string s, .agg #[.int .i64 k, .string s0, .int .i64 n0, .bool b0, .slice Ac nc cc, .slice Aa na ca, .slice Ap np cp]] w fun e w' => e = .returned (.bool true) ∧ Below w.heap.size w w' := by
  have HAW := Lib.hid (fun W => awake_any W)
  have HLT : Hid (∀ W, Below w.heap.size w W → Calls Tryz.prog 5 #[.agg #[.int .i64 k, .string s0, .int .i64 n0, .bool b0, .slice Ac nc cc, .slice Aa na ca, .slice Ap np cp]] W fun e w' => e = .returned (.bool false) ∧ Below W.heap.size W w') := Lib.hid (fun W hW => by rw [← hl]; exact light_any k s0 n0 b0 _ _ _ C0 A0 P0 W (hc.below hW) (ha.below hW) (hp.below hW) h1 h2 h3)
  have HBA : Hid (Below w.heap.size w (w.alloc (.cells #[.int .i64 k, .string s0, .int .i64 n0, .bool b0, .slice Ac nc cc, .slice Aa na ca, .slice Ap np cp] 26))) := Lib.hid ((Below.refl _ _).alloc (Nat.le_refl _) _)
  clear hc ha hp h1 h2 h3 hl
  go_enter Tryz.func4, Tryz.ntmps4
  go_wp2_with (first
    | (go_at_call 5; refine (HLT.out _ HBA.out).mono ?_; rintro e w1 ⟨rfl, hb1⟩; have HB1 := Lib.hid hb1; clear hb1)
    | (go_at_call 6; refine (HAW.out _).mono ?_; rintro e w2 ⟨rfl, hb2⟩; have HB2 := Lib.hid hb2; clear hb2))
  go_ret
  exact ⟨rfl, HBA.out.trans ((HB1.out.trans (HB2.out.mono HB1.out.size)).mono HBA.out.size)⟩
set_option maxRecDepth 100000 in
set_option maxHeartbeats 16000000 in
theorem back_bad (nm s : ByteArray) (k : Int) (s0 : ByteArray) (n0 : Int) (b0 : Bool) (Ac Aa Ap : Option Addr) (nc cc na ca np cp : Nat) (C0 : List (List RA)) (A0 : List RA) (P0 : List RP) (w : World) (hc : ClsAt w (.slice Ac nc cc) C0) (ha : AtsAt w (.slice Aa na ca) A0) (hp : PrsAt w (.slice Ap np cp) P0) (hl : lightV C0 A0 P0 = true) (E : Int) (hE : E ≠ 0)
    (hR : ∀ W, Calls Tryz.prog 10 #[.string nm, .string s] W fun e w' => e = .returned (.tuple #[.agg #[.nilIface], .int .i64 E]) ∧ Below W.heap.size W w') :
    Calls Tryz.prog 4 #[.string nm, .string s, .agg #[.int .i64 k, .string s0, .int .i64 n0, .bool b0, .slice Ac nc cc, .slice Aa na ca, .slice Ap np cp]] w fun e w' => e = .returned (.bool true) ∧ Below w.heap.size w w' := by
  obtain ⟨l1, l2, l3, l4⟩ := lightV_yes hl
  have HAW := Lib.hid (fun W => awake_any W)
  have HLT : Hid (∀ W, Below w.heap.size w W → Calls Tryz.prog 5 #[.agg #[.int .i64 k, .string s0, .int .i64 n0, .bool b0, .slice Ac nc cc, .slice Aa na ca, .slice Ap np cp]] W fun e w' => e = .returned (.bool true) ∧ Below W.heap.size W w') := Lib.hid (fun W hW => by rw [← hl]; exact light_any k s0 n0 b0 _ _ _ C0 A0 P0 W (hc.below hW) (ha.below hW) (hp.below hW) (by omega) (by omega) (by omega))
  have HMD : Hid (∀ W, Below w.heap.size w W → Calls Tryz.prog 7 #[.agg #[.int .i64 k, .string s0, .int .i64 n0, .bool b0, .slice Ac nc cc, .slice Aa na ca, .slice Ap np cp]] W fun e w' => ∃ (q : Nat) (x : Value) (s' : ByteArray) (n' : Int) (b' : Bool) (Ac' Aa' Ap' : Option Addr) (nc' cc' na' ca' np' cp' : Nat) (C' : List (List RA)) (A' : List RA) (P' : List RP), e = .returned (.tuple #[.agg #[x], .agg #[.string (kindB q), .string s', .int .i64 n', .bool b', .slice Ac' nc' cc', .slice Aa' na' ca', .slice Ap' np' cp']]) ∧ Hid (MadeAt w' q x s' n' b' (.slice Ac' nc' cc') (.slice Aa' na' ca') (.slice Ap' np' cp') C' A' P' ∧ Below W.heap.size W w')) := Lib.hid (fun W hW => (made_any k s0 n0 b0 _ _ _ C0 A0 P0 W (hc.below hW) (ha.below hW) (hp.below hW) (by omega) (fun l hl => by have := l2 l hl; omega) (by omega) (by omega)).mono fun e w' hh => by
    obtain ⟨q, x, s', n', b', vc', va', vp', C', A', P', he, hM, _, _, _, _, _, hb⟩ := hh
    have e1 := hM.cls
    have e2 := hM.ats
    have e3 := hM.prs
    obtain ⟨Ac9, cc9, rfl, _⟩ := e1
    obtain ⟨Aa9, ca9, rfl, _⟩ := e2
    obtain ⟨Ap9, cp9, rfl, _⟩ := e3
    exact ⟨q, x, s', n', b', _, _, _, _, _, _, _, _, _, C', A', P', he, Lib.hid ⟨hM, hb⟩⟩)
  have HBA : Hid (Below w.heap.size w (w.alloc (.cells #[.int .i64 k, .string s0, .int .i64 n0, .bool b0, .slice Ac nc cc, .slice Aa na ca, .slice Ap np cp] 26))) := Lib.hid ((Below.refl _ _).alloc (Nat.le_refl _) _)
  have HKA : Hid (Blk (w.alloc (.cells #[.int .i64 k, .string s0, .int .i64 n0, .bool b0, .slice Ac nc cc, .slice Aa na ca, .slice Ap np cp] 26)) w.heap.size 26 #[.int .i64 k, .string s0, .int .i64 n0, .bool b0, .slice Ac nc cc, .slice Aa na ca, .slice Ap np cp]) := Lib.hid (Blk.new w _ _)
  clear hc ha hp hl l1 l2 l3 l4
  have HR := Lib.hid hR
  have q1 : (E == 0) = false := by rw [beq_eq_false_iff_ne]; exact hE
  clear hR hE
  go_enter Tryz.func4, Tryz.ntmps4
  go_upto_region 10 with (first | (go_at_call 5; refine (HLT.out _ HBA.out).mono ?_; rintro e w1 ⟨rfl, hb1⟩; have HB1 := Lib.hid (HBA.out.trans (hb1.mono HBA.out.size)); have HK1 := Lib.hid (HKA.out.below hb1 HKA.out.lt); clear hb1) | (go_at_call 10; refine (HR.out _).mono ?_; rintro e w2 ⟨rfl, hb⟩; have HB2 := Lib.hid (HB1.out.trans (hb.mono HB1.out.size)); have HK2 := Lib.hid (HK1.out.below hb HK1.out.lt); clear hb))
  obtain ⟨wz, hwz⟩ : ∃ wz, wz = w2.alloc (.cells #[.nilIface] 30) := ⟨_, rfl⟩
  rw [← hwz]
  obtain ⟨G, hG⟩ : ∃ G, G = w.heap.size := ⟨_, rfl⟩
  have HBz : Hid (Below w.heap.size w wz) := Lib.hid (by rw [hwz]; exact HB2.out.alloc HB2.out.size _)
  have HKz : Hid (Blk wz G 26 #[.int .i64 k, .string s0, .int .i64 n0, .bool b0, .slice Ac nc cc, .slice Aa na ca, .slice Ap np cp]) := Lib.hid (by rw [hwz, hG]; exact HK2.out.alloc _)
  rw [← hG]
  have HGG := Lib.hid hG
  clear hwz hG HKA
  have c0 : wz.cell? ⟨G, 0, none⟩ = some (.int .i64 k) := HKz.out.cell 0
  have c1 : wz.cell? ⟨G, 1, none⟩ = some (.string s0) := HKz.out.cell 1
  have c2 : wz.cell? ⟨G, 2, none⟩ = some (.int .i64 n0) := HKz.out.cell 2
  have c3 : wz.cell? ⟨G, 3, none⟩ = some (.bool b0) := HKz.out.cell 3
  have c4 : wz.cell? ⟨G, 4, none⟩ = some (.slice Ac nc cc) := HKz.out.cell 4
  have c5 : wz.cell? ⟨G, 5, none⟩ = some (.slice Aa na ca) := HKz.out.cell 5
  have c6 : wz.cell? ⟨G, 6, none⟩ = some (.slice Ap np cp) := HKz.out.cell 6
  go_wp2_with fail
  go_at_call 7
  refine (HMD.out _ HBz.out).mono ?_
  rintro e w20 ⟨q, x, s', n', b', Ac', Aa', Ap', nc', cc', na', ca', np', cp', C', A', P', rfl, hM⟩
  have HB20 := Lib.hid (HBz.out.trans (hM.out.2.mono HBz.out.size))
  have hK := KB.new hM.out.1 HB20.out
  obtain ⟨w21, hw21⟩ : ∃ w21, w21 = ((w20.alloc (.cells #[x] 30)).alloc (.cells #[.string (kindB q), .string s', .int .i64 n', .bool b', .slice Ac' nc' cc', .slice Aa' na' ca', .slice Ap' np' cp'] 32)) := ⟨_, rfl⟩
  rw [← hw21] at hK
  have hv := hK.m.v
  obtain ⟨KQ, hKQ⟩ : ∃ KQ, KQ = kindB q := ⟨_, rfl⟩
  rw [← hKQ] at hw21
  rw [← hKQ]
  have HKQ := Lib.hid hKQ
  have HX := Lib.hid (vk_cases hM.out.1.v.kind)
  have K21 := Lib.hid (And.intro hK.a (And.intro hv hK.bl))
  clear hK hM hv hKQ
  rcases HX.out with ⟨hq, hx⟩ | ⟨hq, s9, hx⟩ | ⟨hq, n9, hx⟩ | ⟨hq, b9, hx⟩ | ⟨hq, A9, n9, c9, hx⟩ | ⟨hq, A9, n9, c9, hx⟩ | ⟨hq, A9, n9, c9, hx⟩
  all_goals
    subst hq hx
    clear HX
  · have HT : Hid (∀ W, Calls Tryz.prog 12 #[.agg #[.nilIface]] W fun e w' => e = .returned (.tuple #[.string ⟨#[]⟩, .bool false]) ∧ Below W.heap.size W w') := Lib.hid (fun W => Text_any (VK.none) W)
    have HC : Hid (∀ W, Calls Tryz.prog 13 #[.agg #[.nilIface]] W fun e w' => e = .returned (.tuple #[.int .i64 0, .bool false]) ∧ Below W.heap.size W w') := Lib.hid (fun W => Count_any (VK.none) W)
    have HY : Hid (∀ W, Calls Tryz.prog 14 #[.agg #[.nilIface]] W fun e w' => e = .returned (.tuple #[.bool false, .bool false]) ∧ Below W.heap.size W w') := Lib.hid (fun W => Yes_any (VK.none) W)
    have HCl : Hid (∀ W, VAt W 0 (.nilIface) C' A' P' → Calls Tryz.prog 15 #[.agg #[.nilIface]] W fun e w' => ∃ u, e = .returned (.tuple #[u, .bool false]) ∧ Below W.heap.size W w') := Lib.hid (fun W hv => (Clauses_any W hv).mono fun e w' hh => by obtain ⟨u, he, _, hb⟩ := hh; exact ⟨u, he, hb⟩)
    have HAt : Hid (∀ W, VAt W 0 (.nilIface) C' A' P' → Calls Tryz.prog 16 #[.agg #[.nilIface]] W fun e w' => ∃ u, e = .returned (.tuple #[u, .bool false]) ∧ Below W.heap.size W w') := Lib.hid (fun W hv => (Atoms_any W hv).mono fun e w' hh => by obtain ⟨u, he, _, hb⟩ := hh; exact ⟨u, he, hb⟩)
    have HPr : Hid (∀ W, VAt W 0 (.nilIface) C' A' P' → Calls Tryz.prog 17 #[.agg #[.nilIface]] W fun e w' => ∃ u, e = .returned (.tuple #[u, .bool false]) ∧ Below W.heap.size W w') := Lib.hid (fun W hv => (Provides_any W hv).mono fun e w' hh => by obtain ⟨u, he, _, hb⟩ := hh; exact ⟨u, he, hb⟩)
    have HTR : Hid (∀ W, Blk W w20.heap.size 30 #[.nilIface] → Calls Tryz.prog 18 #[.func (Fn.func 19) #[] #[.pointer (some ⟨w20.heap.size, 0, none⟩)]] W fun e w' => ∃ g, e = .returned (.pointer (some ⟨g, 0, none⟩)) ∧ Below W.heap.size W w') := Lib.hid (fun W hv => tryb_no _ (VK.none) (by decide +kernel) W hv)
    have HKI : Hid (∀ W, Calls Tryz.prog 11 #[.agg #[.nilIface]] W fun e w' => e = .returned (.string (kindB 0)) ∧ Below W.heap.size W w') := Lib.hid (fun W => Kind_any (VK.none) W)
    have hno : ((kindB 0).toList == [110, 111, 110, 101]) = true := by rw [ByteArray.toList_eq]; decide +kernel
    rw [← HKQ.out] at HKI hno
    have K21 : Hid (Blk w21 w20.heap.size 30 #[.nilIface] ∧ VAt w21 0 (.nilIface) C' A' P' ∧ Below w.heap.size w w21) := K21
    go_upto_region 11 with fail
    rw [← hw21]
    clear hw21
    have a21 : w21.cell? ⟨w20.heap.size, 0, none⟩ = some (.nilIface) := K21.out.1.cell 0
    go_wp2_with (first | (go_at_call 12; refine (HT.out _).mono ?_; rintro e w22 ⟨rfl, hb⟩; have K22 := Lib.hid (And.intro (K21.out.1.below hb K21.out.1.lt) (And.intro (K21.out.2.1.below hb) (K21.out.2.2.trans (hb.mono K21.out.2.2.size)))); clear hb; have a22 : w22.cell? ⟨w20.heap.size, 0, none⟩ = some (.nilIface) := K22.out.1.cell 0) | (go_at_call 13; refine (HC.out _).mono ?_; rintro e w23 ⟨rfl, hb⟩; have K23 := Lib.hid (And.intro (K22.out.1.below hb K22.out.1.lt) (And.intro (K22.out.2.1.below hb) (K22.out.2.2.trans (hb.mono K22.out.2.2.size)))); clear hb; have a23 : w23.cell? ⟨w20.heap.size, 0, none⟩ = some (.nilIface) := K23.out.1.cell 0) | (go_at_call 14; refine (HY.out _).mono ?_; rintro e w24 ⟨rfl, hb⟩; have K24 := Lib.hid (And.intro (K23.out.1.below hb K23.out.1.lt) (And.intro (K23.out.2.1.below hb) (K23.out.2.2.trans (hb.mono K23.out.2.2.size)))); clear hb; have a24 : w24.cell? ⟨w20.heap.size, 0, none⟩ = some (.nilIface) := K24.out.1.cell 0) | (go_at_call 15; refine (HCl.out _ K24.out.2.1).mono ?_; rintro e w25 ⟨u1, rfl, hb⟩; have K25 := Lib.hid (And.intro (K24.out.1.below hb K24.out.1.lt) (And.intro (K24.out.2.1.below hb) (K24.out.2.2.trans (hb.mono K24.out.2.2.size)))); clear hb; have a25 : w25.cell? ⟨w20.heap.size, 0, none⟩ = some (.nilIface) := K25.out.1.cell 0) | (go_at_call 16; refine (HAt.out _ K25.out.2.1).mono ?_; rintro e w26 ⟨u2, rfl, hb⟩; have K26 := Lib.hid (And.intro (K25.out.1.below hb K25.out.1.lt) (And.intro (K25.out.2.1.below hb) (K25.out.2.2.trans (hb.mono K25.out.2.2.size)))); clear hb; have a26 : w26.cell? ⟨w20.heap.size, 0, none⟩ = some (.nilIface) := K26.out.1.cell 0) | (go_at_call 17; refine (HPr.out _ K26.out.2.1).mono ?_; rintro e w27 ⟨u3, rfl, hb⟩; have K27 := Lib.hid (And.intro (K26.out.1.below hb K26.out.1.lt) (And.intro (K26.out.2.1.below hb) (K26.out.2.2.trans (hb.mono K26.out.2.2.size)))); clear hb; have a27 : w27.cell? ⟨w20.heap.size, 0, none⟩ = some (.nilIface) := K27.out.1.cell 0) | (go_at_call 18; refine (HTR.out _ K27.out.1).mono ?_; rintro e w28 ⟨g9, rfl, hb⟩; have K28 := Lib.hid (And.intro (K27.out.1.below hb K27.out.1.lt) (And.intro (K27.out.2.1.below hb) (K27.out.2.2.trans (hb.mono K27.out.2.2.size)))); clear hb; have a28 : w28.cell? ⟨w20.heap.size, 0, none⟩ = some (.nilIface) := K28.out.1.cell 0) | (go_at_call 11; refine (HKI.out _).mono ?_; rintro e w29 ⟨rfl, hb⟩; have K29 := Lib.hid (And.intro (K28.out.1.below hb K28.out.1.lt) (And.intro (K28.out.2.1.below hb) (K28.out.2.2.trans (hb.mono K28.out.2.2.size)))); clear hb; have a29 : w29.cell? ⟨w20.heap.size, 0, none⟩ = some (.nilIface) := K29.out.1.cell 0) | (go_at_call 6; refine (HAW.out _).mono ?_; rintro e w30 ⟨rfl, hb⟩; have HB30 := Lib.hid (K29.out.2.2.trans (hb.mono K29.out.2.2.size)); clear hb))
    go_ret
    exact ⟨rfl, HB30.out⟩
  · have HT : Hid (∀ W, Calls Tryz.prog 12 #[.agg #[.iface 9 (.string s9)]] W fun e w' => e = .returned (.tuple #[.string s9, .bool true]) ∧ Below W.heap.size W w') := Lib.hid (fun W => Text_any (VK.text s9) W)
    have HC : Hid (∀ W, Calls Tryz.prog 13 #[.agg #[.iface 9 (.string s9)]] W fun e w' => e = .returned (.tuple #[.int .i64 0, .bool false]) ∧ Below W.heap.size W w') := Lib.hid (fun W => Count_any (VK.text s9) W)
    have HY : Hid (∀ W, Calls Tryz.prog 14 #[.agg #[.iface 9 (.string s9)]] W fun e w' => e = .returned (.tuple #[.bool false, .bool false]) ∧ Below W.heap.size W w') := Lib.hid (fun W => Yes_any (VK.text s9) W)
    have HCl : Hid (∀ W, VAt W 1 (.iface 9 (.string s9)) C' A' P' → Calls Tryz.prog 15 #[.agg #[.iface 9 (.string s9)]] W fun e w' => ∃ u, e = .returned (.tuple #[u, .bool false]) ∧ Below W.heap.size W w') := Lib.hid (fun W hv => (Clauses_any W hv).mono fun e w' hh => by obtain ⟨u, he, _, hb⟩ := hh; exact ⟨u, he, hb⟩)
    have HAt : Hid (∀ W, VAt W 1 (.iface 9 (.string s9)) C' A' P' → Calls Tryz.prog 16 #[.agg #[.iface 9 (.string s9)]] W fun e w' => ∃ u, e = .returned (.tuple #[u, .bool false]) ∧ Below W.heap.size W w') := Lib.hid (fun W hv => (Atoms_any W hv).mono fun e w' hh => by obtain ⟨u, he, _, hb⟩ := hh; exact ⟨u, he, hb⟩)
    have HPr : Hid (∀ W, VAt W 1 (.iface 9 (.string s9)) C' A' P' → Calls Tryz.prog 17 #[.agg #[.iface 9 (.string s9)]] W fun e w' => ∃ u, e = .returned (.tuple #[u, .bool false]) ∧ Below W.heap.size W w') := Lib.hid (fun W hv => (Provides_any W hv).mono fun e w' hh => by obtain ⟨u, he, _, hb⟩ := hh; exact ⟨u, he, hb⟩)
    have HTR : Hid (∀ W, Blk W w20.heap.size 30 #[.iface 9 (.string s9)] → Calls Tryz.prog 18 #[.func (Fn.func 19) #[] #[.pointer (some ⟨w20.heap.size, 0, none⟩)]] W fun e w' => e = .returned (.pointer none) ∧ Below W.heap.size W w') := Lib.hid (fun W hv => tryb_ok _ s9 W hv)
    have HKI : Hid (∀ W, Calls Tryz.prog 11 #[.agg #[.iface 9 (.string s9)]] W fun e w' => e = .returned (.string (kindB 1)) ∧ Below W.heap.size W w') := Lib.hid (fun W => Kind_any (VK.text s9) W)
    have hno : ((kindB 1).toList == [110, 111, 110, 101]) = false := none_list 1 (by decide) (by decide)
    rw [← HKQ.out] at HKI hno
    have K21 : Hid (Blk w21 w20.heap.size 30 #[.iface 9 (.string s9)] ∧ VAt w21 1 (.iface 9 (.string s9)) C' A' P' ∧ Below w.heap.size w w21) := K21
    go_upto_region 11 with fail
    rw [← hw21]
    clear hw21
    have a21 : w21.cell? ⟨w20.heap.size, 0, none⟩ = some (.iface 9 (.string s9)) := K21.out.1.cell 0
    go_wp2_with (first | (go_at_call 12; refine (HT.out _).mono ?_; rintro e w22 ⟨rfl, hb⟩; have K22 := Lib.hid (And.intro (K21.out.1.below hb K21.out.1.lt) (And.intro (K21.out.2.1.below hb) (K21.out.2.2.trans (hb.mono K21.out.2.2.size)))); clear hb; have a22 : w22.cell? ⟨w20.heap.size, 0, none⟩ = some (.iface 9 (.string s9)) := K22.out.1.cell 0) | (go_at_call 13; refine (HC.out _).mono ?_; rintro e w23 ⟨rfl, hb⟩; have K23 := Lib.hid (And.intro (K22.out.1.below hb K22.out.1.lt) (And.intro (K22.out.2.1.below hb) (K22.out.2.2.trans (hb.mono K22.out.2.2.size)))); clear hb; have a23 : w23.cell? ⟨w20.heap.size, 0, none⟩ = some (.iface 9 (.string s9)) := K23.out.1.cell 0) | (go_at_call 14; refine (HY.out _).mono ?_; rintro e w24 ⟨rfl, hb⟩; have K24 := Lib.hid (And.intro (K23.out.1.below hb K23.out.1.lt) (And.intro (K23.out.2.1.below hb) (K23.out.2.2.trans (hb.mono K23.out.2.2.size)))); clear hb; have a24 : w24.cell? ⟨w20.heap.size, 0, none⟩ = some (.iface 9 (.string s9)) := K24.out.1.cell 0) | (go_at_call 15; refine (HCl.out _ K24.out.2.1).mono ?_; rintro e w25 ⟨u1, rfl, hb⟩; have K25 := Lib.hid (And.intro (K24.out.1.below hb K24.out.1.lt) (And.intro (K24.out.2.1.below hb) (K24.out.2.2.trans (hb.mono K24.out.2.2.size)))); clear hb; have a25 : w25.cell? ⟨w20.heap.size, 0, none⟩ = some (.iface 9 (.string s9)) := K25.out.1.cell 0) | (go_at_call 16; refine (HAt.out _ K25.out.2.1).mono ?_; rintro e w26 ⟨u2, rfl, hb⟩; have K26 := Lib.hid (And.intro (K25.out.1.below hb K25.out.1.lt) (And.intro (K25.out.2.1.below hb) (K25.out.2.2.trans (hb.mono K25.out.2.2.size)))); clear hb; have a26 : w26.cell? ⟨w20.heap.size, 0, none⟩ = some (.iface 9 (.string s9)) := K26.out.1.cell 0) | (go_at_call 17; refine (HPr.out _ K26.out.2.1).mono ?_; rintro e w27 ⟨u3, rfl, hb⟩; have K27 := Lib.hid (And.intro (K26.out.1.below hb K26.out.1.lt) (And.intro (K26.out.2.1.below hb) (K26.out.2.2.trans (hb.mono K26.out.2.2.size)))); clear hb; have a27 : w27.cell? ⟨w20.heap.size, 0, none⟩ = some (.iface 9 (.string s9)) := K27.out.1.cell 0) | (go_at_call 18; refine (HTR.out _ K27.out.1).mono ?_; rintro e w28 ⟨rfl, hb⟩; have K28 := Lib.hid (And.intro (K27.out.1.below hb K27.out.1.lt) (And.intro (K27.out.2.1.below hb) (K27.out.2.2.trans (hb.mono K27.out.2.2.size)))); clear hb; have a28 : w28.cell? ⟨w20.heap.size, 0, none⟩ = some (.iface 9 (.string s9)) := K28.out.1.cell 0) | (go_at_call 11; refine (HKI.out _).mono ?_; rintro e w29 ⟨rfl, hb⟩; have K29 := Lib.hid (And.intro (K28.out.1.below hb K28.out.1.lt) (And.intro (K28.out.2.1.below hb) (K28.out.2.2.trans (hb.mono K28.out.2.2.size)))); clear hb; have a29 : w29.cell? ⟨w20.heap.size, 0, none⟩ = some (.iface 9 (.string s9)) := K29.out.1.cell 0) | (go_at_call 6; refine (HAW.out _).mono ?_; rintro e w30 ⟨rfl, hb⟩; have HB30 := Lib.hid (K29.out.2.2.trans (hb.mono K29.out.2.2.size)); clear hb))
    go_ret
    exact ⟨rfl, HB30.out⟩
  · have HT : Hid (∀ W, Calls Tryz.prog 12 #[.agg #[.iface 3 (.int .i64 n9)]] W fun e w' => e = .returned (.tuple #[.string ⟨#[]⟩, .bool false]) ∧ Below W.heap.size W w') := Lib.hid (fun W => Text_any (VK.count n9) W)
    have HC : Hid (∀ W, Calls Tryz.prog 13 #[.agg #[.iface 3 (.int .i64 n9)]] W fun e w' => e = .returned (.tuple #[.int .i64 n9, .bool true]) ∧ Below W.heap.size W w') := Lib.hid (fun W => Count_any (VK.count n9) W)
    have HY : Hid (∀ W, Calls Tryz.prog 14 #[.agg #[.iface 3 (.int .i64 n9)]] W fun e w' => e = .returned (.tuple #[.bool false, .bool false]) ∧ Below W.heap.size W w') := Lib.hid (fun W => Yes_any (VK.count n9) W)
    have HCl : Hid (∀ W, VAt W 2 (.iface 3 (.int .i64 n9)) C' A' P' → Calls Tryz.prog 15 #[.agg #[.iface 3 (.int .i64 n9)]] W fun e w' => ∃ u, e = .returned (.tuple #[u, .bool false]) ∧ Below W.heap.size W w') := Lib.hid (fun W hv => (Clauses_any W hv).mono fun e w' hh => by obtain ⟨u, he, _, hb⟩ := hh; exact ⟨u, he, hb⟩)
    have HAt : Hid (∀ W, VAt W 2 (.iface 3 (.int .i64 n9)) C' A' P' → Calls Tryz.prog 16 #[.agg #[.iface 3 (.int .i64 n9)]] W fun e w' => ∃ u, e = .returned (.tuple #[u, .bool false]) ∧ Below W.heap.size W w') := Lib.hid (fun W hv => (Atoms_any W hv).mono fun e w' hh => by obtain ⟨u, he, _, hb⟩ := hh; exact ⟨u, he, hb⟩)
    have HPr : Hid (∀ W, VAt W 2 (.iface 3 (.int .i64 n9)) C' A' P' → Calls Tryz.prog 17 #[.agg #[.iface 3 (.int .i64 n9)]] W fun e w' => ∃ u, e = .returned (.tuple #[u, .bool false]) ∧ Below W.heap.size W w') := Lib.hid (fun W hv => (Provides_any W hv).mono fun e w' hh => by obtain ⟨u, he, _, hb⟩ := hh; exact ⟨u, he, hb⟩)
    have HTR : Hid (∀ W, Blk W w20.heap.size 30 #[.iface 3 (.int .i64 n9)] → Calls Tryz.prog 18 #[.func (Fn.func 19) #[] #[.pointer (some ⟨w20.heap.size, 0, none⟩)]] W fun e w' => ∃ g, e = .returned (.pointer (some ⟨g, 0, none⟩)) ∧ Below W.heap.size W w') := Lib.hid (fun W hv => tryb_no _ (VK.count n9) (by decide +kernel) W hv)
    have HKI : Hid (∀ W, Calls Tryz.prog 11 #[.agg #[.iface 3 (.int .i64 n9)]] W fun e w' => e = .returned (.string (kindB 2)) ∧ Below W.heap.size W w') := Lib.hid (fun W => Kind_any (VK.count n9) W)
    have hno : ((kindB 2).toList == [110, 111, 110, 101]) = false := none_list 2 (by decide) (by decide)
    rw [← HKQ.out] at HKI hno
    have K21 : Hid (Blk w21 w20.heap.size 30 #[.iface 3 (.int .i64 n9)] ∧ VAt w21 2 (.iface 3 (.int .i64 n9)) C' A' P' ∧ Below w.heap.size w w21) := K21
    go_upto_region 11 with fail
    rw [← hw21]
    clear hw21
    have a21 : w21.cell? ⟨w20.heap.size, 0, none⟩ = some (.iface 3 (.int .i64 n9)) := K21.out.1.cell 0
    go_wp2_with (first | (go_at_call 12; refine (HT.out _).mono ?_; rintro e w22 ⟨rfl, hb⟩; have K22 := Lib.hid (And.intro (K21.out.1.below hb K21.out.1.lt) (And.intro (K21.out.2.1.below hb) (K21.out.2.2.trans (hb.mono K21.out.2.2.size)))); clear hb; have a22 : w22.cell? ⟨w20.heap.size, 0, none⟩ = some (.iface 3 (.int .i64 n9)) := K22.out.1.cell 0) | (go_at_call 13; refine (HC.out _).mono ?_; rintro e w23 ⟨rfl, hb⟩; have K23 := Lib.hid (And.intro (K22.out.1.below hb K22.out.1.lt) (And.intro (K22.out.2.1.below hb) (K22.out.2.2.trans (hb.mono K22.out.2.2.size)))); clear hb; have a23 : w23.cell? ⟨w20.heap.size, 0, none⟩ = some (.iface 3 (.int .i64 n9)) := K23.out.1.cell 0) | (go_at_call 14; refine (HY.out _).mono ?_; rintro e w24 ⟨rfl, hb⟩; have K24 := Lib.hid (And.intro (K23.out.1.below hb K23.out.1.lt) (And.intro (K23.out.2.1.below hb) (K23.out.2.2.trans (hb.mono K23.out.2.2.size)))); clear hb; have a24 : w24.cell? ⟨w20.heap.size, 0, none⟩ = some (.iface 3 (.int .i64 n9)) := K24.out.1.cell 0) | (go_at_call 15; refine (HCl.out _ K24.out.2.1).mono ?_; rintro e w25 ⟨u1, rfl, hb⟩; have K25 := Lib.hid (And.intro (K24.out.1.below hb K24.out.1.lt) (And.intro (K24.out.2.1.below hb) (K24.out.2.2.trans (hb.mono K24.out.2.2.size)))); clear hb; have a25 : w25.cell? ⟨w20.heap.size, 0, none⟩ = some (.iface 3 (.int .i64 n9)) := K25.out.1.cell 0) | (go_at_call 16; refine (HAt.out _ K25.out.2.1).mono ?_; rintro e w26 ⟨u2, rfl, hb⟩; have K26 := Lib.hid (And.intro (K25.out.1.below hb K25.out.1.lt) (And.intro (K25.out.2.1.below hb) (K25.out.2.2.trans (hb.mono K25.out.2.2.size)))); clear hb; have a26 : w26.cell? ⟨w20.heap.size, 0, none⟩ = some (.iface 3 (.int .i64 n9)) := K26.out.1.cell 0) | (go_at_call 17; refine (HPr.out _ K26.out.2.1).mono ?_; rintro e w27 ⟨u3, rfl, hb⟩; have K27 := Lib.hid (And.intro (K26.out.1.below hb K26.out.1.lt) (And.intro (K26.out.2.1.below hb) (K26.out.2.2.trans (hb.mono K26.out.2.2.size)))); clear hb; have a27 : w27.cell? ⟨w20.heap.size, 0, none⟩ = some (.iface 3 (.int .i64 n9)) := K27.out.1.cell 0) | (go_at_call 18; refine (HTR.out _ K27.out.1).mono ?_; rintro e w28 ⟨g9, rfl, hb⟩; have K28 := Lib.hid (And.intro (K27.out.1.below hb K27.out.1.lt) (And.intro (K27.out.2.1.below hb) (K27.out.2.2.trans (hb.mono K27.out.2.2.size)))); clear hb; have a28 : w28.cell? ⟨w20.heap.size, 0, none⟩ = some (.iface 3 (.int .i64 n9)) := K28.out.1.cell 0) | (go_at_call 11; refine (HKI.out _).mono ?_; rintro e w29 ⟨rfl, hb⟩; have K29 := Lib.hid (And.intro (K28.out.1.below hb K28.out.1.lt) (And.intro (K28.out.2.1.below hb) (K28.out.2.2.trans (hb.mono K28.out.2.2.size)))); clear hb; have a29 : w29.cell? ⟨w20.heap.size, 0, none⟩ = some (.iface 3 (.int .i64 n9)) := K29.out.1.cell 0) | (go_at_call 6; refine (HAW.out _).mono ?_; rintro e w30 ⟨rfl, hb⟩; have HB30 := Lib.hid (K29.out.2.2.trans (hb.mono K29.out.2.2.size)); clear hb))
    go_ret
    exact ⟨rfl, HB30.out⟩
  · have HT : Hid (∀ W, Calls Tryz.prog 12 #[.agg #[.iface 4 (.bool b9)]] W fun e w' => e = .returned (.tuple #[.string ⟨#[]⟩, .bool false]) ∧ Below W.heap.size W w') := Lib.hid (fun W => Text_any (VK.yes b9) W)
    have HC : Hid (∀ W, Calls Tryz.prog 13 #[.agg #[.iface 4 (.bool b9)]] W fun e w' => e = .returned (.tuple #[.int .i64 0, .bool false]) ∧ Below W.heap.size W w') := Lib.hid (fun W => Count_any (VK.yes b9) W)
    have HY : Hid (∀ W, Calls Tryz.prog 14 #[.agg #[.iface 4 (.bool b9)]] W fun e w' => e = .returned (.tuple #[.bool b9, .bool true]) ∧ Below W.heap.size W w') := Lib.hid (fun W => Yes_any (VK.yes b9) W)
    have HCl : Hid (∀ W, VAt W 3 (.iface 4 (.bool b9)) C' A' P' → Calls Tryz.prog 15 #[.agg #[.iface 4 (.bool b9)]] W fun e w' => ∃ u, e = .returned (.tuple #[u, .bool false]) ∧ Below W.heap.size W w') := Lib.hid (fun W hv => (Clauses_any W hv).mono fun e w' hh => by obtain ⟨u, he, _, hb⟩ := hh; exact ⟨u, he, hb⟩)
    have HAt : Hid (∀ W, VAt W 3 (.iface 4 (.bool b9)) C' A' P' → Calls Tryz.prog 16 #[.agg #[.iface 4 (.bool b9)]] W fun e w' => ∃ u, e = .returned (.tuple #[u, .bool false]) ∧ Below W.heap.size W w') := Lib.hid (fun W hv => (Atoms_any W hv).mono fun e w' hh => by obtain ⟨u, he, _, hb⟩ := hh; exact ⟨u, he, hb⟩)
    have HPr : Hid (∀ W, VAt W 3 (.iface 4 (.bool b9)) C' A' P' → Calls Tryz.prog 17 #[.agg #[.iface 4 (.bool b9)]] W fun e w' => ∃ u, e = .returned (.tuple #[u, .bool false]) ∧ Below W.heap.size W w') := Lib.hid (fun W hv => (Provides_any W hv).mono fun e w' hh => by obtain ⟨u, he, _, hb⟩ := hh; exact ⟨u, he, hb⟩)
    have HTR : Hid (∀ W, Blk W w20.heap.size 30 #[.iface 4 (.bool b9)] → Calls Tryz.prog 18 #[.func (Fn.func 19) #[] #[.pointer (some ⟨w20.heap.size, 0, none⟩)]] W fun e w' => ∃ g, e = .returned (.pointer (some ⟨g, 0, none⟩)) ∧ Below W.heap.size W w') := Lib.hid (fun W hv => tryb_no _ (VK.yes b9) (by decide +kernel) W hv)
    have HKI : Hid (∀ W, Calls Tryz.prog 11 #[.agg #[.iface 4 (.bool b9)]] W fun e w' => e = .returned (.string (kindB 3)) ∧ Below W.heap.size W w') := Lib.hid (fun W => Kind_any (VK.yes b9) W)
    have hno : ((kindB 3).toList == [110, 111, 110, 101]) = false := none_list 3 (by decide) (by decide)
    rw [← HKQ.out] at HKI hno
    have K21 : Hid (Blk w21 w20.heap.size 30 #[.iface 4 (.bool b9)] ∧ VAt w21 3 (.iface 4 (.bool b9)) C' A' P' ∧ Below w.heap.size w w21) := K21
    go_upto_region 11 with fail
    rw [← hw21]
    clear hw21
    have a21 : w21.cell? ⟨w20.heap.size, 0, none⟩ = some (.iface 4 (.bool b9)) := K21.out.1.cell 0
    go_wp2_with (first | (go_at_call 12; refine (HT.out _).mono ?_; rintro e w22 ⟨rfl, hb⟩; have K22 := Lib.hid (And.intro (K21.out.1.below hb K21.out.1.lt) (And.intro (K21.out.2.1.below hb) (K21.out.2.2.trans (hb.mono K21.out.2.2.size)))); clear hb; have a22 : w22.cell? ⟨w20.heap.size, 0, none⟩ = some (.iface 4 (.bool b9)) := K22.out.1.cell 0) | (go_at_call 13; refine (HC.out _).mono ?_; rintro e w23 ⟨rfl, hb⟩; have K23 := Lib.hid (And.intro (K22.out.1.below hb K22.out.1.lt) (And.intro (K22.out.2.1.below hb) (K22.out.2.2.trans (hb.mono K22.out.2.2.size)))); clear hb; have a23 : w23.cell? ⟨w20.heap.size, 0, none⟩ = some (.iface 4 (.bool b9)) := K23.out.1.cell 0) | (go_at_call 14; refine (HY.out _).mono ?_; rintro e w24 ⟨rfl, hb⟩; have K24 := Lib.hid (And.intro (K23.out.1.below hb K23.out.1.lt) (And.intro (K23.out.2.1.below hb) (K23.out.2.2.trans (hb.mono K23.out.2.2.size)))); clear hb; have a24 : w24.cell? ⟨w20.heap.size, 0, none⟩ = some (.iface 4 (.bool b9)) := K24.out.1.cell 0) | (go_at_call 15; refine (HCl.out _ K24.out.2.1).mono ?_; rintro e w25 ⟨u1, rfl, hb⟩; have K25 := Lib.hid (And.intro (K24.out.1.below hb K24.out.1.lt) (And.intro (K24.out.2.1.below hb) (K24.out.2.2.trans (hb.mono K24.out.2.2.size)))); clear hb; have a25 : w25.cell? ⟨w20.heap.size, 0, none⟩ = some (.iface 4 (.bool b9)) := K25.out.1.cell 0) | (go_at_call 16; refine (HAt.out _ K25.out.2.1).mono ?_; rintro e w26 ⟨u2, rfl, hb⟩; have K26 := Lib.hid (And.intro (K25.out.1.below hb K25.out.1.lt) (And.intro (K25.out.2.1.below hb) (K25.out.2.2.trans (hb.mono K25.out.2.2.size)))); clear hb; have a26 : w26.cell? ⟨w20.heap.size, 0, none⟩ = some (.iface 4 (.bool b9)) := K26.out.1.cell 0) | (go_at_call 17; refine (HPr.out _ K26.out.2.1).mono ?_; rintro e w27 ⟨u3, rfl, hb⟩; have K27 := Lib.hid (And.intro (K26.out.1.below hb K26.out.1.lt) (And.intro (K26.out.2.1.below hb) (K26.out.2.2.trans (hb.mono K26.out.2.2.size)))); clear hb; have a27 : w27.cell? ⟨w20.heap.size, 0, none⟩ = some (.iface 4 (.bool b9)) := K27.out.1.cell 0) | (go_at_call 18; refine (HTR.out _ K27.out.1).mono ?_; rintro e w28 ⟨g9, rfl, hb⟩; have K28 := Lib.hid (And.intro (K27.out.1.below hb K27.out.1.lt) (And.intro (K27.out.2.1.below hb) (K27.out.2.2.trans (hb.mono K27.out.2.2.size)))); clear hb; have a28 : w28.cell? ⟨w20.heap.size, 0, none⟩ = some (.iface 4 (.bool b9)) := K28.out.1.cell 0) | (go_at_call 11; refine (HKI.out _).mono ?_; rintro e w29 ⟨rfl, hb⟩; have K29 := Lib.hid (And.intro (K28.out.1.below hb K28.out.1.lt) (And.intro (K28.out.2.1.below hb) (K28.out.2.2.trans (hb.mono K28.out.2.2.size)))); clear hb; have a29 : w29.cell? ⟨w20.heap.size, 0, none⟩ = some (.iface 4 (.bool b9)) := K29.out.1.cell 0) | (go_at_call 6; refine (HAW.out _).mono ?_; rintro e w30 ⟨rfl, hb⟩; have HB30 := Lib.hid (K29.out.2.2.trans (hb.mono K29.out.2.2.size)); clear hb))
    go_ret
    exact ⟨rfl, HB30.out⟩
  · have HT : Hid (∀ W, Calls Tryz.prog 12 #[.agg #[.iface 22 (.slice A9 n9 c9)]] W fun e w' => e = .returned (.tuple #[.string ⟨#[]⟩, .bool false]) ∧ Below W.heap.size W w') := Lib.hid (fun W => Text_any (VK.clauses A9 n9 c9) W)
    have HC : Hid (∀ W, Calls Tryz.prog 13 #[.agg #[.iface 22 (.slice A9 n9 c9)]] W fun e w' => e = .returned (.tuple #[.int .i64 0, .bool false]) ∧ Below W.heap.size W w') := Lib.hid (fun W => Count_any (VK.clauses A9 n9 c9) W)
    have HY : Hid (∀ W, Calls Tryz.prog 14 #[.agg #[.iface 22 (.slice A9 n9 c9)]] W fun e w' => e = .returned (.tuple #[.bool false, .bool false]) ∧ Below W.heap.size W w') := Lib.hid (fun W => Yes_any (VK.clauses A9 n9 c9) W)
    have HCl : Hid (∀ W, VAt W 4 (.iface 22 (.slice A9 n9 c9)) C' A' P' → Calls Tryz.prog 15 #[.agg #[.iface 22 (.slice A9 n9 c9)]] W fun e w' => ∃ u, e = .returned (.tuple #[u, .bool true]) ∧ Below W.heap.size W w') := Lib.hid (fun W hv => (Clauses_any W hv).mono fun e w' hh => by obtain ⟨u, he, _, hb⟩ := hh; exact ⟨u, he, hb⟩)
    have HAt : Hid (∀ W, VAt W 4 (.iface 22 (.slice A9 n9 c9)) C' A' P' → Calls Tryz.prog 16 #[.agg #[.iface 22 (.slice A9 n9 c9)]] W fun e w' => ∃ u, e = .returned (.tuple #[u, .bool false]) ∧ Below W.heap.size W w') := Lib.hid (fun W hv => (Atoms_any W hv).mono fun e w' hh => by obtain ⟨u, he, _, hb⟩ := hh; exact ⟨u, he, hb⟩)
    have HPr : Hid (∀ W, VAt W 4 (.iface 22 (.slice A9 n9 c9)) C' A' P' → Calls Tryz.prog 17 #[.agg #[.iface 22 (.slice A9 n9 c9)]] W fun e w' => ∃ u, e = .returned (.tuple #[u, .bool false]) ∧ Below W.heap.size W w') := Lib.hid (fun W hv => (Provides_any W hv).mono fun e w' hh => by obtain ⟨u, he, _, hb⟩ := hh; exact ⟨u, he, hb⟩)
    have HTR : Hid (∀ W, Blk W w20.heap.size 30 #[.iface 22 (.slice A9 n9 c9)] → Calls Tryz.prog 18 #[.func (Fn.func 19) #[] #[.pointer (some ⟨w20.heap.size, 0, none⟩)]] W fun e w' => ∃ g, e = .returned (.pointer (some ⟨g, 0, none⟩)) ∧ Below W.heap.size W w') := Lib.hid (fun W hv => tryb_no _ (VK.clauses A9 n9 c9) (by decide +kernel) W hv)
    have HKI : Hid (∀ W, Calls Tryz.prog 11 #[.agg #[.iface 22 (.slice A9 n9 c9)]] W fun e w' => e = .returned (.string (kindB 4)) ∧ Below W.heap.size W w') := Lib.hid (fun W => Kind_any (VK.clauses A9 n9 c9) W)
    have hno : ((kindB 4).toList == [110, 111, 110, 101]) = false := none_list 4 (by decide) (by decide)
    rw [← HKQ.out] at HKI hno
    have K21 : Hid (Blk w21 w20.heap.size 30 #[.iface 22 (.slice A9 n9 c9)] ∧ VAt w21 4 (.iface 22 (.slice A9 n9 c9)) C' A' P' ∧ Below w.heap.size w w21) := K21
    go_upto_region 11 with fail
    rw [← hw21]
    clear hw21
    have a21 : w21.cell? ⟨w20.heap.size, 0, none⟩ = some (.iface 22 (.slice A9 n9 c9)) := K21.out.1.cell 0
    go_wp2_with (first | (go_at_call 12; refine (HT.out _).mono ?_; rintro e w22 ⟨rfl, hb⟩; have K22 := Lib.hid (And.intro (K21.out.1.below hb K21.out.1.lt) (And.intro (K21.out.2.1.below hb) (K21.out.2.2.trans (hb.mono K21.out.2.2.size)))); clear hb; have a22 : w22.cell? ⟨w20.heap.size, 0, none⟩ = some (.iface 22 (.slice A9 n9 c9)) := K22.out.1.cell 0) | (go_at_call 13; refine (HC.out _).mono ?_; rintro e w23 ⟨rfl, hb⟩; have K23 := Lib.hid (And.intro (K22.out.1.below hb K22.out.1.lt) (And.intro (K22.out.2.1.below hb) (K22.out.2.2.trans (hb.mono K22.out.2.2.size)))); clear hb; have a23 : w23.cell? ⟨w20.heap.size, 0, none⟩ = some (.iface 22 (.slice A9 n9 c9)) := K23.out.1.cell 0) | (go_at_call 14; refine (HY.out _).mono ?_; rintro e w24 ⟨rfl, hb⟩; have K24 := Lib.hid (And.intro (K23.out.1.below hb K23.out.1.lt) (And.intro (K23.out.2.1.below hb) (K23.out.2.2.trans (hb.mono K23.out.2.2.size)))); clear hb; have a24 : w24.cell? ⟨w20.heap.size, 0, none⟩ = some (.iface 22 (.slice A9 n9 c9)) := K24.out.1.cell 0) | (go_at_call 15; refine (HCl.out _ K24.out.2.1).mono ?_; rintro e w25 ⟨u1, rfl, hb⟩; have K25 := Lib.hid (And.intro (K24.out.1.below hb K24.out.1.lt) (And.intro (K24.out.2.1.below hb) (K24.out.2.2.trans (hb.mono K24.out.2.2.size)))); clear hb; have a25 : w25.cell? ⟨w20.heap.size, 0, none⟩ = some (.iface 22 (.slice A9 n9 c9)) := K25.out.1.cell 0) | (go_at_call 16; refine (HAt.out _ K25.out.2.1).mono ?_; rintro e w26 ⟨u2, rfl, hb⟩; have K26 := Lib.hid (And.intro (K25.out.1.below hb K25.out.1.lt) (And.intro (K25.out.2.1.below hb) (K25.out.2.2.trans (hb.mono K25.out.2.2.size)))); clear hb; have a26 : w26.cell? ⟨w20.heap.size, 0, none⟩ = some (.iface 22 (.slice A9 n9 c9)) := K26.out.1.cell 0) | (go_at_call 17; refine (HPr.out _ K26.out.2.1).mono ?_; rintro e w27 ⟨u3, rfl, hb⟩; have K27 := Lib.hid (And.intro (K26.out.1.below hb K26.out.1.lt) (And.intro (K26.out.2.1.below hb) (K26.out.2.2.trans (hb.mono K26.out.2.2.size)))); clear hb; have a27 : w27.cell? ⟨w20.heap.size, 0, none⟩ = some (.iface 22 (.slice A9 n9 c9)) := K27.out.1.cell 0) | (go_at_call 18; refine (HTR.out _ K27.out.1).mono ?_; rintro e w28 ⟨g9, rfl, hb⟩; have K28 := Lib.hid (And.intro (K27.out.1.below hb K27.out.1.lt) (And.intro (K27.out.2.1.below hb) (K27.out.2.2.trans (hb.mono K27.out.2.2.size)))); clear hb; have a28 : w28.cell? ⟨w20.heap.size, 0, none⟩ = some (.iface 22 (.slice A9 n9 c9)) := K28.out.1.cell 0) | (go_at_call 11; refine (HKI.out _).mono ?_; rintro e w29 ⟨rfl, hb⟩; have K29 := Lib.hid (And.intro (K28.out.1.below hb K28.out.1.lt) (And.intro (K28.out.2.1.below hb) (K28.out.2.2.trans (hb.mono K28.out.2.2.size)))); clear hb; have a29 : w29.cell? ⟨w20.heap.size, 0, none⟩ = some (.iface 22 (.slice A9 n9 c9)) := K29.out.1.cell 0) | (go_at_call 6; refine (HAW.out _).mono ?_; rintro e w30 ⟨rfl, hb⟩; have HB30 := Lib.hid (K29.out.2.2.trans (hb.mono K29.out.2.2.size)); clear hb))
    go_ret
    exact ⟨rfl, HB30.out⟩
  · have HT : Hid (∀ W, Calls Tryz.prog 12 #[.agg #[.iface 23 (.slice A9 n9 c9)]] W fun e w' => e = .returned (.tuple #[.string ⟨#[]⟩, .bool false]) ∧ Below W.heap.size W w') := Lib.hid (fun W => Text_any (VK.atoms A9 n9 c9) W)
    have HC : Hid (∀ W, Calls Tryz.prog 13 #[.agg #[.iface 23 (.slice A9 n9 c9)]] W fun e w' => e = .returned (.tuple #[.int .i64 0, .bool false]) ∧ Below W.heap.size W w') := Lib.hid (fun W => Count_any (VK.atoms A9 n9 c9) W)
    have HY : Hid (∀ W, Calls Tryz.prog 14 #[.agg #[.iface 23 (.slice A9 n9 c9)]] W fun e w' => e = .returned (.tuple #[.bool false, .bool false]) ∧ Below W.heap.size W w') := Lib.hid (fun W => Yes_any (VK.atoms A9 n9 c9) W)
    have HCl : Hid (∀ W, VAt W 5 (.iface 23 (.slice A9 n9 c9)) C' A' P' → Calls Tryz.prog 15 #[.agg #[.iface 23 (.slice A9 n9 c9)]] W fun e w' => ∃ u, e = .returned (.tuple #[u, .bool false]) ∧ Below W.heap.size W w') := Lib.hid (fun W hv => (Clauses_any W hv).mono fun e w' hh => by obtain ⟨u, he, _, hb⟩ := hh; exact ⟨u, he, hb⟩)
    have HAt : Hid (∀ W, VAt W 5 (.iface 23 (.slice A9 n9 c9)) C' A' P' → Calls Tryz.prog 16 #[.agg #[.iface 23 (.slice A9 n9 c9)]] W fun e w' => ∃ u, e = .returned (.tuple #[u, .bool true]) ∧ Below W.heap.size W w') := Lib.hid (fun W hv => (Atoms_any W hv).mono fun e w' hh => by obtain ⟨u, he, _, hb⟩ := hh; exact ⟨u, he, hb⟩)
    have HPr : Hid (∀ W, VAt W 5 (.iface 23 (.slice A9 n9 c9)) C' A' P' → Calls Tryz.prog 17 #[.agg #[.iface 23 (.slice A9 n9 c9)]] W fun e w' => ∃ u, e = .returned (.tuple #[u, .bool false]) ∧ Below W.heap.size W w') := Lib.hid (fun W hv => (Provides_any W hv).mono fun e w' hh => by obtain ⟨u, he, _, hb⟩ := hh; exact ⟨u, he, hb⟩)
    have HTR : Hid (∀ W, Blk W w20.heap.size 30 #[.iface 23 (.slice A9 n9 c9)] → Calls Tryz.prog 18 #[.func (Fn.func 19) #[] #[.pointer (some ⟨w20.heap.size, 0, none⟩)]] W fun e w' => ∃ g, e = .returned (.pointer (some ⟨g, 0, none⟩)) ∧ Below W.heap.size W w') := Lib.hid (fun W hv => tryb_no _ (VK.atoms A9 n9 c9) (by decide +kernel) W hv)
    have HKI : Hid (∀ W, Calls Tryz.prog 11 #[.agg #[.iface 23 (.slice A9 n9 c9)]] W fun e w' => e = .returned (.string (kindB 5)) ∧ Below W.heap.size W w') := Lib.hid (fun W => Kind_any (VK.atoms A9 n9 c9) W)
    have hno : ((kindB 5).toList == [110, 111, 110, 101]) = false := none_list 5 (by decide) (by decide)
    rw [← HKQ.out] at HKI hno
    have K21 : Hid (Blk w21 w20.heap.size 30 #[.iface 23 (.slice A9 n9 c9)] ∧ VAt w21 5 (.iface 23 (.slice A9 n9 c9)) C' A' P' ∧ Below w.heap.size w w21) := K21
    go_upto_region 11 with fail
    rw [← hw21]
    clear hw21
    have a21 : w21.cell? ⟨w20.heap.size, 0, none⟩ = some (.iface 23 (.slice A9 n9 c9)) := K21.out.1.cell 0
    go_wp2_with (first | (go_at_call 12; refine (HT.out _).mono ?_; rintro e w22 ⟨rfl, hb⟩; have K22 := Lib.hid (And.intro (K21.out.1.below hb K21.out.1.lt) (And.intro (K21.out.2.1.below hb) (K21.out.2.2.trans (hb.mono K21.out.2.2.size)))); clear hb; have a22 : w22.cell? ⟨w20.heap.size, 0, none⟩ = some (.iface 23 (.slice A9 n9 c9)) := K22.out.1.cell 0) | (go_at_call 13; refine (HC.out _).mono ?_; rintro e w23 ⟨rfl, hb⟩; have K23 := Lib.hid (And.intro (K22.out.1.below hb K22.out.1.lt) (And.intro (K22.out.2.1.below hb) (K22.out.2.2.trans (hb.mono K22.out.2.2.size)))); clear hb; have a23 : w23.cell? ⟨w20.heap.size, 0, none⟩ = some (.iface 23 (.slice A9 n9 c9)) := K23.out.1.cell 0) | (go_at_call 14; refine (HY.out _).mono ?_; rintro e w24 ⟨rfl, hb⟩; have K24 := Lib.hid (And.intro (K23.out.1.below hb K23.out.1.lt) (And.intro (K23.out.2.1.below hb) (K23.out.2.2.trans (hb.mono K23.out.2.2.size)))); clear hb; have a24 : w24.cell? ⟨w20.heap.size, 0, none⟩ = some (.iface 23 (.slice A9 n9 c9)) := K24.out.1.cell 0) | (go_at_call 15; refine (HCl.out _ K24.out.2.1).mono ?_; rintro e w25 ⟨u1, rfl, hb⟩; have K25 := Lib.hid (And.intro (K24.out.1.below hb K24.out.1.lt) (And.intro (K24.out.2.1.below hb) (K24.out.2.2.trans (hb.mono K24.out.2.2.size)))); clear hb; have a25 : w25.cell? ⟨w20.heap.size, 0, none⟩ = some (.iface 23 (.slice A9 n9 c9)) := K25.out.1.cell 0) | (go_at_call 16; refine (HAt.out _ K25.out.2.1).mono ?_; rintro e w26 ⟨u2, rfl, hb⟩; have K26 := Lib.hid (And.intro (K25.out.1.below hb K25.out.1.lt) (And.intro (K25.out.2.1.below hb) (K25.out.2.2.trans (hb.mono K25.out.2.2.size)))); clear hb; have a26 : w26.cell? ⟨w20.heap.size, 0, none⟩ = some (.iface 23 (.slice A9 n9 c9)) := K26.out.1.cell 0) | (go_at_call 17; refine (HPr.out _ K26.out.2.1).mono ?_; rintro e w27 ⟨u3, rfl, hb⟩; have K27 := Lib.hid (And.intro (K26.out.1.below hb K26.out.1.lt) (And.intro (K26.out.2.1.below hb) (K26.out.2.2.trans (hb.mono K26.out.2.2.size)))); clear hb; have a27 : w27.cell? ⟨w20.heap.size, 0, none⟩ = some (.iface 23 (.slice A9 n9 c9)) := K27.out.1.cell 0) | (go_at_call 18; refine (HTR.out _ K27.out.1).mono ?_; rintro e w28 ⟨g9, rfl, hb⟩; have K28 := Lib.hid (And.intro (K27.out.1.below hb K27.out.1.lt) (And.intro (K27.out.2.1.below hb) (K27.out.2.2.trans (hb.mono K27.out.2.2.size)))); clear hb; have a28 : w28.cell? ⟨w20.heap.size, 0, none⟩ = some (.iface 23 (.slice A9 n9 c9)) := K28.out.1.cell 0) | (go_at_call 11; refine (HKI.out _).mono ?_; rintro e w29 ⟨rfl, hb⟩; have K29 := Lib.hid (And.intro (K28.out.1.below hb K28.out.1.lt) (And.intro (K28.out.2.1.below hb) (K28.out.2.2.trans (hb.mono K28.out.2.2.size)))); clear hb; have a29 : w29.cell? ⟨w20.heap.size, 0, none⟩ = some (.iface 23 (.slice A9 n9 c9)) := K29.out.1.cell 0) | (go_at_call 6; refine (HAW.out _).mono ?_; rintro e w30 ⟨rfl, hb⟩; have HB30 := Lib.hid (K29.out.2.2.trans (hb.mono K29.out.2.2.size)); clear hb))
    go_ret
    exact ⟨rfl, HB30.out⟩
  · have HT : Hid (∀ W, Calls Tryz.prog 12 #[.agg #[.iface 24 (.slice A9 n9 c9)]] W fun e w' => e = .returned (.tuple #[.string ⟨#[]⟩, .bool false]) ∧ Below W.heap.size W w') := Lib.hid (fun W => Text_any (VK.provides A9 n9 c9) W)
    have HC : Hid (∀ W, Calls Tryz.prog 13 #[.agg #[.iface 24 (.slice A9 n9 c9)]] W fun e w' => e = .returned (.tuple #[.int .i64 0, .bool false]) ∧ Below W.heap.size W w') := Lib.hid (fun W => Count_any (VK.provides A9 n9 c9) W)
    have HY : Hid (∀ W, Calls Tryz.prog 14 #[.agg #[.iface 24 (.slice A9 n9 c9)]] W fun e w' => e = .returned (.tuple #[.bool false, .bool false]) ∧ Below W.heap.size W w') := Lib.hid (fun W => Yes_any (VK.provides A9 n9 c9) W)
    have HCl : Hid (∀ W, VAt W 6 (.iface 24 (.slice A9 n9 c9)) C' A' P' → Calls Tryz.prog 15 #[.agg #[.iface 24 (.slice A9 n9 c9)]] W fun e w' => ∃ u, e = .returned (.tuple #[u, .bool false]) ∧ Below W.heap.size W w') := Lib.hid (fun W hv => (Clauses_any W hv).mono fun e w' hh => by obtain ⟨u, he, _, hb⟩ := hh; exact ⟨u, he, hb⟩)
    have HAt : Hid (∀ W, VAt W 6 (.iface 24 (.slice A9 n9 c9)) C' A' P' → Calls Tryz.prog 16 #[.agg #[.iface 24 (.slice A9 n9 c9)]] W fun e w' => ∃ u, e = .returned (.tuple #[u, .bool false]) ∧ Below W.heap.size W w') := Lib.hid (fun W hv => (Atoms_any W hv).mono fun e w' hh => by obtain ⟨u, he, _, hb⟩ := hh; exact ⟨u, he, hb⟩)
    have HPr : Hid (∀ W, VAt W 6 (.iface 24 (.slice A9 n9 c9)) C' A' P' → Calls Tryz.prog 17 #[.agg #[.iface 24 (.slice A9 n9 c9)]] W fun e w' => ∃ u, e = .returned (.tuple #[u, .bool true]) ∧ Below W.heap.size W w') := Lib.hid (fun W hv => (Provides_any W hv).mono fun e w' hh => by obtain ⟨u, he, _, hb⟩ := hh; exact ⟨u, he, hb⟩)
    have HTR : Hid (∀ W, Blk W w20.heap.size 30 #[.iface 24 (.slice A9 n9 c9)] → Calls Tryz.prog 18 #[.func (Fn.func 19) #[] #[.pointer (some ⟨w20.heap.size, 0, none⟩)]] W fun e w' => ∃ g, e = .returned (.pointer (some ⟨g, 0, none⟩)) ∧ Below W.heap.size W w') := Lib.hid (fun W hv => tryb_no _ (VK.provides A9 n9 c9) (by decide +kernel) W hv)
    have HKI : Hid (∀ W, Calls Tryz.prog 11 #[.agg #[.iface 24 (.slice A9 n9 c9)]] W fun e w' => e = .returned (.string (kindB 6)) ∧ Below W.heap.size W w') := Lib.hid (fun W => Kind_any (VK.provides A9 n9 c9) W)
    have hno : ((kindB 6).toList == [110, 111, 110, 101]) = false := none_list 6 (by decide) (by decide)
    rw [← HKQ.out] at HKI hno
    have K21 : Hid (Blk w21 w20.heap.size 30 #[.iface 24 (.slice A9 n9 c9)] ∧ VAt w21 6 (.iface 24 (.slice A9 n9 c9)) C' A' P' ∧ Below w.heap.size w w21) := K21
    go_upto_region 11 with fail
    rw [← hw21]
    clear hw21
    have a21 : w21.cell? ⟨w20.heap.size, 0, none⟩ = some (.iface 24 (.slice A9 n9 c9)) := K21.out.1.cell 0
    go_wp2_with (first | (go_at_call 12; refine (HT.out _).mono ?_; rintro e w22 ⟨rfl, hb⟩; have K22 := Lib.hid (And.intro (K21.out.1.below hb K21.out.1.lt) (And.intro (K21.out.2.1.below hb) (K21.out.2.2.trans (hb.mono K21.out.2.2.size)))); clear hb; have a22 : w22.cell? ⟨w20.heap.size, 0, none⟩ = some (.iface 24 (.slice A9 n9 c9)) := K22.out.1.cell 0) | (go_at_call 13; refine (HC.out _).mono ?_; rintro e w23 ⟨rfl, hb⟩; have K23 := Lib.hid (And.intro (K22.out.1.below hb K22.out.1.lt) (And.intro (K22.out.2.1.below hb) (K22.out.2.2.trans (hb.mono K22.out.2.2.size)))); clear hb; have a23 : w23.cell? ⟨w20.heap.size, 0, none⟩ = some (.iface 24 (.slice A9 n9 c9)) := K23.out.1.cell 0) | (go_at_call 14; refine (HY.out _).mono ?_; rintro e w24 ⟨rfl, hb⟩; have K24 := Lib.hid (And.intro (K23.out.1.below hb K23.out.1.lt) (And.intro (K23.out.2.1.below hb) (K23.out.2.2.trans (hb.mono K23.out.2.2.size)))); clear hb; have a24 : w24.cell? ⟨w20.heap.size, 0, none⟩ = some (.iface 24 (.slice A9 n9 c9)) := K24.out.1.cell 0) | (go_at_call 15; refine (HCl.out _ K24.out.2.1).mono ?_; rintro e w25 ⟨u1, rfl, hb⟩; have K25 := Lib.hid (And.intro (K24.out.1.below hb K24.out.1.lt) (And.intro (K24.out.2.1.below hb) (K24.out.2.2.trans (hb.mono K24.out.2.2.size)))); clear hb; have a25 : w25.cell? ⟨w20.heap.size, 0, none⟩ = some (.iface 24 (.slice A9 n9 c9)) := K25.out.1.cell 0) | (go_at_call 16; refine (HAt.out _ K25.out.2.1).mono ?_; rintro e w26 ⟨u2, rfl, hb⟩; have K26 := Lib.hid (And.intro (K25.out.1.below hb K25.out.1.lt) (And.intro (K25.out.2.1.below hb) (K25.out.2.2.trans (hb.mono K25.out.2.2.size)))); clear hb; have a26 : w26.cell? ⟨w20.heap.size, 0, none⟩ = some (.iface 24 (.slice A9 n9 c9)) := K26.out.1.cell 0) | (go_at_call 17; refine (HPr.out _ K26.out.2.1).mono ?_; rintro e w27 ⟨u3, rfl, hb⟩; have K27 := Lib.hid (And.intro (K26.out.1.below hb K26.out.1.lt) (And.intro (K26.out.2.1.below hb) (K26.out.2.2.trans (hb.mono K26.out.2.2.size)))); clear hb; have a27 : w27.cell? ⟨w20.heap.size, 0, none⟩ = some (.iface 24 (.slice A9 n9 c9)) := K27.out.1.cell 0) | (go_at_call 18; refine (HTR.out _ K27.out.1).mono ?_; rintro e w28 ⟨g9, rfl, hb⟩; have K28 := Lib.hid (And.intro (K27.out.1.below hb K27.out.1.lt) (And.intro (K27.out.2.1.below hb) (K27.out.2.2.trans (hb.mono K27.out.2.2.size)))); clear hb; have a28 : w28.cell? ⟨w20.heap.size, 0, none⟩ = some (.iface 24 (.slice A9 n9 c9)) := K28.out.1.cell 0) | (go_at_call 11; refine (HKI.out _).mono ?_; rintro e w29 ⟨rfl, hb⟩; have K29 := Lib.hid (And.intro (K28.out.1.below hb K28.out.1.lt) (And.intro (K28.out.2.1.below hb) (K28.out.2.2.trans (hb.mono K28.out.2.2.size)))); clear hb; have a29 : w29.cell? ⟨w20.heap.size, 0, none⟩ = some (.iface 24 (.slice A9 n9 c9)) := K29.out.1.cell 0) | (go_at_call 6; refine (HAW.out _).mono ?_; rintro e w30 ⟨rfl, hb⟩; have HB30 := Lib.hid (K29.out.2.2.trans (hb.mono K29.out.2.2.size)); clear hb))
    go_ret
    exact ⟨rfl, HB30.out⟩
set_option maxRecDepth 100000 in
set_option maxHeartbeats 16000000 in
theorem back_good (nm s : ByteArray) (k : Int) (s0 : ByteArray) (n0 : Int) (b0 : Bool) (Ac Aa Ap : Option Addr) (nc cc na ca np cp : Nat) (C0 : List (List RA)) (A0 : List RA) (P0 : List RP) (w : World) (hc : ClsAt w (.slice Ac nc cc) C0) (ha : AtsAt w (.slice Aa na ca) A0) (hp : PrsAt w (.slice Ap np cp) P0) (hl : lightV C0 A0 P0 = true) (q0 : Nat) (hq0 : q0 ≠ 0) (X : ByteArray)
    (hR : ∀ W, Below w.heap.size w W → Calls Tryz.prog 10 #[.string nm, .string s] W fun e w' => (∃ tx ux, e = .returned (.tuple #[.agg #[.iface tx ux], .int .i64 0]) ∧ Hid (VK q0 (.iface tx ux) ∧ ∀ W', Below w'.heap.size w' W' → Wr (.iface tx ux) X true W')) ∧ Below W.heap.size W w')
    (hR2 : ∀ W, Below w.heap.size w W → Calls Tryz.prog 10 #[.string nm, .string X] W fun e w' => (∃ tx ux, e = .returned (.tuple #[.agg #[.iface tx ux], .int .i64 0]) ∧ Hid (VK q0 (.iface tx ux) ∧ ∀ W', Below w'.heap.size w' W' → Wr (.iface tx ux) X true W')) ∧ Below W.heap.size W w') :
    Calls Tryz.prog 4 #[.string nm, .string s, .agg #[.int .i64 k, .string s0, .int .i64 n0, .bool b0, .slice Ac nc cc, .slice Aa na ca, .slice Ap np cp]] w fun e w' => e = .returned (.bool true) ∧ Below w.heap.size w w' := by
  obtain ⟨l1, l2, l3, l4⟩ := lightV_yes hl
  have HAW := Lib.hid (fun W => awake_any W)
  have HLT : Hid (∀ W, Below w.heap.size w W → Calls Tryz.prog 5 #[.agg #[.int .i64 k, .string s0, .int .i64 n0, .bool b0, .slice Ac nc cc, .slice Aa na ca, .slice Ap np cp]] W fun e w' => e = .returned (.bool true) ∧ Below W.heap.size W w') := Lib.hid (fun W hW => by rw [← hl]; exact light_any k s0 n0 b0 _ _ _ C0 A0 P0 W (hc.below hW) (ha.below hW) (hp.below hW) (by omega) (by omega) (by omega))
  have HMD : Hid (∀ W, Below w.heap.size w W → Calls Tryz.prog 7 #[.agg #[.int .i64 k, .string s0, .int .i64 n0, .bool b0, .slice Ac nc cc, .slice Aa na ca, .slice Ap np cp]] W fun e w' => ∃ (q : Nat) (x : Value) (s' : ByteArray) (n' : Int) (b' : Bool) (Ac' Aa' Ap' : Option Addr) (nc' cc' na' ca' np' cp' : Nat) (C' : List (List RA)) (A' : List RA) (P' : List RP), e = .returned (.tuple #[.agg #[x], .agg #[.string (kindB q), .string s', .int .i64 n', .bool b', .slice Ac' nc' cc', .slice Aa' na' ca', .slice Ap' np' cp']]) ∧ Hid (MadeAt w' q x s' n' b' (.slice Ac' nc' cc') (.slice Aa' na' ca') (.slice Ap' np' cp') C' A' P' ∧ Below W.heap.size W w')) := Lib.hid (fun W hW => (made_any k s0 n0 b0 _ _ _ C0 A0 P0 W (hc.below hW) (ha.below hW) (hp.below hW) (by omega) (fun l hl => by have := l2 l hl; omega) (by omega) (by omega)).mono fun e w' hh => by
    obtain ⟨q, x, s', n', b', vc', va', vp', C', A', P', he, hM, _, _, _, _, _, hb⟩ := hh
    have e1 := hM.cls
    have e2 := hM.ats
    have e3 := hM.prs
    obtain ⟨Ac9, cc9, rfl, _⟩ := e1
    obtain ⟨Aa9, ca9, rfl, _⟩ := e2
    obtain ⟨Ap9, cp9, rfl, _⟩ := e3
    exact ⟨q, x, s', n', b', _, _, _, _, _, _, _, _, _, C', A', P', he, Lib.hid ⟨hM, hb⟩⟩)
  have HBA : Hid (Below w.heap.size w (w.alloc (.cells #[.int .i64 k, .string s0, .int .i64 n0, .bool b0, .slice Ac nc cc, .slice Aa na ca, .slice Ap np cp] 26))) := Lib.hid ((Below.refl _ _).alloc (Nat.le_refl _) _)
  have HKA : Hid (Blk (w.alloc (.cells #[.int .i64 k, .string s0, .int .i64 n0, .bool b0, .slice Ac nc cc, .slice Aa na ca, .slice Ap np cp] 26)) w.heap.size 26 #[.int .i64 k, .string s0, .int .i64 n0, .bool b0, .slice Ac nc cc, .slice Aa na ca, .slice Ap np cp]) := Lib.hid (Blk.new w _ _)
  clear hc ha hp hl l1 l2 l3 l4
  have HR := Lib.hid hR
  have HR2 := Lib.hid hR2
  obtain ⟨KQ, hKQ⟩ : ∃ KQ, KQ = kindB q0 := ⟨_, rfl⟩
  have HKQ : Hid (∀ tx ux W, VK q0 (.iface tx ux) → Calls Tryz.prog 11 #[.agg #[.iface tx ux]] W fun e w' => e = .returned (.string KQ) ∧ Below W.heap.size W w') := Lib.hid (fun tx ux W h => by rw [hKQ]; exact Kind_any h W)
  clear hR hR2 hq0 hKQ
  go_enter Tryz.func4, Tryz.ntmps4
  go_upto_region 3 with ((go_at_call 5; refine (HLT.out _ HBA.out).mono ?_; rintro e w1 ⟨rfl, hb1⟩; have HB1 := Lib.hid (HBA.out.trans (hb1.mono HBA.out.size)); have HK1 := Lib.hid (HKA.out.below hb1 HKA.out.lt); clear hb1))
  go_upto_region 4 with (go_at_call 10; refine (HR.out _ HB1.out).mono ?_; rintro e w2 ⟨⟨tx, ux, rfl, hx⟩, hb⟩; have HB2 := Lib.hid (HB1.out.trans (hb.mono HB1.out.size)); have HK2 := Lib.hid (HK1.out.below hb HK1.out.lt); clear hb)
  obtain ⟨w3, hw3⟩ : ∃ w3, w3 = w2.alloc (.cells #[.iface tx ux] 30) := ⟨_, rfl⟩
  rw [← hw3]
  obtain ⟨G, hG⟩ : ∃ G, G = w.heap.size := ⟨_, rfl⟩
  obtain ⟨B, hB⟩ : ∃ B, B = w2.heap.size := ⟨_, rfl⟩
  have HB3 : Hid (Below w.heap.size w w3) := Lib.hid (by rw [hw3]; exact HB2.out.alloc HB2.out.size _)
  have HK3 : Hid (Blk w3 G 26 #[.int .i64 k, .string s0, .int .i64 n0, .bool b0, .slice Ac nc cc, .slice Aa na ca, .slice Ap np cp]) := Lib.hid (by rw [hw3, hG]; exact HK2.out.alloc _)
  have HA3 : Hid (Blk w3 B 30 #[.iface tx ux]) := Lib.hid (by rw [hw3, hB]; exact Blk.new w2 _ _)
  have HW3 : Hid (Wr (.iface tx ux) X true w3) := Lib.hid (hx.out.2 w3 (by rw [hw3]; exact (Below.refl _ _).alloc (Nat.le_refl _) _))
  have HVv := Lib.hid hx.out.1
  rw [← hG, ← hB]
  have HGG := Lib.hid hG
  clear hw3 hG hB hx HKA
  have a3 : w3.cell? ⟨B, 0, none⟩ = some (.iface tx ux) := HA3.out.cell 0
  unfold Wr at HW3
  go_upto_region 6 with (go_at_call 8; refine HW3.out.mono ?_; rintro e w4 ⟨rfl, hb⟩; have HB4 := Lib.hid (HB3.out.trans (hb.mono HB3.out.size)); have HK4 := Lib.hid (HK3.out.below hb HK3.out.lt); have HA4 := Lib.hid (HA3.out.below hb HA3.out.lt); clear hb)
  go_upto_region 7 with (go_at_call 10; refine (HR2.out _ HB4.out).mono ?_; rintro e w5 ⟨⟨ty, uy, rfl, hy⟩, hb⟩; have HB5 := Lib.hid (HB4.out.trans (hb.mono HB4.out.size)); have HK5 := Lib.hid (HK4.out.below hb HK4.out.lt); have HA5 := Lib.hid (HA4.out.below hb HA4.out.lt); clear hb)
  obtain ⟨w6, hw6⟩ : ∃ w6, w6 = w5.alloc (.cells #[.iface ty uy] 30) := ⟨_, rfl⟩
  rw [← hw6]
  obtain ⟨D, hD⟩ : ∃ D, D = w5.heap.size := ⟨_, rfl⟩
  have HU6 : Hid (KU w w6 G #[.int .i64 k, .string s0, .int .i64 n0, .bool b0, .slice Ac nc cc, .slice Aa na ca, .slice Ap np cp] B D q0 (.iface tx ux) (.iface ty uy)) := Lib.hid (by rw [hw6, hD]; exact ⟨HK5.out.alloc _, HA5.out.alloc _, Blk.new w5 _ _, HB5.out.alloc HB5.out.size _⟩)
  have HW6 : Hid (Wr (.iface ty uy) X true w6) := Lib.hid (hy.out.2 w6 (by rw [hw6]; exact (Below.refl _ _).alloc (Nat.le_refl _) _))
  have HVu := Lib.hid hy.out.1
  rw [← hD]
  clear hw6 hD hy
  have b6 : w6.cell? ⟨D, 0, none⟩ = some (.iface ty uy) := HU6.out.d.cell 0
  unfold Wr at HW6
  go_upto_region 8 with (go_at_call 8; refine HW6.out.mono ?_; rintro e w7 ⟨rfl, hb⟩; have HU := Lib.hid (HU6.out.later hb); clear hb)
  have HKS : Hid (∀ W, Lat w7 W → W.cell? ⟨B, 0, none⟩ = some (.iface tx ux) ∧ W.cell? ⟨D, 0, none⟩ = some (.iface ty uy)) := Lib.hid (fun W hW => ⟨(HU.out.later hW).a.cell 0, (HU.out.later hW).d.cell 0⟩)
  have HQV : Hid (∀ W, Calls Tryz.prog 11 #[.agg #[.iface tx ux]] W fun e w' => e = .returned (.string KQ) ∧ Lat W w') := Lib.hid (fun W => HKQ.out _ _ W HVv.out)
  have HQU : Hid (∀ W, Calls Tryz.prog 11 #[.agg #[.iface ty uy]] W fun e w' => e = .returned (.string KQ) ∧ Lat W w') := Lib.hid (fun W => HKQ.out _ _ W HVu.out)
  have HD : Hid (Lat w7 w7.drew) := Lib.hid ⟨rfl, rfl, rfl, Nat.le_refl _, fun _ _ => rfl⟩
  clear a3 b6 HKQ
  refine regionX (R := Lat) (by kernel_rfl) ?_
  refine takeX (⟨Lat.refl, fun _ _ _ => Lat.trans⟩) 0 rfl (by kernel_rfl) (by kernel_rfl) (by kernel_rfl) (by kernel_rfl) (fun _ _ _ _ _ h => h) (fun K hK => ?_)
  go_simp
  first
    | (refine hK _ ?_; clear hK K)
    | (apply Exists.intro
       refine ⟨fun W9 HW9 => ?_, hK _ ?_⟩
       (first | (go_simp; first | done | exact ⟨rfl, rfl⟩ | rfl))
       clear hK K)
  refine takeX (⟨Lat.refl, fun _ _ _ => Lat.trans⟩) 1 rfl (by kernel_rfl) (by kernel_rfl) (by kernel_rfl) (by kernel_rfl) (fun _ _ _ _ _ h => h) (fun K hK => ?_)
  go_simp
  first
    | (refine hK _ ?_; clear hK K)
    | (apply Exists.intro
       refine ⟨fun W9 HW9 => ?_, hK _ ?_⟩
       (first | (go_simp; first | done | exact ⟨rfl, rfl⟩ | rfl))
       clear hK K)
  refine takeX (⟨Lat.refl, fun _ _ _ => Lat.trans⟩) 2 rfl (by kernel_rfl) (by kernel_rfl) (by kernel_rfl) (by kernel_rfl) (fun _ _ _ _ _ h => h) (fun K hK => ?_)
  go_simp
  first
    | (refine hK _ ?_; clear hK K)
    | (apply Exists.intro
       refine ⟨fun W9 HW9 => ?_, hK _ ?_⟩
       (first | (go_simp; first | done | exact ⟨rfl, rfl⟩ | rfl))
       clear hK K)
  refine takeX (⟨Lat.refl, fun _ _ _ => Lat.trans⟩) 3 rfl (by kernel_rfl) (by kernel_rfl) (by kernel_rfl) (by kernel_rfl) (fun _ _ _ _ _ h => h) (fun K hK => ?_)
  go_simp
  first
    | (refine hK _ ?_; clear hK K)
    | (apply Exists.intro
       refine ⟨fun W9 HW9 => ?_, hK _ ?_⟩
       (first | (go_simp; first | done | exact ⟨rfl, rfl⟩ | rfl))
       clear hK K)
  refine takeX (⟨Lat.refl, fun _ _ _ => Lat.trans⟩) 4 rfl (by kernel_rfl) (by kernel_rfl) (by kernel_rfl) (by kernel_rfl) (fun _ _ _ _ _ h => h) (fun K hK => ?_)
  go_simp
  first
    | (refine hK _ ?_; clear hK K)
    | (apply Exists.intro
       refine ⟨fun W9 HW9 => ?_, hK _ ?_⟩
       (first | (go_simp; first | done | exact ⟨rfl, rfl⟩ | rfl))
       clear hK K)
  refine takeX (⟨Lat.refl, fun _ _ _ => Lat.trans⟩) 5 rfl (by kernel_rfl) (by kernel_rfl) (by kernel_rfl) (by kernel_rfl) (fun _ _ _ _ _ h => h) (fun K hK => ?_)
  go_simp
  first
    | (refine hK _ ?_; clear hK K)
    | (apply Exists.intro
       refine ⟨fun W9 HW9 => ?_, hK _ ?_⟩
       (first | (go_simp; first | done | exact ⟨rfl, rfl⟩ | rfl))
       clear hK K)
  refine takeX (⟨Lat.refl, fun _ _ _ => Lat.trans⟩) 6 rfl (by kernel_rfl) (by kernel_rfl) (by kernel_rfl) (by kernel_rfl) (fun _ _ _ _ _ h => h) (fun K hK => ?_)
  go_simp
  first
    | (refine hK _ ?_; clear hK K)
    | (apply Exists.intro
       refine ⟨fun W9 HW9 => ?_, hK _ ?_⟩
       (first | (go_simp; first | done | exact ⟨rfl, rfl⟩ | rfl))
       clear hK K)
  refine takeX (⟨Lat.refl, fun _ _ _ => Lat.trans⟩) 7 rfl (by kernel_rfl) (by kernel_rfl) (by kernel_rfl) (by kernel_rfl) (fun _ _ _ _ _ h => h) (fun K hK => ?_)
  go_simp
  first
    | (refine hK _ ?_; clear hK K)
    | (apply Exists.intro
       refine ⟨fun W9 HW9 => ?_, hK _ ?_⟩
       (first | (go_simp; first | done | exact ⟨rfl, rfl⟩ | rfl))
       clear hK K)
  refine takeX (⟨Lat.refl, fun _ _ _ => Lat.trans⟩) 8 rfl (by kernel_rfl) (by kernel_rfl) (by kernel_rfl) (by kernel_rfl) (fun _ _ _ _ _ h => h) (fun K hK => ?_)
  go_simp
  first
    | (refine hK _ ?_; clear hK K)
    | (apply Exists.intro
       refine ⟨fun W9 HW9 => ?_, hK _ ?_⟩
       (first | (go_simp; first | done | exact ⟨rfl, rfl⟩ | rfl))
       clear hK K)
  refine takeX (⟨Lat.refl, fun _ _ _ => Lat.trans⟩) 9 rfl (by kernel_rfl) (by kernel_rfl) (by kernel_rfl) (by kernel_rfl) (fun _ _ _ _ _ h => h) (fun K hK => ?_)
  go_simp
  first
    | (refine hK _ ?_; clear hK K)
    | (apply Exists.intro
       refine ⟨fun W9 HW9 => ?_, hK _ ?_⟩
       (first | (go_simp; first | done | exact ⟨rfl, rfl⟩ | rfl))
       clear hK K)
  refine takeX (⟨Lat.refl, fun _ _ _ => Lat.trans⟩) 10 rfl (by kernel_rfl) (by kernel_rfl) (by kernel_rfl) (by kernel_rfl) (fun _ _ _ _ _ h => h) (fun K hK => ?_)
  go_simp
  first
    | (refine hK _ ?_; clear hK K)
    | (apply Exists.intro
       refine ⟨fun W9 HW9 => ?_, hK _ ?_⟩
       (first | (go_simp; first | done | exact ⟨rfl, rfl⟩ | rfl))
       clear hK K)
  refine takeX (⟨Lat.refl, fun _ _ _ => Lat.trans⟩) 11 rfl (by kernel_rfl) (by kernel_rfl) (by kernel_rfl) (by kernel_rfl) (fun _ _ _ _ _ h => h) (fun K hK => ?_)
  go_simp
  first
    | (refine hK _ ?_; clear hK K)
    | (apply Exists.intro
       refine ⟨fun W9 HW9 => ?_, hK _ ?_⟩
       (first | (go_simp; first | done | exact ⟨rfl, rfl⟩ | rfl))
       clear hK K)
  refine takeX (⟨Lat.refl, fun _ _ _ => Lat.trans⟩) 12 rfl (by kernel_rfl) (by kernel_rfl) (by kernel_rfl) (by kernel_rfl) (fun _ _ _ _ _ h => h) (fun K hK => ?_)
  go_simp
  first
    | (refine hK _ ?_; clear hK K)
    | (apply Exists.intro
       refine ⟨fun W9 HW9 => ?_, hK _ ?_⟩
       (first | (go_simp; first | done | exact ⟨rfl, rfl⟩ | rfl))
       clear hK K)
  refine takeX (⟨Lat.refl, fun _ _ _ => Lat.trans⟩) 13 rfl (by kernel_rfl) (by kernel_rfl) (by kernel_rfl) (by kernel_rfl) (fun _ _ _ _ _ h => h) (fun K hK => ?_)
  go_simp
  first
    | (refine hK _ ?_; clear hK K)
    | (apply Exists.intro
       refine ⟨fun W9 HW9 => ?_, hK _ ?_⟩
       (first | (go_simp; first | done | exact ⟨rfl, rfl⟩ | rfl))
       clear hK K)
  refine takeX (⟨Lat.refl, fun _ _ _ => Lat.trans⟩) 14 rfl (by kernel_rfl) (by kernel_rfl) (by kernel_rfl) (by kernel_rfl) (fun _ _ _ _ _ h => h) (fun K hK => ?_)
  go_simp
  first
    | (refine hK _ ?_; clear hK K)
    | (apply Exists.intro
       refine ⟨fun W9 HW9 => ?_, hK _ ?_⟩
       (first | (go_simp; first | done | exact ⟨rfl, rfl⟩ | rfl))
       clear hK K)
  refine takeX (⟨Lat.refl, fun _ _ _ => Lat.trans⟩) 15 rfl (by kernel_rfl) (by kernel_rfl) (by kernel_rfl) (by kernel_rfl) (fun _ _ _ _ _ h => h) (fun K hK => ?_)
  go_simp
  first
    | (refine hK _ ?_; clear hK K)
    | (apply Exists.intro
       refine ⟨fun W9 HW9 => ?_, hK _ ?_⟩
       (first | (go_simp; first | done | exact ⟨rfl, rfl⟩ | rfl))
       clear hK K)
  refine takeX (⟨Lat.refl, fun _ _ _ => Lat.trans⟩) 16 rfl (by kernel_rfl) (by kernel_rfl) (by kernel_rfl) (by kernel_rfl) (fun _ _ _ _ _ h => h) (fun K hK => ?_)
  go_simp
  first
    | (refine hK _ ?_; clear hK K)
    | (apply Exists.intro
       refine ⟨fun W9 HW9 => ?_, hK _ ?_⟩
       (first | (go_simp; first | done | exact ⟨rfl, rfl⟩ | rfl) | (obtain ⟨c1, c2⟩ := HKS.out W9 (HD.out.trans HW9); go_simp; first | done | exact ⟨rfl, rfl⟩ | rfl))
       clear hK K)
  refine takeX (⟨Lat.refl, fun _ _ _ => Lat.trans⟩) 17 rfl (by kernel_rfl) (by kernel_rfl) (by kernel_rfl) (by kernel_rfl) (fun _ _ _ _ _ h => h) (fun K hK => ?_)
  go_simp
  first
    | (refine hK _ ?_; clear hK K)
    | (apply Exists.intro
       refine ⟨fun W9 HW9 => ?_, hK _ ?_⟩
       (first | (go_simp; first | done | exact ⟨rfl, rfl⟩ | rfl) | (go_at_call 11; exact HQU.out W9))
       clear hK K)
  refine takeX (⟨Lat.refl, fun _ _ _ => Lat.trans⟩) 18 rfl (by kernel_rfl) (by kernel_rfl) (by kernel_rfl) (by kernel_rfl) (fun _ _ _ _ _ h => h) (fun K hK => ?_)
  go_simp
  first
    | (refine hK _ ?_; clear hK K)
    | (apply Exists.intro
       refine ⟨fun W9 HW9 => ?_, hK _ ?_⟩
       (first | (go_simp; first | done | exact ⟨rfl, rfl⟩ | rfl) | (obtain ⟨c1, c2⟩ := HKS.out W9 (HD.out.trans HW9); go_simp; first | done | exact ⟨rfl, rfl⟩ | rfl))
       clear hK K)
  refine takeX (⟨Lat.refl, fun _ _ _ => Lat.trans⟩) 19 rfl (by kernel_rfl) (by kernel_rfl) (by kernel_rfl) (by kernel_rfl) (fun _ _ _ _ _ h => h) (fun K hK => ?_)
  go_simp
  first
    | (refine hK _ ?_; clear hK K)
    | (apply Exists.intro
       refine ⟨fun W9 HW9 => ?_, hK _ ?_⟩
       (first | (go_simp; first | done | exact ⟨rfl, rfl⟩ | rfl) | (go_at_call 11; exact HQV.out W9))
       clear hK K)
  refine takeX (⟨Lat.refl, fun _ _ _ => Lat.trans⟩) 20 rfl (by kernel_rfl) (by kernel_rfl) (by kernel_rfl) (by kernel_rfl) (fun _ _ _ _ _ h => h) (fun K hK => ?_)
  go_simp
  first
    | (refine hK _ ?_; clear hK K)
    | (apply Exists.intro
       refine ⟨fun W9 HW9 => ?_, hK _ ?_⟩
       (first | (go_simp; first | done | exact ⟨rfl, rfl⟩ | rfl))
       clear hK K)
  refine soloX ⟨Lat.refl, fun _ _ _ => Lat.trans⟩ 21 rfl (by kernel_rfl) (fun wz HWz K hK => ?_)
  have HWD := Lib.hid (HD.out.trans HWz)
  go_simp
  refine hK _ _ (Lat.refl _) ?_
  refine doneX (by kernel_rfl) (NoPanic.normal' ?_) _
  clear hK K HWz
  have HUz := Lib.hid (HU.out.later HWD.out)
  have HBz := Lib.hid HUz.out.bl
  have HKz := Lib.hid HUz.out.g
  clear HKS HQV HQU HD HWD
  go_upto_region 10 with fail
  have c0 : wz.cell? ⟨G, 0, none⟩ = some (.int .i64 k) := HKz.out.cell 0
  have c1 : wz.cell? ⟨G, 1, none⟩ = some (.string s0) := HKz.out.cell 1
  have c2 : wz.cell? ⟨G, 2, none⟩ = some (.int .i64 n0) := HKz.out.cell 2
  have c3 : wz.cell? ⟨G, 3, none⟩ = some (.bool b0) := HKz.out.cell 3
  have c4 : wz.cell? ⟨G, 4, none⟩ = some (.slice Ac nc cc) := HKz.out.cell 4
  have c5 : wz.cell? ⟨G, 5, none⟩ = some (.slice Aa na ca) := HKz.out.cell 5
  have c6 : wz.cell? ⟨G, 6, none⟩ = some (.slice Ap np cp) := HKz.out.cell 6
  go_wp2_with fail
  go_at_call 7
  refine (HMD.out _ HBz.out).mono ?_
  rintro e w20 ⟨q, x, s', n', b', Ac', Aa', Ap', nc', cc', na', ca', np', cp', C', A', P', rfl, hM⟩
  have HB20 := Lib.hid (HBz.out.trans (hM.out.2.mono HBz.out.size))
  have hK := KB.new hM.out.1 HB20.out
  obtain ⟨w21, hw21⟩ : ∃ w21, w21 = ((w20.alloc (.cells #[x] 30)).alloc (.cells #[.string (kindB q), .string s', .int .i64 n', .bool b', .slice Ac' nc' cc', .slice Aa' na' ca', .slice Ap' np' cp'] 32)) := ⟨_, rfl⟩
  rw [← hw21] at hK
  have hv := hK.m.v
  obtain ⟨KQ, hKQ⟩ : ∃ KQ, KQ = kindB q := ⟨_, rfl⟩
  rw [← hKQ] at hw21
  rw [← hKQ]
  have HKQ := Lib.hid hKQ
  have HX := Lib.hid (vk_cases hM.out.1.v.kind)
  have K21 := Lib.hid (And.intro hK.a (And.intro hv hK.bl))
  clear hK hM hv hKQ
  rcases HX.out with ⟨hq, hx⟩ | ⟨hq, s9, hx⟩ | ⟨hq, n9, hx⟩ | ⟨hq, b9, hx⟩ | ⟨hq, A9, n9, c9, hx⟩ | ⟨hq, A9, n9, c9, hx⟩ | ⟨hq, A9, n9, c9, hx⟩
  all_goals
    subst hq hx
    clear HX
  · have HT : Hid (∀ W, Calls Tryz.prog 12 #[.agg #[.nilIface]] W fun e w' => e = .returned (.tuple #[.string ⟨#[]⟩, .bool false]) ∧ Below W.heap.size W w') := Lib.hid (fun W => Text_any (VK.none) W)
    have HC : Hid (∀ W, Calls Tryz.prog 13 #[.agg #[.nilIface]] W fun e w' => e = .returned (.tuple #[.int .i64 0, .bool false]) ∧ Below W.heap.size W w') := Lib.hid (fun W => Count_any (VK.none) W)
    have HY : Hid (∀ W, Calls Tryz.prog 14 #[.agg #[.nilIface]] W fun e w' => e = .returned (.tuple #[.bool false, .bool false]) ∧ Below W.heap.size W w') := Lib.hid (fun W => Yes_any (VK.none) W)
    have HCl : Hid (∀ W, VAt W 0 (.nilIface) C' A' P' → Calls Tryz.prog 15 #[.agg #[.nilIface]] W fun e w' => ∃ u, e = .returned (.tuple #[u, .bool false]) ∧ Below W.heap.size W w') := Lib.hid (fun W hv => (Clauses_any W hv).mono fun e w' hh => by obtain ⟨u, he, _, hb⟩ := hh; exact ⟨u, he, hb⟩)
    have HAt : Hid (∀ W, VAt W 0 (.nilIface) C' A' P' → Calls Tryz.prog 16 #[.agg #[.nilIface]] W fun e w' => ∃ u, e = .returned (.tuple #[u, .bool false]) ∧ Below W.heap.size W w') := Lib.hid (fun W hv => (Atoms_any W hv).mono fun e w' hh => by obtain ⟨u, he, _, hb⟩ := hh; exact ⟨u, he, hb⟩)
    have HPr : Hid (∀ W, VAt W 0 (.nilIface) C' A' P' → Calls Tryz.prog 17 #[.agg #[.nilIface]] W fun e w' => ∃ u, e = .returned (.tuple #[u, .bool false]) ∧ Below W.heap.size W w') := Lib.hid (fun W hv => (Provides_any W hv).mono fun e w' hh => by obtain ⟨u, he, _, hb⟩ := hh; exact ⟨u, he, hb⟩)
    have HTR : Hid (∀ W, Blk W w20.heap.size 30 #[.nilIface] → Calls Tryz.prog 18 #[.func (Fn.func 19) #[] #[.pointer (some ⟨w20.heap.size, 0, none⟩)]] W fun e w' => ∃ g, e = .returned (.pointer (some ⟨g, 0, none⟩)) ∧ Below W.heap.size W w') := Lib.hid (fun W hv => tryb_no _ (VK.none) (by decide +kernel) W hv)
    have HKI : Hid (∀ W, Calls Tryz.prog 11 #[.agg #[.nilIface]] W fun e w' => e = .returned (.string (kindB 0)) ∧ Below W.heap.size W w') := Lib.hid (fun W => Kind_any (VK.none) W)
    have hno : ((kindB 0).toList == [110, 111, 110, 101]) = true := by rw [ByteArray.toList_eq]; decide +kernel
    rw [← HKQ.out] at HKI hno
    have K21 : Hid (Blk w21 w20.heap.size 30 #[.nilIface] ∧ VAt w21 0 (.nilIface) C' A' P' ∧ Below w.heap.size w w21) := K21
    go_upto_region 11 with fail
    rw [← hw21]
    clear hw21
    have a21 : w21.cell? ⟨w20.heap.size, 0, none⟩ = some (.nilIface) := K21.out.1.cell 0
    go_wp2_with (first | (go_at_call 12; refine (HT.out _).mono ?_; rintro e w22 ⟨rfl, hb⟩; have K22 := Lib.hid (And.intro (K21.out.1.below hb K21.out.1.lt) (And.intro (K21.out.2.1.below hb) (K21.out.2.2.trans (hb.mono K21.out.2.2.size)))); clear hb; have a22 : w22.cell? ⟨w20.heap.size, 0, none⟩ = some (.nilIface) := K22.out.1.cell 0) | (go_at_call 13; refine (HC.out _).mono ?_; rintro e w23 ⟨rfl, hb⟩; have K23 := Lib.hid (And.intro (K22.out.1.below hb K22.out.1.lt) (And.intro (K22.out.2.1.below hb) (K22.out.2.2.trans (hb.mono K22.out.2.2.size)))); clear hb; have a23 : w23.cell? ⟨w20.heap.size, 0, none⟩ = some (.nilIface) := K23.out.1.cell 0) | (go_at_call 14; refine (HY.out _).mono ?_; rintro e w24 ⟨rfl, hb⟩; have K24 := Lib.hid (And.intro (K23.out.1.below hb K23.out.1.lt) (And.intro (K23.out.2.1.below hb) (K23.out.2.2.trans (hb.mono K23.out.2.2.size)))); clear hb; have a24 : w24.cell? ⟨w20.heap.size, 0, none⟩ = some (.nilIface) := K24.out.1.cell 0) | (go_at_call 15; refine (HCl.out _ K24.out.2.1).mono ?_; rintro e w25 ⟨u1, rfl, hb⟩; have K25 := Lib.hid (And.intro (K24.out.1.below hb K24.out.1.lt) (And.intro (K24.out.2.1.below hb) (K24.out.2.2.trans (hb.mono K24.out.2.2.size)))); clear hb; have a25 : w25.cell? ⟨w20.heap.size, 0, none⟩ = some (.nilIface) := K25.out.1.cell 0) | (go_at_call 16; refine (HAt.out _ K25.out.2.1).mono ?_; rintro e w26 ⟨u2, rfl, hb⟩; have K26 := Lib.hid (And.intro (K25.out.1.below hb K25.out.1.lt) (And.intro (K25.out.2.1.below hb) (K25.out.2.2.trans (hb.mono K25.out.2.2.size)))); clear hb; have a26 : w26.cell? ⟨w20.heap.size, 0, none⟩ = some (.nilIface) := K26.out.1.cell 0) | (go_at_call 17; refine (HPr.out _ K26.out.2.1).mono ?_; rintro e w27 ⟨u3, rfl, hb⟩; have K27 := Lib.hid (And.intro (K26.out.1.below hb K26.out.1.lt) (And.intro (K26.out.2.1.below hb) (K26.out.2.2.trans (hb.mono K26.out.2.2.size)))); clear hb; have a27 : w27.cell? ⟨w20.heap.size, 0, none⟩ = some (.nilIface) := K27.out.1.cell 0) | (go_at_call 18; refine (HTR.out _ K27.out.1).mono ?_; rintro e w28 ⟨g9, rfl, hb⟩; have K28 := Lib.hid (And.intro (K27.out.1.below hb K27.out.1.lt) (And.intro (K27.out.2.1.below hb) (K27.out.2.2.trans (hb.mono K27.out.2.2.size)))); clear hb; have a28 : w28.cell? ⟨w20.heap.size, 0, none⟩ = some (.nilIface) := K28.out.1.cell 0) | (go_at_call 11; refine (HKI.out _).mono ?_; rintro e w29 ⟨rfl, hb⟩; have K29 := Lib.hid (And.intro (K28.out.1.below hb K28.out.1.lt) (And.intro (K28.out.2.1.below hb) (K28.out.2.2.trans (hb.mono K28.out.2.2.size)))); clear hb; have a29 : w29.cell? ⟨w20.heap.size, 0, none⟩ = some (.nilIface) := K29.out.1.cell 0) | (go_at_call 6; refine (HAW.out _).mono ?_; rintro e w30 ⟨rfl, hb⟩; have HB30 := Lib.hid (K29.out.2.2.trans (hb.mono K29.out.2.2.size)); clear hb))
    go_ret
    exact ⟨rfl, HB30.out⟩
  · have HT : Hid (∀ W, Calls Tryz.prog 12 #[.agg #[.iface 9 (.string s9)]] W fun e w' => e = .returned (.tuple #[.string s9, .bool true]) ∧ Below W.heap.size W w') := Lib.hid (fun W => Text_any (VK.text s9) W)
    have HC : Hid (∀ W, Calls Tryz.prog 13 #[.agg #[.iface 9 (.string s9)]] W fun e w' => e = .returned (.tuple #[.int .i64 0, .bool false]) ∧ Below W.heap.size W w') := Lib.hid (fun W => Count_any (VK.text s9) W)
    have HY : Hid (∀ W, Calls Tryz.prog 14 #[.agg #[.iface 9 (.string s9)]] W fun e w' => e = .returned (.tuple #[.bool false, .bool false]) ∧ Below W.heap.size W w') := Lib.hid (fun W => Yes_any (VK.text s9) W)
    have HCl : Hid (∀ W, VAt W 1 (.iface 9 (.string s9)) C' A' P' → Calls Tryz.prog 15 #[.agg #[.iface 9 (.string s9)]] W fun e w' => ∃ u, e = .returned (.tuple #[u, .bool false]) ∧ Below W.heap.size W w') := Lib.hid (fun W hv => (Clauses_any W hv).mono fun e w' hh => by obtain ⟨u, he, _, hb⟩ := hh; exact ⟨u, he, hb⟩)
    have HAt : Hid (∀ W, VAt W 1 (.iface 9 (.string s9)) C' A' P' → Calls Tryz.prog 16 #[.agg #[.iface 9 (.string s9)]] W fun e w' => ∃ u, e = .returned (.tuple #[u, .bool false]) ∧ Below W.heap.size W w') := Lib.hid (fun W hv => (Atoms_any W hv).mono fun e w' hh => by obtain ⟨u, he, _, hb⟩ := hh; exact ⟨u, he, hb⟩)
    have HPr : Hid (∀ W, VAt W 1 (.iface 9 (.string s9)) C' A' P' → Calls Tryz.prog 17 #[.agg #[.iface 9 (.string s9)]] W fun e w' => ∃ u, e = .returned (.tuple #[u, .bool false]) ∧ Below W.heap.size W w') := Lib.hid (fun W hv => (Provides_any W hv).mono fun e w' hh => by obtain ⟨u, he, _, hb⟩ := hh; exact ⟨u, he, hb⟩)
    have HTR : Hid (∀ W, Blk W w20.heap.size 30 #[.iface 9 (.string s9)] → Calls Tryz.prog 18 #[.func (Fn.func 19) #[] #[.pointer (some ⟨w20.heap.size, 0, none⟩)]] W fun e w' => e = .returned (.pointer none) ∧ Below W.heap.size W w') := Lib.hid (fun W hv => tryb_ok _ s9 W hv)
    have HKI : Hid (∀ W, Calls Tryz.prog 11 #[.agg #[.iface 9 (.string s9)]] W fun e w' => e = .returned (.string (kindB 1)) ∧ Below W.heap.size W w') := Lib.hid (fun W => Kind_any (VK.text s9) W)
    have hno : ((kindB 1).toList == [110, 111, 110, 101]) = false := none_list 1 (by decide) (by decide)
    rw [← HKQ.out] at HKI hno
    have K21 : Hid (Blk w21 w20.heap.size 30 #[.iface 9 (.string s9)] ∧ VAt w21 1 (.iface 9 (.string s9)) C' A' P' ∧ Below w.heap.size w w21) := K21
    go_upto_region 11 with fail
    rw [← hw21]
    clear hw21
    have a21 : w21.cell? ⟨w20.heap.size, 0, none⟩ = some (.iface 9 (.string s9)) := K21.out.1.cell 0
    go_wp2_with (first | (go_at_call 12; refine (HT.out _).mono ?_; rintro e w22 ⟨rfl, hb⟩; have K22 := Lib.hid (And.intro (K21.out.1.below hb K21.out.1.lt) (And.intro (K21.out.2.1.below hb) (K21.out.2.2.trans (hb.mono K21.out.2.2.size)))); clear hb; have a22 : w22.cell? ⟨w20.heap.size, 0, none⟩ = some (.iface 9 (.string s9)) := K22.out.1.cell 0) | (go_at_call 13; refine (HC.out _).mono ?_; rintro e w23 ⟨rfl, hb⟩; have K23 := Lib.hid (And.intro (K22.out.1.below hb K22.out.1.lt) (And.intro (K22.out.2.1.below hb) (K22.out.2.2.trans (hb.mono K22.out.2.2.size)))); clear hb; have a23 : w23.cell? ⟨w20.heap.size, 0, none⟩ = some (.iface 9 (.string s9)) := K23.out.1.cell 0) | (go_at_call 14; refine (HY.out _).mono ?_; rintro e w24 ⟨rfl, hb⟩; have K24 := Lib.hid (And.intro (K23.out.1.below hb K23.out.1.lt) (And.intro (K23.out.2.1.below hb) (K23.out.2.2.trans (hb.mono K23.out.2.2.size)))); clear hb; have a24 : w24.cell? ⟨w20.heap.size, 0, none⟩ = some (.iface 9 (.string s9)) := K24.out.1.cell 0) | (go_at_call 15; refine (HCl.out _ K24.out.2.1).mono ?_; rintro e w25 ⟨u1, rfl, hb⟩; have K25 := Lib.hid (And.intro (K24.out.1.below hb K24.out.1.lt) (And.intro (K24.out.2.1.below hb) (K24.out.2.2.trans (hb.mono K24.out.2.2.size)))); clear hb; have a25 : w25.cell? ⟨w20.heap.size, 0, none⟩ = some (.iface 9 (.string s9)) := K25.out.1.cell 0) | (go_at_call 16; refine (HAt.out _ K25.out.2.1).mono ?_; rintro e w26 ⟨u2, rfl, hb⟩; have K26 := Lib.hid (And.intro (K25.out.1.below hb K25.out.1.lt) (And.intro (K25.out.2.1.below hb) (K25.out.2.2.trans (hb.mono K25.out.2.2.size)))); clear hb; have a26 : w26.cell? ⟨w20.heap.size, 0, none⟩ = some (.iface 9 (.string s9)) := K26.out.1.cell 0) | (go_at_call 17; refine (HPr.out _ K26.out.2.1).mono ?_; rintro e w27 ⟨u3, rfl, hb⟩; have K27 := Lib.hid (And.intro (K26.out.1.below hb K26.out.1.lt) (And.intro (K26.out.2.1.below hb) (K26.out.2.2.trans (hb.mono K26.out.2.2.size)))); clear hb; have a27 : w27.cell? ⟨w20.heap.size, 0, none⟩ = some (.iface 9 (.string s9)) := K27.out.1.cell 0) | (go_at_call 18; refine (HTR.out _ K27.out.1).mono ?_; rintro e w28 ⟨rfl, hb⟩; have K28 := Lib.hid (And.intro (K27.out.1.below hb K27.out.1.lt) (And.intro (K27.out.2.1.below hb) (K27.out.2.2.trans (hb.mono K27.out.2.2.size)))); clear hb; have a28 : w28.cell? ⟨w20.heap.size, 0, none⟩ = some (.iface 9 (.string s9)) := K28.out.1.cell 0) | (go_at_call 11; refine (HKI.out _).mono ?_; rintro e w29 ⟨rfl, hb⟩; have K29 := Lib.hid (And.intro (K28.out.1.below hb K28.out.1.lt) (And.intro (K28.out.2.1.below hb) (K28.out.2.2.trans (hb.mono K28.out.2.2.size)))); clear hb; have a29 : w29.cell? ⟨w20.heap.size, 0, none⟩ = some (.iface 9 (.string s9)) := K29.out.1.cell 0) | (go_at_call 6; refine (HAW.out _).mono ?_; rintro e w30 ⟨rfl, hb⟩; have HB30 := Lib.hid (K29.out.2.2.trans (hb.mono K29.out.2.2.size)); clear hb))
    go_ret
    exact ⟨rfl, HB30.out⟩
  · have HT : Hid (∀ W, Calls Tryz.prog 12 #[.agg #[.iface 3 (.int .i64 n9)]] W fun e w' => e = .returned (.tuple #[.string ⟨#[]⟩, .bool false]) ∧ Below W.heap.size W w') := Lib.hid (fun W => Text_any (VK.count n9) W)
    have HC : Hid (∀ W, Calls Tryz.prog 13 #[.agg #[.iface 3 (.int .i64 n9)]] W fun e w' => e = .returned (.tuple #[.int .i64 n9, .bool true]) ∧ Below W.heap.size W w') := Lib.hid (fun W => Count_any (VK.count n9) W)
    have HY : Hid (∀ W, Calls Tryz.prog 14 #[.agg #[.iface 3 (.int .i64 n9)]] W fun e w' => e = .returned (.tuple #[.bool false, .bool false]) ∧ Below W.heap.size W w') := Lib.hid (fun W => Yes_any (VK.count n9) W)
    have HCl : Hid (∀ W, VAt W 2 (.iface 3 (.int .i64 n9)) C' A' P' → Calls Tryz.prog 15 #[.agg #[.iface 3 (.int .i64 n9)]] W fun e w' => ∃ u, e = .returned (.tuple #[u, .bool false]) ∧ Below W.heap.size W w') := Lib.hid (fun W hv => (Clauses_any W hv).mono fun e w' hh => by obtain ⟨u, he, _, hb⟩ := hh; exact ⟨u, he, hb⟩)
    have HAt : Hid (∀ W, VAt W 2 (.iface 3 (.int .i64 n9)) C' A' P' → Calls Tryz.prog 16 #[.agg #[.iface 3 (.int .i64 n9)]] W fun e w' => ∃ u, e = .returned (.tuple #[u, .bool false]) ∧ Below W.heap.size W w') := Lib.hid (fun W hv => (Atoms_any W hv).mono fun e w' hh => by obtain ⟨u, he, _, hb⟩ := hh; exact ⟨u, he, hb⟩)
    have HPr : Hid (∀ W, VAt W 2 (.iface 3 (.int .i64 n9)) C' A' P' → Calls Tryz.prog 17 #[.agg #[.iface 3 (.int .i64 n9)]] W fun e w' => ∃ u, e = .returned (.tuple #[u, .bool false]) ∧ Below W.heap.size W w') := Lib.hid (fun W hv => (Provides_any W hv).mono fun e w' hh => by obtain ⟨u, he, _, hb⟩ := hh; exact ⟨u, he, hb⟩)
    have HTR : Hid (∀ W, Blk W w20.heap.size 30 #[.iface 3 (.int .i64 n9)] → Calls Tryz.prog 18 #[.func (Fn.func 19) #[] #[.pointer (some ⟨w20.heap.size, 0, none⟩)]] W fun e w' => ∃ g, e = .returned (.pointer (some ⟨g, 0, none⟩)) ∧ Below W.heap.size W w') := Lib.hid (fun W hv => tryb_no _ (VK.count n9) (by decide +kernel) W hv)
    have HKI : Hid (∀ W, Calls Tryz.prog 11 #[.agg #[.iface 3 (.int .i64 n9)]] W fun e w' => e = .returned (.string (kindB 2)) ∧ Below W.heap.size W w') := Lib.hid (fun W => Kind_any (VK.count n9) W)
    have hno : ((kindB 2).toList == [110, 111, 110, 101]) = false := none_list 2 (by decide) (by decide)
    rw [← HKQ.out] at HKI hno
    have K21 : Hid (Blk w21 w20.heap.size 30 #[.iface 3 (.int .i64 n9)] ∧ VAt w21 2 (.iface 3 (.int .i64 n9)) C' A' P' ∧ Below w.heap.size w w21) := K21
    go_upto_region 11 with fail
    rw [← hw21]
    clear hw21
    have a21 : w21.cell? ⟨w20.heap.size, 0, none⟩ = some (.iface 3 (.int .i64 n9)) := K21.out.1.cell 0
    go_wp2_with (first | (go_at_call 12; refine (HT.out _).mono ?_; rintro e w22 ⟨rfl, hb⟩; have K22 := Lib.hid (And.intro (K21.out.1.below hb K21.out.1.lt) (And.intro (K21.out.2.1.below hb) (K21.out.2.2.trans (hb.mono K21.out.2.2.size)))); clear hb; have a22 : w22.cell? ⟨w20.heap.size, 0, none⟩ = some (.iface 3 (.int .i64 n9)) := K22.out.1.cell 0) | (go_at_call 13; refine (HC.out _).mono ?_; rintro e w23 ⟨rfl, hb⟩; have K23 := Lib.hid (And.intro (K22.out.1.below hb K22.out.1.lt) (And.intro (K22.out.2.1.below hb) (K22.out.2.2.trans (hb.mono K22.out.2.2.size)))); clear hb; have a23 : w23.cell? ⟨w20.heap.size, 0, none⟩ = some (.iface 3 (.int .i64 n9)) := K23.out.1.cell 0) | (go_at_call 14; refine (HY.out _).mono ?_; rintro e w24 ⟨rfl, hb⟩; have K24 := Lib.hid (And.intro (K23.out.1.below hb K23.out.1.lt) (And.intro (K23.out.2.1.below hb) (K23.out.2.2.trans (hb.mono K23.out.2.2.size)))); clear hb; have a24 : w24.cell? ⟨w20.heap.size, 0, none⟩ = some (.iface 3 (.int .i64 n9)) := K24.out.1.cell 0) | (go_at_call 15; refine (HCl.out _ K24.out.2.1).mono ?_; rintro e w25 ⟨u1, rfl, hb⟩; have K25 := Lib.hid (And.intro (K24.out.1.below hb K24.out.1.lt) (And.intro (K24.out.2.1.below hb) (K24.out.2.2.trans (hb.mono K24.out.2.2.size)))); clear hb; have a25 : w25.cell? ⟨w20.heap.size, 0, none⟩ = some (.iface 3 (.int .i64 n9)) := K25.out.1.cell 0) | (go_at_call 16; refine (HAt.out _ K25.out.2.1).mono ?_; rintro e w26 ⟨u2, rfl, hb⟩; have K26 := Lib.hid (And.intro (K25.out.1.below hb K25.out.1.lt) (And.intro (K25.out.2.1.below hb) (K25.out.2.2.trans (hb.mono K25.out.2.2.size)))); clear hb; have a26 : w26.cell? ⟨w20.heap.size, 0, none⟩ = some (.iface 3 (.int .i64 n9)) := K26.out.1.cell 0) | (go_at_call 17; refine (HPr.out _ K26.out.2.1).mono ?_; rintro e w27 ⟨u3, rfl, hb⟩; have K27 := Lib.hid (And.intro (K26.out.1.below hb K26.out.1.lt) (And.intro (K26.out.2.1.below hb) (K26.out.2.2.trans (hb.mono K26.out.2.2.size)))); clear hb; have a27 : w27.cell? ⟨w20.heap.size, 0, none⟩ = some (.iface 3 (.int .i64 n9)) := K27.out.1.cell 0) | (go_at_call 18; refine (HTR.out _ K27.out.1).mono ?_; rintro e w28 ⟨g9, rfl, hb⟩; have K28 := Lib.hid (And.intro (K27.out.1.below hb K27.out.1.lt) (And.intro (K27.out.2.1.below hb) (K27.out.2.2.trans (hb.mono K27.out.2.2.size)))); clear hb; have a28 : w28.cell? ⟨w20.heap.size, 0, none⟩ = some (.iface 3 (.int .i64 n9)) := K28.out.1.cell 0) | (go_at_call 11; refine (HKI.out _).mono ?_; rintro e w29 ⟨rfl, hb⟩; have K29 := Lib.hid (And.intro (K28.out.1.below hb K28.out.1.lt) (And.intro (K28.out.2.1.below hb) (K28.out.2.2.trans (hb.mono K28.out.2.2.size)))); clear hb; have a29 : w29.cell? ⟨w20.heap.size, 0, none⟩ = some (.iface 3 (.int .i64 n9)) := K29.out.1.cell 0) | (go_at_call 6; refine (HAW.out _).mono ?_; rintro e w30 ⟨rfl, hb⟩; have HB30 := Lib.hid (K29.out.2.2.trans (hb.mono K29.out.2.2.size)); clear hb))
    go_ret
    exact ⟨rfl, HB30.out⟩
  · have HT : Hid (∀ W, Calls Tryz.prog 12 #[.agg #[.iface 4 (.bool b9)]] W fun e w' => e = .returned (.tuple #[.string ⟨#[]⟩, .bool false]) ∧ Below W.heap.size W w') := Lib.hid (fun W => Text_any (VK.yes b9) W)
    have HC : Hid (∀ W, Calls Tryz.prog 13 #[.agg #[.iface 4 (.bool b9)]] W fun e w' => e = .returned (.tuple #[.int .i64 0, .bool false]) ∧ Below W.heap.size W w') := Lib.hid (fun W => Count_any (VK.yes b9) W)
    have HY : Hid (∀ W, Calls Tryz.prog 14 #[.agg #[.iface 4 (.bool b9)]] W fun e w' => e = .returned (.tuple #[.bool b9, .bool true]) ∧ Below W.heap.size W w') := Lib.hid (fun W => Yes_any (VK.yes b9) W)
    have HCl : Hid (∀ W, VAt W 3 (.iface 4 (.bool b9)) C' A' P' → Calls Tryz.prog 15 #[.agg #[.iface 4 (.bool b9)]] W fun e w' => ∃ u, e = .returned (.tuple #[u, .bool false]) ∧ Below W.heap.size W w') := Lib.hid (fun W hv => (Clauses_any W hv).mono fun e w' hh => by obtain ⟨u, he, _, hb⟩ := hh; exact ⟨u, he, hb⟩)
    have HAt : Hid (∀ W, VAt W 3 (.iface 4 (.bool b9)) C' A' P' → Calls Tryz.prog 16 #[.agg #[.iface 4 (.bool b9)]] W fun e w' => ∃ u, e = .returned (.tuple #[u, .bool false]) ∧ Below W.heap.size W w') := Lib.hid (fun W hv => (Atoms_any W hv).mono fun e w' hh => by obtain ⟨u, he, _, hb⟩ := hh; exact ⟨u, he, hb⟩)
    have HPr : Hid (∀ W, VAt W 3 (.iface 4 (.bool b9)) C' A' P' → Calls Tryz.prog 17 #[.agg #[.iface 4 (.bool b9)]] W fun e w' => ∃ u, e = .returned (.tuple #[u, .bool false]) ∧ Below W.heap.size W w') := Lib.hid (fun W hv => (Provides_any W hv).mono fun e w' hh => by obtain ⟨u, he, _, hb⟩ := hh; exact ⟨u, he, hb⟩)
    have HTR : Hid (∀ W, Blk W w20.heap.size 30 #[.iface 4 (.bool b9)] → Calls Tryz.prog 18 #[.func (Fn.func 19) #[] #[.pointer (some ⟨w20.heap.size, 0, none⟩)]] W fun e w' => ∃ g, e = .returned (.pointer (some ⟨g, 0, none⟩)) ∧ Below W.heap.size W w') := Lib.hid (fun W hv => tryb_no _ (VK.yes b9) (by decide +kernel) W hv)
    have HKI : Hid (∀ W, Calls Tryz.prog 11 #[.agg #[.iface 4 (.bool b9)]] W fun e w' => e = .returned (.string (kindB 3)) ∧ Below W.heap.size W w') := Lib.hid (fun W => Kind_any (VK.yes b9) W)
    have hno : ((kindB 3).toList == [110, 111, 110, 101]) = false := none_list 3 (by decide) (by decide)
    rw [← HKQ.out] at HKI hno
    have K21 : Hid (Blk w21 w20.heap.size 30 #[.iface 4 (.bool b9)] ∧ VAt w21 3 (.iface 4 (.bool b9)) C' A' P' ∧ Below w.heap.size w w21) := K21
    go_upto_region 11 with fail
    rw [← hw21]
    clear hw21
    have a21 : w21.cell? ⟨w20.heap.size, 0, none⟩ = some (.iface 4 (.bool b9)) := K21.out.1.cell 0
    go_wp2_with (first | (go_at_call 12; refine (HT.out _).mono ?_; rintro e w22 ⟨rfl, hb⟩; have K22 := Lib.hid (And.intro (K21.out.1.below hb K21.out.1.lt) (And.intro (K21.out.2.1.below hb) (K21.out.2.2.trans (hb.mono K21.out.2.2.size)))); clear hb; have a22 : w22.cell? ⟨w20.heap.size, 0, none⟩ = some (.iface 4 (.bool b9)) := K22.out.1.cell 0) | (go_at_call 13; refine (HC.out _).mono ?_; rintro e w23 ⟨rfl, hb⟩; have K23 := Lib.hid (And.intro (K22.out.1.below hb K22.out.1.lt) (And.intro (K22.out.2.1.below hb) (K22.out.2.2.trans (hb.mono K22.out.2.2.size)))); clear hb; have a23 : w23.cell? ⟨w20.heap.size, 0, none⟩ = some (.iface 4 (.bool b9)) := K23.out.1.cell 0) | (go_at_call 14; refine (HY.out _).mono ?_; rintro e w24 ⟨rfl, hb⟩; have K24 := Lib.hid (And.intro (K23.out.1.below hb K23.out.1.lt) (And.intro (K23.out.2.1.below hb) (K23.out.2.2.trans (hb.mono K23.out.2.2.size)))); clear hb; have a24 : w24.cell? ⟨w20.heap.size, 0, none⟩ = some (.iface 4 (.bool b9)) := K24.out.1.cell 0) | (go_at_call 15; refine (HCl.out _ K24.out.2.1).mono ?_; rintro e w25 ⟨u1, rfl, hb⟩; have K25 := Lib.hid (And.intro (K24.out.1.below hb K24.out.1.lt) (And.intro (K24.out.2.1.below hb) (K24.out.2.2.trans (hb.mono K24.out.2.2.size)))); clear hb; have a25 : w25.cell? ⟨w20.heap.size, 0, none⟩ = some (.iface 4 (.bool b9)) := K25.out.1.cell 0) | (go_at_call 16; refine (HAt.out _ K25.out.2.1).mono ?_; rintro e w26 ⟨u2, rfl, hb⟩; have K26 := Lib.hid (And.intro (K25.out.1.below hb K25.out.1.lt) (And.intro (K25.out.2.1.below hb) (K25.out.2.2.trans (hb.mono K25.out.2.2.size)))); clear hb; have a26 : w26.cell? ⟨w20.heap.size, 0, none⟩ = some (.iface 4 (.bool b9)) := K26.out.1.cell 0) | (go_at_call 17; refine (HPr.out _ K26.out.2.1).mono ?_; rintro e w27 ⟨u3, rfl, hb⟩; have K27 := Lib.hid (And.intro (K26.out.1.below hb K26.out.1.lt) (And.intro (K26.out.2.1.below hb) (K26.out.2.2.trans (hb.mono K26.out.2.2.size)))); clear hb; have a27 : w27.cell? ⟨w20.heap.size, 0, none⟩ = some (.iface 4 (.bool b9)) := K27.out.1.cell 0) | (go_at_call 18; refine (HTR.out _ K27.out.1).mono ?_; rintro e w28 ⟨g9, rfl, hb⟩; have K28 := Lib.hid (And.intro (K27.out.1.below hb K27.out.1.lt) (And.intro (K27.out.2.1.below hb) (K27.out.2.2.trans (hb.mono K27.out.2.2.size)))); clear hb; have a28 : w28.cell? ⟨w20.heap.size, 0, none⟩ = some (.iface 4 (.bool b9)) := K28.out.1.cell 0) | (go_at_call 11; refine (HKI.out _).mono ?_; rintro e w29 ⟨rfl, hb⟩; have K29 := Lib.hid (And.intro (K28.out.1.below hb K28.out.1.lt) (And.intro (K28.out.2.1.below hb) (K28.out.2.2.trans (hb.mono K28.out.2.2.size)))); clear hb; have a29 : w29.cell? ⟨w20.heap.size, 0, none⟩ = some (.iface 4 (.bool b9)) := K29.out.1.cell 0) | (go_at_call 6; refine (HAW.out _).mono ?_; rintro e w30 ⟨rfl, hb⟩; have HB30 := Lib.hid (K29.out.2.2.trans (hb.mono K29.out.2.2.size)); clear hb))
    go_ret
    exact ⟨rfl, HB30.out⟩
  · have HT : Hid (∀ W, Calls Tryz.prog 12 #[.agg #[.iface 22 (.slice A9 n9 c9)]] W fun e w' => e = .returned (.tuple #[.string ⟨#[]⟩, .bool false]) ∧ Below W.heap.size W w') := Lib.hid (fun W => Text_any (VK.clauses A9 n9 c9) W)
    have HC : Hid (∀ W, Calls Tryz.prog 13 #[.agg #[.iface 22 (.slice A9 n9 c9)]] W fun e w' => e = .returned (.tuple #[.int .i64 0, .bool false]) ∧ Below W.heap.size W w') := Lib.hid (fun W => Count_any (VK.clauses A9 n9 c9) W)
    have HY : Hid (∀ W, Calls Tryz.prog 14 #[.agg #[.iface 22 (.slice A9 n9 c9)]] W fun e w' => e = .returned (.tuple #[.bool false, .bool false]) ∧ Below W.heap.size W w') := Lib.hid (fun W => Yes_any (VK.clauses A9 n9 c9) W)
    have HCl : Hid (∀ W, VAt W 4 (.iface 22 (.slice A9 n9 c9)) C' A' P' → Calls Tryz.prog 15 #[.agg #[.iface 22 (.slice A9 n9 c9)]] W fun e w' => ∃ u, e = .returned (.tuple #[u, .bool true]) ∧ Below W.heap.size W w') := Lib.hid (fun W hv => (Clauses_any W hv).mono fun e w' hh => by obtain ⟨u, he, _, hb⟩ := hh; exact ⟨u, he, hb⟩)
    have HAt : Hid (∀ W, VAt W 4 (.iface 22 (.slice A9 n9 c9)) C' A' P' → Calls Tryz.prog 16 #[.agg #[.iface 22 (.slice A9 n9 c9)]] W fun e w' => ∃ u, e = .returned (.tuple #[u, .bool false]) ∧ Below W.heap.size W w') := Lib.hid (fun W hv => (Atoms_any W hv).mono fun e w' hh => by obtain ⟨u, he, _, hb⟩ := hh; exact ⟨u, he, hb⟩)
    have HPr : Hid (∀ W, VAt W 4 (.iface 22 (.slice A9 n9 c9)) C' A' P' → Calls Tryz.prog 17 #[.agg #[.iface 22 (.slice A9 n9 c9)]] W fun e w' => ∃ u, e = .returned (.tuple #[u, .bool false]) ∧ Below W.heap.size W w') := Lib.hid (fun W hv => (Provides_any W hv).mono fun e w' hh => by obtain ⟨u, he, _, hb⟩ := hh; exact ⟨u, he, hb⟩)
    have HTR : Hid (∀ W, Blk W w20.heap.size 30 #[.iface 22 (.slice A9 n9 c9)] → Calls Tryz.prog 18 #[.func (Fn.func 19) #[] #[.pointer (some ⟨w20.heap.size, 0, none⟩)]] W fun e w' => ∃ g, e = .returned (.pointer (some ⟨g, 0, none⟩)) ∧ Below W.heap.size W w') := Lib.hid (fun W hv => tryb_no _ (VK.clauses A9 n9 c9) (by decide +kernel) W hv)
    have HKI : Hid (∀ W, Calls Tryz.prog 11 #[.agg #[.iface 22 (.slice A9 n9 c9)]] W fun e w' => e = .returned (.string (kindB 4)) ∧ Below W.heap.size W w') := Lib.hid (fun W => Kind_any (VK.clauses A9 n9 c9) W)
    have hno : ((kindB 4).toList == [110, 111, 110, 101]) = false := none_list 4 (by decide) (by decide)
    rw [← HKQ.out] at HKI hno
    have K21 : Hid (Blk w21 w20.heap.size 30 #[.iface 22 (.slice A9 n9 c9)] ∧ VAt w21 4 (.iface 22 (.slice A9 n9 c9)) C' A' P' ∧ Below w.heap.size w w21) := K21
    go_upto_region 11 with fail
    rw [← hw21]
    clear hw21
    have a21 : w21.cell? ⟨w20.heap.size, 0, none⟩ = some (.iface 22 (.slice A9 n9 c9)) := K21.out.1.cell 0
    go_wp2_with (first | (go_at_call 12; refine (HT.out _).mono ?_; rintro e w22 ⟨rfl, hb⟩; have K22 := Lib.hid (And.intro (K21.out.1.below hb K21.out.1.lt) (And.intro (K21.out.2.1.below hb) (K21.out.2.2.trans (hb.mono K21.out.2.2.size)))); clear hb; have a22 : w22.cell? ⟨w20.heap.size, 0, none⟩ = some (.iface 22 (.slice A9 n9 c9)) := K22.out.1.cell 0) | (go_at_call 13; refine (HC.out _).mono ?_; rintro e w23 ⟨rfl, hb⟩; have K23 := Lib.hid (And.intro (K22.out.1.below hb K22.out.1.lt) (And.intro (K22.out.2.1.below hb) (K22.out.2.2.trans (hb.mono K22.out.2.2.size)))); clear hb; have a23 : w23.cell? ⟨w20.heap.size, 0, none⟩ = some (.iface 22 (.slice A9 n9 c9)) := K23.out.1.cell 0) | (go_at_call 14; refine (HY.out _).mono ?_; rintro e w24 ⟨rfl, hb⟩; have K24 := Lib.hid (And.intro (K23.out.1.below hb K23.out.1.lt) (And.intro (K23.out.2.1.below hb) (K23.out.2.2.trans (hb.mono K23.out.2.2.size)))); clear hb; have a24 : w24.cell? ⟨w20.heap.size, 0, none⟩ = some (.iface 22 (.slice A9 n9 c9)) := K24.out.1.cell 0) | (go_at_call 15; refine (HCl.out _ K24.out.2.1).mono ?_; rintro e w25 ⟨u1, rfl, hb⟩; have K25 := Lib.hid (And.intro (K24.out.1.below hb K24.out.1.lt) (And.intro (K24.out.2.1.below hb) (K24.out.2.2.trans (hb.mono K24.out.2.2.size)))); clear hb; have a25 : w25.cell? ⟨w20.heap.size, 0, none⟩ = some (.iface 22 (.slice A9 n9 c9)) := K25.out.1.cell 0) | (go_at_call 16; refine (HAt.out _ K25.out.2.1).mono ?_; rintro e w26 ⟨u2, rfl, hb⟩; have K26 := Lib.hid (And.intro (K25.out.1.below hb K25.out.1.lt) (And.intro (K25.out.2.1.below hb) (K25.out.2.2.trans (hb.mono K25.out.2.2.size)))); clear hb; have a26 : w26.cell? ⟨w20.heap.size, 0, none⟩ = some (.iface 22 (.slice A9 n9 c9)) := K26.out.1.cell 0) | (go_at_call 17; refine (HPr.out _ K26.out.2.1).mono ?_; rintro e w27 ⟨u3, rfl, hb⟩; have K27 := Lib.hid (And.intro (K26.out.1.below hb K26.out.1.lt) (And.intro (K26.out.2.1.below hb) (K26.out.2.2.trans (hb.mono K26.out.2.2.size)))); clear hb; have a27 : w27.cell? ⟨w20.heap.size, 0, none⟩ = some (.iface 22 (.slice A9 n9 c9)) := K27.out.1.cell 0) | (go_at_call 18; refine (HTR.out _ K27.out.1).mono ?_; rintro e w28 ⟨g9, rfl, hb⟩; have K28 := Lib.hid (And.intro (K27.out.1.below hb K27.out.1.lt) (And.intro (K27.out.2.1.below hb) (K27.out.2.2.trans (hb.mono K27.out.2.2.size)))); clear hb; have a28 : w28.cell? ⟨w20.heap.size, 0, none⟩ = some (.iface 22 (.slice A9 n9 c9)) := K28.out.1.cell 0) | (go_at_call 11; refine (HKI.out _).mono ?_; rintro e w29 ⟨rfl, hb⟩; have K29 := Lib.hid (And.intro (K28.out.1.below hb K28.out.1.lt) (And.intro (K28.out.2.1.below hb) (K28.out.2.2.trans (hb.mono K28.out.2.2.size)))); clear hb; have a29 : w29.cell? ⟨w20.heap.size, 0, none⟩ = some (.iface 22 (.slice A9 n9 c9)) := K29.out.1.cell 0) | (go_at_call 6; refine (HAW.out _).mono ?_; rintro e w30 ⟨rfl, hb⟩; have HB30 := Lib.hid (K29.out.2.2.trans (hb.mono K29.out.2.2.size)); clear hb))
    go_ret
    exact ⟨rfl, HB30.out⟩
  · have HT : Hid (∀ W, Calls Tryz.prog 12 #[.agg #[.iface 23 (.slice A9 n9 c9)]] W fun e w' => e = .returned (.tuple #[.string ⟨#[]⟩, .bool false]) ∧ Below W.heap.size W w') := Lib.hid (fun W => Text_any (VK.atoms A9 n9 c9) W)
    have HC : Hid (∀ W, Calls Tryz.prog 13 #[.agg #[.iface 23 (.slice A9 n9 c9)]] W fun e w' => e = .returned (.tuple #[.int .i64 0, .bool false]) ∧ Below W.heap.size W w') := Lib.hid (fun W => Count_any (VK.atoms A9 n9 c9) W)
    have HY : Hid (∀ W, Calls Tryz.prog 14 #[.agg #[.iface 23 (.slice A9 n9 c9)]] W fun e w' => e = .returned (.tuple #[.bool false, .bool false]) ∧ Below W.heap.size W w') := Lib.hid (fun W => Yes_any (VK.atoms A9 n9 c9) W)
    have HCl : Hid (∀ W, VAt W 5 (.iface 23 (.slice A9 n9 c9)) C' A' P' → Calls Tryz.prog 15 #[.agg #[.iface 23 (.slice A9 n9 c9)]] W fun e w' => ∃ u, e = .returned (.tuple #[u, .bool false]) ∧ Below W.heap.size W w') := Lib.hid (fun W hv => (Clauses_any W hv).mono fun e w' hh => by obtain ⟨u, he, _, hb⟩ := hh; exact ⟨u, he, hb⟩)
    have HAt : Hid (∀ W, VAt W 5 (.iface 23 (.slice A9 n9 c9)) C' A' P' → Calls Tryz.prog 16 #[.agg #[.iface 23 (.slice A9 n9 c9)]] W fun e w' => ∃ u, e = .returned (.tuple #[u, .bool true]) ∧ Below W.heap.size W w') := Lib.hid (fun W hv => (Atoms_any W hv).mono fun e w' hh => by obtain ⟨u, he, _, hb⟩ := hh; exact ⟨u, he, hb⟩)
    have HPr : Hid (∀ W, VAt W 5 (.iface 23 (.slice A9 n9 c9)) C' A' P' → Calls Tryz.prog 17 #[.agg #[.iface 23 (.slice A9 n9 c9)]] W fun e w' => ∃ u, e = .returned (.tuple #[u, .bool false]) ∧ Below W.heap.size W w') := Lib.hid (fun W hv => (Provides_any W hv).mono fun e w' hh => by obtain ⟨u, he, _, hb⟩ := hh; exact ⟨u, he, hb⟩)
    have HTR : Hid (∀ W, Blk W w20.heap.size 30 #[.iface 23 (.slice A9 n9 c9)] → Calls Tryz.prog 18 #[.func (Fn.func 19) #[] #[.pointer (some ⟨w20.heap.size, 0, none⟩)]] W fun e w' => ∃ g, e = .returned (.pointer (some ⟨g, 0, none⟩)) ∧ Below W.heap.size W w') := Lib.hid (fun W hv => tryb_no _ (VK.atoms A9 n9 c9) (by decide +kernel) W hv)
    have HKI : Hid (∀ W, Calls Tryz.prog 11 #[.agg #[.iface 23 (.slice A9 n9 c9)]] W fun e w' => e = .returned (.string (kindB 5)) ∧ Below W.heap.size W w') := Lib.hid (fun W => Kind_any (VK.atoms A9 n9 c9) W)
    have hno : ((kindB 5).toList == [110, 111, 110, 101]) = false := none_list 5 (by decide) (by decide)
    rw [← HKQ.out] at HKI hno
    have K21 : Hid (Blk w21 w20.heap.size 30 #[.iface 23 (.slice A9 n9 c9)] ∧ VAt w21 5 (.iface 23 (.slice A9 n9 c9)) C' A' P' ∧ Below w.heap.size w w21) := K21
    go_upto_region 11 with fail
    rw [← hw21]
    clear hw21
    have a21 : w21.cell? ⟨w20.heap.size, 0, none⟩ = some (.iface 23 (.slice A9 n9 c9)) := K21.out.1.cell 0
    go_wp2_with (first | (go_at_call 12; refine (HT.out _).mono ?_; rintro e w22 ⟨rfl, hb⟩; have K22 := Lib.hid (And.intro (K21.out.1.below hb K21.out.1.lt) (And.intro (K21.out.2.1.below hb) (K21.out.2.2.trans (hb.mono K21.out.2.2.size)))); clear hb; have a22 : w22.cell? ⟨w20.heap.size, 0, none⟩ = some (.iface 23 (.slice A9 n9 c9)) := K22.out.1.cell 0) | (go_at_call 13; refine (HC.out _).mono ?_; rintro e w23 ⟨rfl, hb⟩; have K23 := Lib.hid (And.intro (K22.out.1.below hb K22.out.1.lt) (And.intro (K22.out.2.1.below hb) (K22.out.2.2.trans (hb.mono K22.out.2.2.size)))); clear hb; have a23 : w23.cell? ⟨w20.heap.size, 0, none⟩ = some (.iface 23 (.slice A9 n9 c9)) := K23.out.1.cell 0) | (go_at_call 14; refine (HY.out _).mono ?_; rintro e w24 ⟨rfl, hb⟩; have K24 := Lib.hid (And.intro (K23.out.1.below hb K23.out.1.lt) (And.intro (K23.out.2.1.below hb) (K23.out.2.2.trans (hb.mono K23.out.2.2.size)))); clear hb; have a24 : w24.cell? ⟨w20.heap.size, 0, none⟩ = some (.iface 23 (.slice A9 n9 c9)) := K24.out.1.cell 0) | (go_at_call 15; refine (HCl.out _ K24.out.2.1).mono ?_; rintro e w25 ⟨u1, rfl, hb⟩; have K25 := Lib.hid (And.intro (K24.out.1.below hb K24.out.1.lt) (And.intro (K24.out.2.1.below hb) (K24.out.2.2.trans (hb.mono K24.out.2.2.size)))); clear hb; have a25 : w25.cell? ⟨w20.heap.size, 0, none⟩ = some (.iface 23 (.slice A9 n9 c9)) := K25.out.1.cell 0) | (go_at_call 16; refine (HAt.out _ K25.out.2.1).mono ?_; rintro e w26 ⟨u2, rfl, hb⟩; have K26 := Lib.hid (And.intro (K25.out.1.below hb K25.out.1.lt) (And.intro (K25.out.2.1.below hb) (K25.out.2.2.trans (hb.mono K25.out.2.2.size)))); clear hb; have a26 : w26.cell? ⟨w20.heap.size, 0, none⟩ = some (.iface 23 (.slice A9 n9 c9)) := K26.out.1.cell 0) | (go_at_call 17; refine (HPr.out _ K26.out.2.1).mono ?_; rintro e w27 ⟨u3, rfl, hb⟩; have K27 := Lib.hid (And.intro (K26.out.1.below hb K26.out.1.lt) (And.intro (K26.out.2.1.below hb) (K26.out.2.2.trans (hb.mono K26.out.2.2.size)))); clear hb; have a27 : w27.cell? ⟨w20.heap.size, 0, none⟩ = some (.iface 23 (.slice A9 n9 c9)) := K27.out.1.cell 0) | (go_at_call 18; refine (HTR.out _ K27.out.1).mono ?_; rintro e w28 ⟨g9, rfl, hb⟩; have K28 := Lib.hid (And.intro (K27.out.1.below hb K27.out.1.lt) (And.intro (K27.out.2.1.below hb) (K27.out.2.2.trans (hb.mono K27.out.2.2.size)))); clear hb; have a28 : w28.cell? ⟨w20.heap.size, 0, none⟩ = some (.iface 23 (.slice A9 n9 c9)) := K28.out.1.cell 0) | (go_at_call 11; refine (HKI.out _).mono ?_; rintro e w29 ⟨rfl, hb⟩; have K29 := Lib.hid (And.intro (K28.out.1.below hb K28.out.1.lt) (And.intro (K28.out.2.1.below hb) (K28.out.2.2.trans (hb.mono K28.out.2.2.size)))); clear hb; have a29 : w29.cell? ⟨w20.heap.size, 0, none⟩ = some (.iface 23 (.slice A9 n9 c9)) := K29.out.1.cell 0) | (go_at_call 6; refine (HAW.out _).mono ?_; rintro e w30 ⟨rfl, hb⟩; have HB30 := Lib.hid (K29.out.2.2.trans (hb.mono K29.out.2.2.size)); clear hb))
    go_ret
    exact ⟨rfl, HB30.out⟩
  · have HT : Hid (∀ W, Calls Tryz.prog 12 #[.agg #[.iface 24 (.slice A9 n9 c9)]] W fun e w' => e = .returned (.tuple #[.string ⟨#[]⟩, .bool false]) ∧ Below W.heap.size W w') := Lib.hid (fun W => Text_any (VK.provides A9 n9 c9) W)
    have HC : Hid (∀ W, Calls Tryz.prog 13 #[.agg #[.iface 24 (.slice A9 n9 c9)]] W fun e w' => e = .returned (.tuple #[.int .i64 0, .bool false]) ∧ Below W.heap.size W w') := Lib.hid (fun W => Count_any (VK.provides A9 n9 c9) W)
    have HY : Hid (∀ W, Calls Tryz.prog 14 #[.agg #[.iface 24 (.slice A9 n9 c9)]] W fun e w' => e = .returned (.tuple #[.bool false, .bool false]) ∧ Below W.heap.size W w') := Lib.hid (fun W => Yes_any (VK.provides A9 n9 c9) W)
    have HCl : Hid (∀ W, VAt W 6 (.iface 24 (.slice A9 n9 c9)) C' A' P' → Calls Tryz.prog 15 #[.agg #[.iface 24 (.slice A9 n9 c9)]] W fun e w' => ∃ u, e = .returned (.tuple #[u, .bool false]) ∧ Below W.heap.size W w') := Lib.hid (fun W hv => (Clauses_any W hv).mono fun e w' hh => by obtain ⟨u, he, _, hb⟩ := hh; exact ⟨u, he, hb⟩)
    have HAt : Hid (∀ W, VAt W 6 (.iface 24 (.slice A9 n9 c9)) C' A' P' → Calls Tryz.prog 16 #[.agg #[.iface 24 (.slice A9 n9 c9)]] W fun e w' => ∃ u, e = .returned (.tuple #[u, .bool false]) ∧ Below W.heap.size W w') := Lib.hid (fun W hv => (Atoms_any W hv).mono fun e w' hh => by obtain ⟨u, he, _, hb⟩ := hh; exact ⟨u, he, hb⟩)
    have HPr : Hid (∀ W, VAt W 6 (.iface 24 (.slice A9 n9 c9)) C' A' P' → Calls Tryz.prog 17 #[.agg #[.iface 24 (.slice A9 n9 c9)]] W fun e w' => ∃ u, e = .returned (.tuple #[u, .bool true]) ∧ Below W.heap.size W w') := Lib.hid (fun W hv => (Provides_any W hv).mono fun e w' hh => by obtain ⟨u, he, _, hb⟩ := hh; exact ⟨u, he, hb⟩)
    have HTR : Hid (∀ W, Blk W w20.heap.size 30 #[.iface 24 (.slice A9 n9 c9)] → Calls Tryz.prog 18 #[.func (Fn.func 19) #[] #[.pointer (some ⟨w20.heap.size, 0, none⟩)]] W fun e w' => ∃ g, e = .returned (.pointer (some ⟨g, 0, none⟩)) ∧ Below W.heap.size W w') := Lib.hid (fun W hv => tryb_no _ (VK.provides A9 n9 c9) (by decide +kernel) W hv)
    have HKI : Hid (∀ W, Calls Tryz.prog 11 #[.agg #[.iface 24 (.slice A9 n9 c9)]] W fun e w' => e = .returned (.string (kindB 6)) ∧ Below W.heap.size W w') := Lib.hid (fun W => Kind_any (VK.provides A9 n9 c9) W)
    have hno : ((kindB 6).toList == [110, 111, 110, 101]) = false := none_list 6 (by decide) (by decide)
    rw [← HKQ.out] at HKI hno
    have K21 : Hid (Blk w21 w20.heap.size 30 #[.iface 24 (.slice A9 n9 c9)] ∧ VAt w21 6 (.iface 24 (.slice A9 n9 c9)) C' A' P' ∧ Below w.heap.size w w21) := K21
    go_upto_region 11 with fail
    rw [← hw21]
    clear hw21
    have a21 : w21.cell? ⟨w20.heap.size, 0, none⟩ = some (.iface 24 (.slice A9 n9 c9)) := K21.out.1.cell 0
    go_wp2_with (first | (go_at_call 12; refine (HT.out _).mono ?_; rintro e w22 ⟨rfl, hb⟩; have K22 := Lib.hid (And.intro (K21.out.1.below hb K21.out.1.lt) (And.intro (K21.out.2.1.below hb) (K21.out.2.2.trans (hb.mono K21.out.2.2.size)))); clear hb; have a22 : w22.cell? ⟨w20.heap.size, 0, none⟩ = some (.iface 24 (.slice A9 n9 c9)) := K22.out.1.cell 0) | (go_at_call 13; refine (HC.out _).mono ?_; rintro e w23 ⟨rfl, hb⟩; have K23 := Lib.hid (And.intro (K22.out.1.below hb K22.out.1.lt) (And.intro (K22.out.2.1.below hb) (K22.out.2.2.trans (hb.mono K22.out.2.2.size)))); clear hb; have a23 : w23.cell? ⟨w20.heap.size, 0, none⟩ = some (.iface 24 (.slice A9 n9 c9)) := K23.out.1.cell 0) | (go_at_call 14; refine (HY.out _).mono ?_; rintro e w24 ⟨rfl, hb⟩; have K24 := Lib.hid (And.intro (K23.out.1.below hb K23.out.1.lt) (And.intro (K23.out.2.1.below hb) (K23.out.2.2.trans (hb.mono K23.out.2.2.size)))); clear hb; have a24 : w24.cell? ⟨w20.heap.size, 0, none⟩ = some (.iface 24 (.slice A9 n9 c9)) := K24.out.1.cell 0) | (go_at_call 15; refine (HCl.out _ K24.out.2.1).mono ?_; rintro e w25 ⟨u1, rfl, hb⟩; have K25 := Lib.hid (And.intro (K24.out.1.below hb K24.out.1.lt) (And.intro (K24.out.2.1.below hb) (K24.out.2.2.trans (hb.mono K24.out.2.2.size)))); clear hb; have a25 : w25.cell? ⟨w20.heap.size, 0, none⟩ = some (.iface 24 (.slice A9 n9 c9)) := K25.out.1.cell 0) | (go_at_call 16; refine (HAt.out _ K25.out.2.1).mono ?_; rintro e w26 ⟨u2, rfl, hb⟩; have K26 := Lib.hid (And.intro (K25.out.1.below hb K25.out.1.lt) (And.intro (K25.out.2.1.below hb) (K25.out.2.2.trans (hb.mono K25.out.2.2.size)))); clear hb; have a26 : w26.cell? ⟨w20.heap.size, 0, none⟩ = some (.iface 24 (.slice A9 n9 c9)) := K26.out.1.cell 0) | (go_at_call 17; refine (HPr.out _ K26.out.2.1).mono ?_; rintro e w27 ⟨u3, rfl, hb⟩; have K27 := Lib.hid (And.intro (K26.out.1.below hb K26.out.1.lt) (And.intro (K26.out.2.1.below hb) (K26.out.2.2.trans (hb.mono K26.out.2.2.size)))); clear hb; have a27 : w27.cell? ⟨w20.heap.size, 0, none⟩ = some (.iface 24 (.slice A9 n9 c9)) := K27.out.1.cell 0) | (go_at_call 18; refine (HTR.out _ K27.out.1).mono ?_; rintro e w28 ⟨g9, rfl, hb⟩; have K28 := Lib.hid (And.intro (K27.out.1.below hb K27.out.1.lt) (And.intro (K27.out.2.1.below hb) (K27.out.2.2.trans (hb.mono K27.out.2.2.size)))); clear hb; have a28 : w28.cell? ⟨w20.heap.size, 0, none⟩ = some (.iface 24 (.slice A9 n9 c9)) := K28.out.1.cell 0) | (go_at_call 11; refine (HKI.out _).mono ?_; rintro e w29 ⟨rfl, hb⟩; have K29 := Lib.hid (And.intro (K28.out.1.below hb K28.out.1.lt) (And.intro (K28.out.2.1.below hb) (K28.out.2.2.trans (hb.mono K28.out.2.2.size)))); clear hb; have a29 : w29.cell? ⟨w20.heap.size, 0, none⟩ = some (.iface 24 (.slice A9 n9 c9)) := K29.out.1.cell 0) | (go_at_call 6; refine (HAW.out _).mono ?_; rintro e w30 ⟨rfl, hb⟩; have HB30 := Lib.hid (K29.out.2.2.trans (hb.mono K29.out.2.2.size)); clear hb))
    go_ret
    exact ⟨rfl, HB30.out⟩
theorem back_law (nm s : ByteArray) (k : Int) (s0 : ByteArray) (n0 : Int) (b0 : Bool) (Ac Aa Ap : Option Addr) (nc cc na ca np cp : Nat) (C0 : List (List RA)) (A0 : List RA) (P0 : List RP) (w : World) (hc : ClsAt w (.slice Ac nc cc) C0) (ha : AtsAt w (.slice Aa na ca) A0) (hp : PrsAt w (.slice Ap np cp) P0) (hn : nm.size ≤ 1048576) (hs : s.size ≤ 1048576) (hl : lightV C0 A0 P0 = true) (hT : Tab w) :
    Calls Tryz.prog 4 #[.string nm, .string s, .agg #[.int .i64 k, .string s0, .int .i64 n0, .bool b0, .slice Ac nc cc, .slice Aa na ca, .slice Ap np cp]] w fun e w' => e = .returned (.bool true) ∧ Below w.heap.size w w' := by
  obtain ⟨q, t, n, b, C, A, P, E, hq, h1, h2⟩ := back_any nm s hn hs
  by_cases hE : E = 0
  · subst hE
    obtain ⟨X, hX, hW⟩ := h2 rfl
    have hr : ∀ (s : ByteArray), RdZ nm s q t n b C A P 0 → ∀ W, Below w.heap.size w W → Calls Tryz.prog 10 #[.string nm, .string s] W fun e w' => (∃ tx ux, e = .returned (.tuple #[.agg #[.iface tx ux], .int .i64 0]) ∧ Hid (VK q (.iface tx ux) ∧ ∀ W', Below w'.heap.size w' W' → Wr (.iface tx ux) X true W')) ∧ Below W.heap.size W w' := fun s h W hbW => (h W).mono fun e w' ⟨x, he, hx, _, hb⟩ => by
      have hx := hx rfl
      rcases hx.1.kind.shape with h0 | ⟨tx, ux, h0⟩
      · subst h0
        have h9 := hx.1.kind
        cases h9
        exact absurd rfl hq
      · subst h0
        exact ⟨⟨tx, ux, he, Lib.hid ⟨hx.1.kind, fun W' hb' => hW _ w' W' hx.1 hx.2.1 hx.2.2.1 hx.2.2.2 hb' (hT.below ((hbW.trans (hb.mono hbW.size)).trans (hb'.mono (hbW.trans (hb.mono hbW.size)).size)))⟩⟩, hb⟩
    exact back_good nm s k s0 n0 b0 Ac Aa Ap nc cc na ca np cp C0 A0 P0 w hc ha hp hl q hq X (hr s h1) (hr X hX)
  · exact back_bad nm s k s0 n0 b0 Ac Aa Ap nc cc na ca np cp C0 A0 P0 w hc ha hp hl E hE (fun W => (h1 W).mono fun e w' ⟨x, he, _, hx, hb⟩ => ⟨by rw [he, hx hE], hb⟩)
end Go.Proofs.YtjkaigfpjebfbaaGreatDoor
