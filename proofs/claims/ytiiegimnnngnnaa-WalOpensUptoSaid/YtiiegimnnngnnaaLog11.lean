/- wal on a disk with power: Format, Open, Append; the record that every program must know. -/
import Derived.Test.YtiiegimnnngnnaaLog10
import Derived.Test.YtiiegimnnngnnaaWl4
import Derived.Lib.SlBytesConst
namespace Go.Proofs.Ytiiegimnnngnnaa
open Go.RowKit
set_option linter.unusedVariables false

theorem Format_good (p r s cr cs : Nat) (D : Dk) (fr to : Nat) (w : World) (h : DiskAt w p r s cr cs D) (hd : D.down = false) (hf : D.fuse = 0) (h1 : fr < to) (h2 : to ≤ D.n) (hc : D.calls + 1 < 4611686018427387904) :
    Calls Try.prog 48 #[.pointer (some ⟨p, 0, none⟩), .int .i64 (fr : Int), .int .i64 (to : Int)] w fun e w' =>
      ∃ D', e = .returned (.int .i64 0) ∧ DiskAt w' p r s cr cs D' ∧ Upd (dT p r s) w w' ∧ Wl.Area D' fr to (fr + 1) [] ∧ D'.n = D.n ∧ D'.fuse = 0 ∧ D'.calls = D.calls + 2 ∧ (∀ j, D'.R j = if 64 * fr ≤ j ∧ j < 64 * fr + 64 then 0 else D.R j) ∧ D'.S = D'.R := by
  obtain ⟨D', e, hr⟩ := Wl.fmt hd hf h1 h2
  have := Format_any p r s cr cs D fr to w h h1 h2 hc
  rw [e] at this
  refine this.mono ?_
  rintro e w' ⟨rfl, hd', hu⟩
  exact ⟨D', rfl, hd', hu, hr⟩
theorem Open_area (p r s cr cs : Nat) (D : Dk) (fr to nx : Nat) (rs : List (List Nat)) (w : World) (h : DiskAt w p r s cr cs D) (ha : Wl.Area D fr to nx rs) :
    Calls Try.prog 49 #[.pointer (some ⟨p, 0, none⟩), .int .i64 (fr : Int), .int .i64 (to : Int)] w fun e w' =>
      ∃ l g cap v, e = .returned (.tuple #[.pointer (some ⟨l, 0, none⟩), v, .int .i64 0]) ∧ LogAt w' l g cap p ⟨fr, to, rs.length, nx, fun k => D.R (64 * fr + k), false⟩ ∧ RowsAt w' v rs ∧ w.heap.size ≤ l ∧ w.heap.size ≤ g ∧ Below w.heap.size w w' := by
  have := Open_any p r s cr cs D fr to w h ha.up ha.lt ha.fit
  rw [ha.opens] at this
  refine this.mono ?_
  rintro e w' ⟨hb, l, g, cap, v, rfl, h1, h2, h3, h4⟩
  exact ⟨l, g, cap, v, rfl, h1, h4.1, h2, h3, hb⟩
theorem Open_from (p r s cr cs : Nat) (D : Dk) (fr to nx : Nat) (rs : List (List Nat)) (w : World) (h : DiskAt w p r s cr cs D) (ha : Wl.Area D fr to nx rs) :
    Calls Try.prog 49 #[.pointer (some ⟨p, 0, none⟩), .int .i64 (fr : Int), .int .i64 (to : Int)] w fun e w' =>
      ∃ v u, e = .returned (.tuple #[u, v, .int .i64 0]) ∧ RowsFrom w' w.heap.size v rs ∧ Below w.heap.size w w' := by
  have := Open_any p r s cr cs D fr to w h ha.up ha.lt ha.fit
  rw [ha.opens] at this
  refine this.mono ?_
  rintro e w' ⟨hb, l, g, cap, v, rfl, h1, h2, h3, h4⟩
  exact ⟨v, _, rfl, h4, hb⟩
/-- A log that is open on a disk. -/
structure Sys (w : World) (p r s cr cs l g cap : Nat) (D : Dk) (L : Wl.Lg) : Prop where
  d : DiskAt w p r s cr cs D
  lg : LogAt w l g cap p L
  lT : ¬ dT p r s l
  gT : ¬ dT p r s g
theorem Sys.upd {T : Nat → Prop} {w w' : World} {p r s cr cs l g cap : Nat} {D : Dk} {L : Wl.Lg} (h : Sys w p r s cr cs l g cap D L) (hu : Upd T w w') (hT : ∀ k, T k → k ≠ p ∧ k ≠ r ∧ k ≠ s ∧ k ≠ l ∧ k ≠ g) : Sys w' p r s cr cs l g cap D L :=
  ⟨h.d.upd hu (fun e => (hT _ e).1 rfl) (fun e => (hT _ e).2.1 rfl) (fun e => (hT _ e).2.2.1 rfl), h.lg.upd hu (fun e => (hT _ e).2.2.2.1 rfl) (fun e => (hT _ e).2.2.2.2 rfl), h.lT, h.gT⟩
theorem Sys.below {w w' : World} {p r s cr cs l g cap : Nat} {D : Dk} {L : Wl.Lg} (h : Sys w p r s cr cs l g cap D L) (hb : Below w.heap.size w w') : Sys w' p r s cr cs l g cap D L := by
  have h1 := h.d.lt
  have h2 := h.lg.blk.lt
  have h3 := h.lg.marks.lt
  refine h.upd (Upd.of_below hb (fun _ _ h => h)) fun k hk => ?_
  omega
theorem Append_good (l g cap p r s cr cs : Nat) (D : Dk) (L : Wl.Lg) (rs : List (List Nat)) (A : Option Addr) (n c : Nat) (b : List Nat) (w : World) (h : Sys w p r s cr cs l g cap D L) (hh : Wl.Holds D L rs) (hf : D.fuse = 0)
    (hb : Bytes w A n b) (hn : n ≤ 4294967296) (hc : D.calls + 200 < 4611686018427387904) :
    Calls Try.prog 50 #[.pointer (some ⟨l, 0, none⟩), .slice A n c] w fun e w' =>
      ∃ D' L', e = .returned (.int .i64 (Wl.appOut L b)) ∧ Sys w' p r s cr cs l g cap D' L' ∧ Upd (aT p r s g l) w w' ∧ D'.n = D.n ∧ D'.fuse = 0 ∧ L'.fr = L.fr ∧ L'.to = L.to ∧ D'.calls ≤ D.calls + 200 ∧ (∀ j, ¬ (64 * L.fr ≤ j ∧ j < 64 * L.to) → D'.R j = D.R j ∧ (D'.S j = D.S j ∨ D'.S j = D.R j)) ∧
        (Wl.appOut L b ≠ 0 → D' = D ∧ L' = L) ∧ (Wl.appOut L b = 0 → Wl.Done D L rs b D' L') := by
  obtain ⟨D', L', e, hr⟩ := Wl.append_good (b := b) hh hf
  have hn4 := h.d.ok.n
  have h1 := hh.area.few
  have h2 := hh.area.nx
  have h3 := hh.area.fit
  have h4 := hh.area.lt
  have h5 := hh.n
  have := Append_any l g cap p r s cr cs D L A n c b w h.lg h.d h.lT h.gT hb hn hc (by omega) h2 (by omega) (by omega)
  rw [e] at this
  refine this.mono ?_
  rintro e w' ⟨rfl, hd', hl', hu⟩
  exact ⟨D', L', rfl, ⟨hd', hl', h.lT, h.gT⟩, hu, hr⟩
theorem opened {w w' : World} {p r s cr cs l g cap : Nat} {D : Dk} {L : Wl.Lg} (hd : DiskAt w p r s cr cs D) (hb : Below w.heap.size w w') (hl : LogAt w' l g cap p L) (h1 : w.heap.size ≤ l) (h2 : w.heap.size ≤ g) : Sys w' p r s cr cs l g cap D L := by
  have h3 := hd.lt
  refine ⟨hd.below hb, hl, ?_, ?_⟩ <;> · unfold dT; omega
set_option maxRecDepth 100000 in
set_option maxHeartbeats 1000000 in
theorem awake3_any (w : World) : Calls Try.prog 47 #[] w fun e w' => e = .returned (.bool true) ∧ Below w.heap.size w w' := by
  have HN := Lib.hid (New_any 6 6 (by decide) (by decide) (by decide) w)
  have kc := fun (w : World) (C : Array Value) (n c : Nat) => Lib.run_convert_bytes_const (P := Try.prog) w 22 5 C n c Try.underlying22 Try.underlying5
  go_enter Try.func47, Try.ntmps47
  go_wp2_with fail
  go_at_call 30
  refine HN.out.mono ?_
  rintro e w1 ⟨p, r, s, rfl, hd1, hb1, hp, hr, hs⟩
  have HB1 := Lib.hid hb1
  have HF := Lib.hid (Format_good p r s 6 6 (Dk.new 6) 1 6 w1 hd1 rfl rfl (by omega) (by simp [Dk.new]) (by simp [Dk.new]))
  have HP := Lib.hid (show w.heap.size ≤ p ∧ w.heap.size ≤ r ∧ w.heap.size ≤ s from ⟨hp, hr, hs⟩)
  clear hb1 hd1 hp hr hs
  go_wp2_with fail
  go_at_call 48
  refine HF.out.mono ?_
  rintro e w2 ⟨D2, rfl, hd2, hu2, ha2, hn2, hf2, hc2, _, _⟩
  have HB2 := Lib.hid (HB1.out.trans (hu2.below (fun k hk => by rcases hk with rfl | rfl | rfl <;> have := HP.out <;> omega) HB1.out.size))
  have HO := Lib.hid (Open_area p r s 6 6 D2 1 6 2 [] w2 hd2 ha2)
  have HD2 := Lib.hid hd2
  have HA2 := Lib.hid ha2
  have HC2 := Lib.hid (And.intro hf2 hc2)
  clear hd2 hu2 ha2 hn2 hf2 hc2
  go_wp2_with fail
  go_at_call 49
  refine HO.out.mono ?_
  rintro e w3 ⟨l, g, cap, v, rfl, hl3, hr3, h1, h2, hb3⟩
  have HS3 := Lib.hid (opened HD2.out hb3 hl3 h1 h2)
  have HB3 := Lib.hid (HB2.out.trans (hb3.mono HB2.out.size))
  have HLG := Lib.hid (show w.heap.size ≤ l ∧ w.heap.size ≤ g from ⟨Nat.le_trans HB2.out.size h1, Nat.le_trans HB2.out.size h2⟩)
  obtain ⟨A, c, rfl, _⟩ := hr3
  rw [show ([] : List (List Nat)).length = 0 from rfl] at HS3
  clear hl3 h1 h2 hb3
  have hbc := Bytes.of_new w3 #[.int .u8 97] 5 (1, 2) 1 [97] rfl (by decide) rfl
  have hW : Below w3.heap.size w3 (w3.alloc (.cells #[.int .u8 97] 5 (1, 2))) := (Below.refl _ _).alloc (Nat.le_refl _) _
  have hap := Append_good l g cap p r s 6 6 D2 ⟨1, 6, 0, 2, fun k => D2.R (64 * 1 + k), false⟩ [] (some ⟨w3.heap.size, 0, none⟩) 1 1 [97] _ (HS3.out.below hW) HA2.out.holds HC2.out.1 hbc (by omega) (by rw [HC2.out.2]; simp [Dk.new])
  have eo : Wl.appOut ⟨1, 6, 0, 2, fun k => D2.R (64 * 1 + k), false⟩ [97] = 0 := by
    unfold Wl.appOut
    rw [if_neg (by simp), if_neg (by simp [Wl.need])]
  rw [eo] at hap
  have HAP := Lib.hid hap
  have HW := Lib.hid hW
  clear hbc hap hW eo
  go_wp2_with fail
  go_at_call 50
  refine HAP.out.mono ?_
  rintro e w4 ⟨D4, L4, rfl, hs4, hu4, hn4, hf4, hfr4, hto4, _, _, _, hdn4⟩
  have hdone := hdn4 trivial
  have ha4 := hdone.holds.area
  rw [hfr4, hto4] at ha4
  have HB4 : Hid (Below w.heap.size w w4) := Lib.hid ((HB3.out.trans (HW.out.mono HB3.out.size)).trans (hu4.below (fun k hk => by
    have h5 := HP.out
    have h6 := HLG.out
    rcases hk with (hk | hk) | hk
    · rcases hk with rfl | rfl | rfl <;> omega
    · omega
    · omega) (Nat.le_trans HB3.out.size HW.out.size)))
  have HO4 := Lib.hid (Open_area p r s 6 6 D4 1 6 L4.next _ w4 hs4.d ha4)
  clear hs4 hu4 hn4 hf4 hfr4 hto4 hdn4 hdone ha4
  go_wp2_with fail
  go_at_call 49
  refine HO4.out.mono ?_
  rintro e w5 ⟨l5, g5, cap5, v5, rfl, hl5, hr5, h1, h2, hb5⟩
  have HB5 := Lib.hid (HB4.out.trans (hb5.mono HB4.out.size))
  obtain ⟨A5, c5, rfl, _, _, hc5⟩ := hr5
  obtain ⟨g6, o6, A6, c6, rfl, k6, _, _, hy6⟩ := hc5 0 (by decide)
  have k6' : w5.cell? ⟨g6, o6, none⟩ = some (.slice A6 1 c6) := k6
  have hcv : (convert 22 9 (.slice A6 1 c6)).run Try.prog w5 = .ok (.string ⟨#[97]⟩) w5 := hy6.to_string 22 9 5 c6 Try.underlying22 Try.underlying5 Try.underlying9
  rw [show ([] ++ [[97]] : List (List Nat)).length = 1 from rfl]
  have N56 := Lib.hid (Need_int 56 w5 (by decide) (by decide))
  have N57 := Lib.hid (Need_int 57 w5 (by decide) (by decide))
  have e56 : needI 56 = 1 := by decide
  have e57 : needI 57 = 2 := by decide
  rw [e56] at N56
  rw [e57] at N57
  clear hl5 h1 h2 hb5 k6 hc5 hy6 e56 e57 kc
  go_wp2_with (first
    | (go_at_call_of 45 (Value.int .i64 56); refine N56.out.mono ?_; rintro e w6 ⟨rfl, rfl⟩)
    | (go_at_call_of 45 (Value.int .i64 57); refine N57.out.mono ?_; rintro e w7 ⟨rfl, rfl⟩))
  go_ret
  exact ⟨rfl, HB5.out⟩
end Go.Proofs.Ytiiegimnnngnnaa
