/- DiskPlays: the walk. -/
import Derived.Test.YtiiegimnnngnnaaDo3
import Derived.Deep.DrawnRows
namespace Go.Proofs.Ytiiegimnnngnnaa
open Go.RowKit Go.Sort
set_option linter.unusedVariables false

theorem own_at {w : World} {base n c g : Nat} {e : TypeId} {A : Option Addr} {xs : List Value} (h : w.ownsRow base e 1 (.slice A n c) n xs) (hA : A = some ⟨g, 0, none⟩) : base ≤ g ∧ ∃ C, Blk w g e C := by
  subst hA
  rcases h.2 with ⟨h0, _⟩ | ⟨g', cap, cur, hv, hg, hh, _⟩
  · cases h0
  · cases hv
    exact ⟨hg, cur, hh⟩
/-- Two new disks are in one state. -/
theorem Two.start {w w1 w2 : World} {p r s m n : Nat} {A B : Option Addr} {cA cB : Nat} {xs ys : List Value} (hn : n ≤ 4096) (hd : DiskAt w1 p r s n n (Dk.new n)) (hb : Below w.heap.size w w1) (hp : w.heap.size ≤ p) (hr : w.heap.size ≤ r) (hs : w.heap.size ≤ s)
    (h : RN w1 w2 m n n A B cA cB xs ys) : Two (bT p r s m A B) w2 p r s n n m A B cA cB (Dk.new n) ∧ Below w.heap.size w w2 ∧ ∀ k, bT p r s m A B k → w.heap.size ≤ k := by
  have hl := hd.lt
  have hd2 := hd.below h.bel
  have hrt : ∀ k, rT m A B k → w1.heap.size ≤ k := by
    rintro k (rfl | e | e)
    · exact h.mem
    · exact (own_at h.own1 e).1
    · exact (own_at h.own2 e).1
  have hbs := hb.size
  have hbl := h.bel.size
  have hlt : ∀ k, bT p r s m A B k → k < w2.heap.size := by
    rintro k ((rfl | rfl | rfl) | (rfl | e | e))
    · exact hd2.lt.1
    · exact hd2.lt.2.1
    · exact hd2.lt.2.2
    · exact h.blk.lt
    · obtain ⟨C, hC⟩ := (own_at h.own1 e).2; exact hC.lt
    · obtain ⟨C, hC⟩ := (own_at h.own2 e).2; exact hC.lt
  have hN : ∀ g C, w1.heap.size ≤ g → Blk w2 g 5 C → ¬ bT p r s m A B g := by
    rintro g C hg hC ((rfl | rfl | rfl) | (rfl | e | e))
    · omega
    · omega
    · omega
    · exact hC.ne_ h.blk (by decide) rfl
    · obtain ⟨C', hC'⟩ := (own_at h.own1 e).2
      exact hC.ne_ hC' (by decide) rfl
    · obtain ⟨C', hC'⟩ := (own_at h.own2 e).2
      exact hC.ne_ hC' (by decide) rfl
  refine ⟨⟨hd2, h.ref hn _ (fun k hk => .inr hk) hN, fun k hk => .inl hk, fun k hk => .inr hk, ?_, hlt⟩, hb.trans (h.bel.mono hbs), ?_⟩
  · intro k hk hk2
    have := hrt k hk
    rcases hk2 with rfl | rfl | rfl <;> omega
  · rintro k ((rfl | rfl | rfl) | hk)
    · exact hp
    · exact hr
    · exact hs
    · have := hrt k hk; omega
attribute [local go_sem ↓] Go.wp_at_zero Go.wp_at_succ
set_option maxRecDepth 100000 in
set_option maxHeartbeats 8000000 in
theorem diskPlays_any (x : Int) (A0 : Option Addr) (l cp : Nat) (cs : List CallD) (w : World) (hlo : -9223372036854775808 ≤ x) (hhi : x ≤ 9223372036854775807) (hc : CallsAt w A0 l cs) (hl : l ≤ maxLen) :
    Calls Try.prog 11 #[.int .i64 x, .slice A0 l cp] w fun e w' => e = .returned (.bool true) ∧ Below w.heap.size w w' := by
  have HC := Lib.hid hc
  clear hc
  unfold maxLen at hl
  obtain ⟨y, n, hy, hn, hy1, hy2, hcase⟩ : ∃ (y : Int) (n : Nat), y = min x 12 ∧ (n : Int) = max 0 (min y 4096) ∧ -9223372036854775808 ≤ y ∧ y ≤ 12 ∧ ((x ≤ 12 ∧ y = x) ∨ (12 < x ∧ y = 12)) := ⟨min x 12, (max 0 (min (min x 12) 4096)).toNat, rfl, by omega, by omega, by omega, by omega⟩
  have hnew := fun W => New_any y n hn hy1 (by omega) W
  have hrnew := fun W => RefNew_any y n hn hy1 (by omega) W
  have hn4 : n ≤ 4096 := by omega
  have HNew := Lib.hid hnew
  have HRNew := Lib.hid hrnew
  have HN4 := Lib.hid hn4
  clear hnew hrnew hy hn hn4
  rcases hcase with ⟨h1, rfl⟩ | ⟨h1, rfl⟩
  all_goals
    go_enter Try.func11, Try.ntmps11
    go_wp2_with (first
      | (go_at_call 30; refine (HNew.out _).mono ?_; rintro e w1 ⟨p, r, s, rfl, hd1, hb1, hp, hr, hs⟩; have HD1 := Lib.hid hd1; have HB1 := Lib.hid hb1; clear hd1 hb1)
      | (go_at_call 41; refine (HRNew.out _).mono ?_; rintro e w2 ⟨m, A, B, cA, cB, xs, ys, rfl, hrn⟩; have HTw := Lib.hid (Two.start HN4.out HD1.out HB1.out hp hr hs hrn); clear hrn))
    have HBlk : Hid (Below w.heap.size w w2) := Lib.hid HTw.out.2.1
    have HGe : Hid (∀ k, bT p r s m A B k → w.heap.size ≤ k) := Lib.hid HTw.out.2.2
    have HT0 : Hid (Two (bT p r s m A B) w2 p r s n n m A B cA cB (Dk.new n)) := Lib.hid HTw.out.1
    clear HTw HD1 HB1
    go_loopw [7] (fun v wr => ∃ (i : Nat) (D : Dk), i ≤ l ∧ i ≤ 60 ∧ v = .int .i64 i ∧ D.calls ≤ i ∧ Two (bT p r s m A B) wr p r s n n m A B cA cB D ∧ Below w.heap.size w wr) (fun v _ => 60 - (intOf v).toNat)
    case atStart => exact ⟨0, _, by omega, by omega, rfl, Nat.le_refl _, HT0.out, HBlk.out⟩
    case round =>
      obtain ⟨i, D, hil, hi60, rfl, hcl, htw, hbel⟩ := hrel
      have HTw := Lib.hid htw
      have HBel := Lib.hid hbel
      clear htw hbel HT0 HBlk
      have fin : ∀ W : World, Below w.heap.size w W → Two (bT p r s m A B) W p r s n n m A B cA cB D → True := fun _ _ _ => trivial
      by_cases hlt : i < l ∧ i < 60
      · obtain ⟨hlt, hlt6⟩ := hlt
        clear fin
        obtain ⟨c, b, o, hck, hok, rfl, hb, c0, c1, c2, c3, c4⟩ := HC.out.at_ hlt
        have H5 : Hid (five w b (o + i * 5) _ _ _ _ _) := Lib.hid ⟨c0, c1, c2, c3, c4⟩
        have hcalls : (D.step c).calls ≤ i + 1 := Nat.le_trans (D.step_calls c) (by omega)
        have hdo := fun (W : World) (hW : Two (bT p r s m A B) W p r s n n m A B cA cB D) (hbW : Below w.heap.size w W) => do_any (bT p r s m A B) W p r s n n m A B cA cB D c hW (by omega) (hok.below (hbW.mono (Nat.le_refl _))) (fun g o' e h0 hk => by
          obtain ⟨g', o'', e2, hl2, _⟩ := hok.bytes.2.2 h0
          rw [e] at e2
          cases e2
          have := HGe.out _ hk
          omega)
        generalize D.step c = D' at hdo hcalls
        have HDo := Lib.hid hdo
        clear hdo hok hck c0 c1 c2 c3 c4
        obtain ⟨c0, c1, c2, c3, c4⟩ := five_below H5.out hb HBel.out
        have HBd : Hid (Below w.heap.size w wr.drew) := Lib.hid HBel.out.drew
        clear H5
        go_wp2_with fail
        go_region_with (first
          | (go_at_call 42
             refine (HDo.out _ HTw.out.drew HBd.out).mono ?_
             rintro e w4 ⟨rfl, ht4, hu4⟩
             have hb4 := ht4.ref.blk
             unfold refCells at hb4
             have k2 : w4.cell? ⟨m, 2, none⟩ = some (.int .i64 (D'.calls : Int)) := hb4.cell 2
             have k4 : w4.cell? ⟨m, 4, none⟩ = some (.bool D'.down) := hb4.cell 4
             have HT4 := Lib.hid ht4
             have HB4 : Hid (Below w.heap.size w w4) := Lib.hid (HBd.out.trans (hu4.below HGe.out HBd.out.size))
             clear ht4 hu4 hb4)
          | (go_at_call 39; refine (Calls_any p r s n n D' _ HT4.out.d).mono ?_; rintro e w5 ⟨rfl, rfl⟩)
          | (go_at_call 40; refine (Down_any p r s n n D' _ HT4.out.d).mono ?_; rintro e w5 ⟨rfl, rfl⟩))
        all_goals
          go_wp2_with fail
          go_roundw
          case rel => exact ⟨i + 1, D', by omega, by omega, by go_num, hcalls, HT4.out, HB4.out⟩
          case measure => simp [intOf]; omega
      · clear fin
        by_cases hlt1 : i < l
        · have hlt6 : ¬ i < 60 := fun h => hlt ⟨hlt1, h⟩
          clear hlt
          go_wp2_with (first
            | (go_at_call 43; refine (like_any _ _ p r s n n m A B cA cB D HTw.out).mono ?_; rintro e w6 ⟨rfl, hb6⟩; have hB6 : Below w.heap.size w w6 := HBel.out.trans (hb6.mono HBel.out.size); clear hb6)
            | (go_at_call 33; refine (awake2_any _).mono ?_; rintro e w7 ⟨rfl, hb7⟩; have hB7 : Below w.heap.size w w7 := hB6.trans (hb7.mono hB6.size)))
          go_ret
          exact ⟨rfl, hB7⟩
        · clear hlt
          go_wp2_with (first
            | (go_at_call 43; refine (like_any _ _ p r s n n m A B cA cB D HTw.out).mono ?_; rintro e w6 ⟨rfl, hb6⟩; have hB6 : Below w.heap.size w w6 := HBel.out.trans (hb6.mono HBel.out.size); clear hb6)
            | (go_at_call 33; refine (awake2_any _).mono ?_; rintro e w7 ⟨rfl, hb7⟩; have hB7 : Below w.heap.size w w7 := hB6.trans (hb7.mono hB6.size)))
          go_ret
          exact ⟨rfl, hB7⟩
section
open Go.ChangeShapes Go.WideShapes Go.ChangeAt
theorem diskPlays_walk {H : Type} {enc : TypeId × Value → H} (W : World) {base : Nat} (v0 v1 : Value) {d0 d1 : DataW H} {p0 p1 : List MemPlace} (h0 : DataW.Trod enc Try.prog W 0 (fun _ => true) true 3 v0 d0 p0) (o0 : Value.okWide Try.prog W .any base 3 v0)
    (h1 : DataW.Trod enc Try.prog W 0 (fun _ => true) true 43 v1 d1 p1) (o1 : Value.okWide Try.prog W .any base 43 v1) :
    Calls Try.prog 11 #[v0, v1] W fun e w' => e = .returned (.bool true) ∧ Below W.heap.size W w' := by
  obtain ⟨x, rfl, rfl, rfl, wx⟩ := open_int Try.underlying3 o0 h0
  have hx : -9223372036854775808 ≤ x ∧ x ≤ 9223372036854775807 := by simpa [Lit.wf, IntKind.min, IntKind.max, IntKind.signed, IntKind.bits] using wx
  obtain ⟨A, n, cp, cs, rfl, hc, hn⟩ := open_calls h1 o1
  exact diskPlays_any x A n cp cs W hx.1 hx.2 hc hn
end
end Go.Proofs.Ytiiegimnnngnnaa
