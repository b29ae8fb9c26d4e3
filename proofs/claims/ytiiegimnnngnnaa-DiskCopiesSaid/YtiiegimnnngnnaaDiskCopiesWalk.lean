/- DiskCopies: the walk. -/
import Derived.Test.YtiiegimnnngnnaaCopy
import Derived.Test.YtiiegimnnngnnaaDiskPlaysWalk
namespace Go.Proofs.Ytiiegimnnngnnaa
open Go.RowKit Go.Sort
set_option linter.unusedVariables false

theorem grown_below {w3 W w' : World} (h : Below w3.heap.size w3 W) (hg : W.grownBy w' (Value.slice none 0 0).ownBlock) : Below w3.heap.size w3 w' := h.grown hg h.size (fun k hk => by cases hk)
section
variable {w wx : World} {T T2 : Nat → Prop} {m m' n : Nat} {A B A' B' : Option Addr} {cA cB cA' cB' : Nat} {D : Dk}
theorem RowVal.widen {v : Value} {bs : List Nat} (h : RowVal w T v bs) (h2 : ∀ k, T2 k → T k ∨ w.heap.size ≤ k) : RowVal w T2 v bs := by
  obtain ⟨g, o, c, rfl, hc, hc2, hb, hg⟩ := h
  refine ⟨g, o, c, rfl, hc, hc2, hb, fun hk => ?_⟩
  obtain ⟨_, _, e, hl, _⟩ := hb.2.2 (by omega)
  cases e
  rcases h2 g hk with h3 | h3
  · exact hg h3
  · omega
theorem TabAt.widen {f : Nat → List Nat} (h : TabAt w T A n f) (h1 : ∀ k, T k → T2 k) (h2 : ∀ k, T2 k → T k ∨ w.heap.size ≤ k) : TabAt w T2 A n f := by
  intro hn
  obtain ⟨r, C, e, hb, hs, ht, hi⟩ := h hn
  refine ⟨r, C, e, hb, hs, h1 _ ht, fun i him => ?_⟩
  obtain ⟨v, hv, hr⟩ := hi i him
  exact ⟨v, hv, hr.widen h2⟩
theorem RefAt.widen (h : RefAt w T m A B cA cB D) (h1 : ∀ k, T k → T2 k) (h2 : ∀ k, T2 k → T k ∨ w.heap.size ≤ k) : RefAt w T2 m A B cA cB D :=
  ⟨h.blk, h1 _ h.tm, h.now.widen h1 h2, h.sure.widen h1 h2, h.ne, h.cA, h.cB, h.ok⟩
/-- A copy of a slice of rows. -/
theorem TabAt.copy {f : Nat → List Nat} {r base c : Nat} {Cn : Array Value} (h : TabAt w T (some ⟨r, 0, none⟩) n f) (hC : Blk w r 22 Cn) (hb : Below w.heap.size w wx) (ho : wx.ownsRow base 22 1 (.slice A' n c) n (Cn.toList.take n)) (hT : ∀ g, A' = some ⟨g, 0, none⟩ → T g) : TabAt wx T A' n f := by
  intro hn
  obtain ⟨r', C, e, hbk, hs, ht, hi⟩ := h hn
  cases e
  have hCC : C = Cn := by
    have := hbk.symm.trans hC
    injection this with this
    injection this
  subst hCC
  rcases ho.2 with ⟨_, h0⟩ | ⟨g, cap, cur, hv, hg, hh, hnc, hcm, hsz, htk⟩
  · omega
  · cases hv
    have hu : Upd (fun k => w.heap.size ≤ k) w wx := Upd.of_below hb (fun _ _ h => h)
    refine ⟨g, cur, rfl, hh, by omega, hT g rfl, fun i him => ?_⟩
    obtain ⟨v, hv, hr⟩ := hi i him
    refine ⟨v, ?_, hr.upd hu (fun k h1 h2 => absurd h1 (by omega))⟩
    rw [Nat.mul_one] at htk
    have h2 : (cur.toList.take n)[i]? = some v := by rw [htk, List.getElem?_take, if_pos him, Array.getElem?_toList, hv]
    rw [List.getElem?_take, if_pos him, Array.getElem?_toList] at h2
    exact h2
end
set_option maxRecDepth 100000 in
set_option maxHeartbeats 8000000 in
theorem diskCopies_any (A0 A1 A2 : Option Addr) (l0 l1 l2 cp0 cp1 cp2 : Nat) (cs0 cs1 cs2 : List CallD) (w : World) (hc0 : CallsAt w A0 l0 cs0) (hc1 : CallsAt w A1 l1 cs1) (hc2 : CallsAt w A2 l2 cs2) (hl0 : l0 ≤ maxLen) (hl1 : l1 ≤ maxLen) (hl2 : l2 ≤ maxLen) :
    Calls Try.prog 12 #[.slice A0 l0 cp0, .slice A1 l1 cp1, .slice A2 l2 cp2] w fun e w' => e = .returned (.bool true) ∧ Below w.heap.size w w' := by
  have HC0 := Lib.hid hc0
  have HC1 := Lib.hid hc1
  have HC2 := Lib.hid hc2
  clear hc0 hc1 hc2
  unfold maxLen at hl0 hl1 hl2
  obtain ⟨t, ht⟩ : ∃ t, t = wrap64 ((l1 : Int) + (l2 : Int)) := ⟨_, rfl⟩
  have HTt := Lib.hid ht
  clear ht
  go_enter Try.func12, Try.ntmps12
  go_upto_block 0 with (first
      | (go_at_call 30; refine (New_any 5 5 (by decide) (by decide) (by decide) _).mono ?_; rintro e w1 ⟨p, r, s, rfl, hd1, hb1, hp, hr, hs⟩; have HD1 := Lib.hid hd1; have HB1 := Lib.hid hb1; clear hd1 hb1)
      | (go_at_call 41; refine (RefNew_any 5 5 (by decide) (by decide) (by decide) _).mono ?_; rintro e w2 ⟨m, A, B, cA, cB, xs, ys, rfl, hrn⟩; have HTw := Lib.hid (Two.start (by omega) HD1.out HB1.out hp hr hs hrn); clear hrn))
  have HBlk : Hid (Below w.heap.size w w2) := Lib.hid HTw.out.2.1
  have HGe : Hid (∀ k, bT p r s m A B k → w.heap.size ≤ k) := Lib.hid HTw.out.2.2
  have HT0 : Hid (Two (bT p r s m A B) w2 p r s 5 5 m A B cA cB (Dk.new 5)) := Lib.hid HTw.out.1
  clear HTw HD1 HB1
  go_cut [9] (fun v wx => ∃ D : Dk, D.calls ≤ 30 ∧ D.n = 5 ∧ Two (bT p r s m A B) wx p r s 5 5 m A B cA cB D ∧ Below w.heap.size w wx)
  case first =>
    go_wp2_with fail
    go_loopw [9] (fun v wr => ∃ (i : Nat) (D : Dk), i ≤ l0 ∧ i ≤ 30 ∧ v = .int .i64 i ∧ D.calls ≤ i ∧ D.n = 5 ∧ Two (bT p r s m A B) wr p r s 5 5 m A B cA cB D ∧ Below w.heap.size w wr) (fun v _ => 30 - (intOf v).toNat)
    case atStart => exact ⟨0, _, by omega, by omega, rfl, Nat.le_refl _, rfl, HT0.out, HBlk.out⟩
    case round =>
      obtain ⟨i, D, hil, hi30, rfl, hcl, hdn, htw, hbel⟩ := hrel
      have HTw := Lib.hid htw
      have HBel := Lib.hid hbel
      have HDn := Lib.hid hdn
      clear htw hbel HT0 HBlk hdn
      by_cases hlt : i < l0
      · by_cases hlt6 : i < 30
        · obtain ⟨c, b, o, hck, hok, rfl, hb, c0, c1, c2, c3, c4⟩ := HC0.out.at_ hlt
          have H5 : Hid (five w b (o + i * 5) _ _ _ _ _) := Lib.hid ⟨c0, c1, c2, c3, c4⟩
          have hcalls : (D.step c).calls ≤ i + 1 := Nat.le_trans (D.step_calls c) (by omega)
          have hdn' : (D.step c).n = 5 := by rw [D.step_n]; exact HDn.out
          have hdo := fun (W : World) (hW : Two (bT p r s m A B) W p r s 5 5 m A B cA cB D) (hbW : Below w.heap.size w W) => do_any (bT p r s m A B) W p r s 5 5 m A B cA cB D c hW (by omega) (hok.below (hbW.mono (Nat.le_refl _))) (fun g o' e h0 hk => by
            obtain ⟨g', o'', e2, hl2, _⟩ := hok.bytes.2.2 h0
            rw [e] at e2
            cases e2
            have := HGe.out _ hk
            omega)
          generalize D.step c = D' at hdo hcalls hdn'
          have HDo := Lib.hid hdo
          have HDn' := Lib.hid hdn'
          clear hdo hok hck c0 c1 c2 c3 c4 hdn'
          obtain ⟨c0, c1, c2, c3, c4⟩ := five_below H5.out hb HBel.out
          clear H5
          go_wp2_with (go_at_call 42; refine (HDo.out _ HTw.out HBel.out).mono ?_; rintro e w4 ⟨rfl, ht4, hu4⟩; have HT4 := Lib.hid ht4; have HB4 : Hid (Below w.heap.size w w4) := Lib.hid (HBel.out.trans (hu4.below HGe.out HBel.out.size)); clear ht4 hu4)
          go_roundw
          case rel => exact ⟨i + 1, D', by omega, by omega, by go_num, hcalls, HDn'.out, HT4.out, HB4.out⟩
          case measure => simp [intOf]; omega
        · go_wp2_with fail
          go_meet
          exact ⟨D, by omega, HDn.out, HTw.out, HBel.out⟩
      · go_wp2_with fail
        go_meet
        exact ⟨D, by omega, HDn.out, HTw.out, HBel.out⟩
  case rest =>
    obtain ⟨wd, rfl⟩ : ∃ wd : World, wd = wc := ⟨_, rfl⟩
    obtain ⟨D, hcl, hdn, htw, hbel⟩ := hcut
    have HDn := Lib.hid hdn
    have HTw := Lib.hid htw
    have HBel := Lib.hid hbel
    clear hdn htw hbel HT0 HBlk
    go_upto_region 9 with (go_at_call 44; refine (Copy_any p r s 5 5 D _ HTw.out.d (by rw [HDn.out]; omega)).mono ?_; rintro e w3 ⟨p', r', s', cr', cs', rfl, hd3, hb3, hp', hr', hs'⟩; have HD3 := Lib.hid hd3; have HB3 := Lib.hid hb3; clear hd3 hb3)
    have hr3 := HTw.out.ref.below HB3.out
    obtain ⟨rN, Cn, rfl, hCn, hNs, hTr, _⟩ := hr3.now (by rw [HDn.out]; omega)
    obtain ⟨rS, Cs, rfl, hCs, hSs, hTs, _⟩ := hr3.sure (by rw [HDn.out]; omega)
    rw [HDn.out] at hNs hSs
    have hb3 := hr3.blk
    unfold refCells at hb3
    rw [HDn.out] at hb3
    have HR3 := Lib.hid hr3
    have hone1 := row_one hr3.now (by rw [HDn.out]; omega) Cn hCn
    have hone2 := row_one hr3.sure (by rw [HDn.out]; omega) Cs hCs
    rw [HDn.out] at hone1 hone2
    have hsrc1 : Reads w3 w3.heap.size 1 (some ⟨rN, 0, none⟩) 5 (Cn.toList.take 5) := ⟨by simp; omega, fun _ => ⟨_, rfl, hCn.lt, rows_src (n := 5) Cn hCn⟩⟩
    have hsrc2 : Reads w3 w3.heap.size 1 (some ⟨rS, 0, none⟩) 5 (Cs.toList.take 5) := ⟨by simp; omega, fun _ => ⟨_, rfl, hCs.lt, rows_src (n := 5) Cs hCs⟩⟩
    have HOne1 := Lib.hid hone1
    have HOne2 := Lib.hid hone2
    have HSrc1 := Lib.hid hsrc1
    have HSrc2 := Lib.hid hsrc2
    have HCn := Lib.hid hCn
    have HCs := Lib.hid hCs
    have HBm := Lib.hid hb3
    have hml := hb3.lt
    have hbd : Below w3.heap.size w3 w3.drew := ⟨rfl, rfl, rfl, Nat.le_refl _, fun _ _ => rfl⟩
    obtain ⟨i0, hi0, hz0, hz1, hz2⟩ := info_parts slice_row
    obtain ⟨X1, hX1⟩ : ∃ X, X = Cn.toList.take 5 := ⟨_, rfl⟩
    obtain ⟨X2, hX2⟩ : ∃ X, X = Cs.toList.take 5 := ⟨_, rfl⟩
    rw [← hX1] at HOne1 HSrc1
    rw [← hX2] at HOne2 HSrc2
    have HX1 := Lib.hid hX1
    have HX2 := Lib.hid hX2
    clear hr3 hone1 hone2 hsrc1 hsrc2 hCn hCs hb3 hX1 hX2 hNs hSs hTr hTs
    go_cut [11] (fun v wx => ∃ m' g1 g2 c1 c2, v = .pointer (some ⟨m', 0, none⟩) ∧ Blk wx m' 59 #[.slice (some ⟨g1, 0, none⟩) 5 c1, .slice (some ⟨g2, 0, none⟩) 5 c2, .int .i64 (D.calls : Int), .int .i64 (D.fuse : Int), .bool D.down] ∧
      wx.ownsRow w3.heap.size 22 1 (.slice (some ⟨g1, 0, none⟩) 5 c1) 5 X1 ∧ wx.ownsRow w3.heap.size 22 1 (.slice (some ⟨g2, 0, none⟩) 5 c2) 5 X2 ∧ g1 ≠ g2 ∧ w3.heap.size ≤ m' ∧ Below w3.heap.size w3 wx)
    case first =>
      generalize D.calls = calls at *
      generalize D.fuse = fuse at *
      generalize D.down = down at *
      go_region_held3 (fun W => W.cell? ⟨m, 0, none⟩ = some (.slice (some ⟨rN, 0, none⟩) 5 cA) ∧ W.cell? ⟨m, 1, none⟩ = some (.slice (some ⟨rS, 0, none⟩) 5 cB) ∧ W.cell? ⟨m, 2, none⟩ = some (.int .i64 (calls : Int)) ∧ W.cell? ⟨m, 3, none⟩ = some (.int .i64 (fuse : Int)) ∧ W.cell? ⟨m, 4, none⟩ = some (.bool down))
        (first | (refine fiveP_of HBm.out ?_ hml; assumption) | ((refine fiveP_of HBm.out (Below.alloc ?_ ?_ _) hml) <;> assumption))
        (first
          | (refine step_append_any _ (by rfl) (.const (.slice none 0 0)) (.tmp 39) 57 (by rfl) w3.heap.size 22 i0 _ 1 24 Try.underlying57 hi0 hz0 hz1 hz2 rfl (by omega) (.slice none 0 0) 0 [] (by rfl) (World.ownsRow_nil _ _ _ _) w3.heap.size (some ⟨rN, 0, none⟩) 5 cA X1 (by rfl) ?_ HOne1.out (by unfold maxLen; omega) (by omega) ?_ ?_
             · exact HSrc1.out.below (by assumption)
             · exact (show Below w3.heap.size w3 _ from by assumption).size
             intro v1 wa1 hown hgr hat
             have hbw1 : Below w3.heap.size w3 wa1 := grown_below (by assumption) hgr
             have hsw1 : w3.heap.size ≤ wa1.heap.size := hbw1.size
             rw [Nat.zero_add, List.nil_append] at hown
             obtain ⟨gx1, cx1, rfl, _, hgl1⟩ := hown.form (by omega)
             have HOw1 := Lib.hid hown
             have HAt1 := Lib.hid hat
             have HGr1 := Lib.hid hgr
             clear hown hgr hat)
          | (refine step_append_any _ (by rfl) (.const (.slice none 0 0)) (.tmp 44) 57 (by rfl) w3.heap.size 22 i0 _ 1 24 Try.underlying57 hi0 hz0 hz1 hz2 rfl (by omega) (.slice none 0 0) 0 [] (by rfl) (World.ownsRow_nil _ _ _ _) w3.heap.size (some ⟨rS, 0, none⟩) 5 cB X2 (by rfl) ?_ HOne2.out (by unfold maxLen; omega) (by omega) ?_ ?_
             · exact HSrc2.out.below (by assumption)
             · exact (show Below w3.heap.size w3 _ from by assumption).size
             intro v2 wa2 hown hgr hat
             have hbw2 : Below w3.heap.size w3 wa2 := grown_below (by assumption) hgr
             have hsw2 : w3.heap.size ≤ wa2.heap.size := hbw2.size
             rw [Nat.zero_add, List.nil_append] at hown
             obtain ⟨gx2, cx2, rfl, _, hgl2⟩ := hown.form (by omega)
             have HOw2 := Lib.hid hown
             have HAt2 := Lib.hid hat
             have HGr2 := Lib.hid hgr
             clear hown hgr hat))
      go_wp2_with fail
      go_meet
      have hl1 : gx1 < wa1.heap.size := hgl1
      have hne : gx1 ≠ gx2 := by
        intro e
        rcases HAt2.out with h1 | h1
        · cases h1
        · have : gx2 = wa1.heap.size := by simpa [Value.ownBlock] using h1
          omega
      have hd : Below wa2.heap.size wa2 (wa2.alloc (.cells #[.slice (some ⟨gx1, 0, none⟩) 5 cx1, .slice (some ⟨gx2, 0, none⟩) 5 cx2, .int .i64 (calls : Int), .int .i64 (fuse : Int), .bool down] 59)) := (Below.refl _ _).alloc (Nat.le_refl _) _
      have ho1 : wa2.ownsRow w3.heap.size 22 1 (.slice (some ⟨gx1, 0, none⟩) (0 + 5) cx1) (0 + 5) X1 := HOw1.out.kept HGr2.out (.inr (by simp [Value.ownBlock]))
      exact ⟨_, gx1, gx2, cx1, cx2, rfl, Blk.new _ _ _, ownsRow_below ho1 hd, ownsRow_below HOw2.out hd, hne, hsw2, hbw2.trans (hd.mono hsw2)⟩
    case rest =>
      obtain ⟨m', g1, g2, c1, c2, rfl, hbm', ho1, ho2, hg12, hm', hbx⟩ := hcut
      have hws : w.heap.size ≤ wd.heap.size := HBel.out.size
      have hs3 : wd.heap.size ≤ w3.heap.size := HB3.out.size
      have hg1 : w3.heap.size ≤ g1 := (own_at ho1 rfl).1
      have hg2 : w3.heap.size ≤ g2 := (own_at ho2 rfl).1
      have hrt2 : ∀ k, rT m' (some ⟨g1, 0, none⟩) (some ⟨g2, 0, none⟩) k → w3.heap.size ≤ k ∧ k < wc.heap.size := by
        rintro k (rfl | e | e)
        · exact ⟨hm', hbm'.lt⟩
        · cases e; obtain ⟨C, hC⟩ := (own_at ho1 rfl).2; exact ⟨hg1, hC.lt⟩
        · cases e; obtain ⟨C, hC⟩ := (own_at ho2 rfl).2; exact ⟨hg2, hC.lt⟩
      have hdt2 : ∀ k, dT p' r' s' k → wd.heap.size ≤ k ∧ k < w3.heap.size := by
        have := HD3.out.lt
        rintro k (rfl | rfl | rfl)
        · exact ⟨hp', this.1⟩
        · exact ⟨hr', this.2.1⟩
        · exact ⟨hs', this.2.2⟩
      have hb2 : ∀ k, bT p' r' s' m' (some ⟨g1, 0, none⟩) (some ⟨g2, 0, none⟩) k → wd.heap.size ≤ k ∧ k < wc.heap.size := by
        have := hbx.size
        rintro k (hk | hk)
        · have := hdt2 k hk; omega
        · have := hrt2 k hk; omega
      obtain ⟨T2, hT2⟩ : ∃ T2 : Nat → Prop, T2 = fun k => bT p r s m (some ⟨rN, 0, none⟩) (some ⟨rS, 0, none⟩) k ∨ bT p' r' s' m' (some ⟨g1, 0, none⟩) (some ⟨g2, 0, none⟩) k := ⟨_, rfl⟩
      have hTa : ∀ k, bT p r s m (some ⟨rN, 0, none⟩) (some ⟨rS, 0, none⟩) k → T2 k := fun k hk => by rw [hT2]; exact .inl hk
      have hTb : ∀ k, bT p' r' s' m' (some ⟨g1, 0, none⟩) (some ⟨g2, 0, none⟩) k → T2 k := fun k hk => by rw [hT2]; exact .inr hk
      have hTc : ∀ k, T2 k → bT p r s m (some ⟨rN, 0, none⟩) (some ⟨rS, 0, none⟩) k ∨ bT p' r' s' m' (some ⟨g1, 0, none⟩) (some ⟨g2, 0, none⟩) k := fun k hk => by rw [hT2] at hk; exact hk
      have hlt1 : ∀ k, bT p r s m (some ⟨rN, 0, none⟩) (some ⟨rS, 0, none⟩) k → k < wd.heap.size := HTw.out.lt
      clear hT2
      have hbwx : Below wd.heap.size wd wc := HB3.out.trans (hbx.mono hs3)
      have r0 := HTw.out.ref.widen hTa (fun k hk => (hTc k hk).imp id (fun h => (hb2 k h).1))
      have r1 := r0.below hbwx
      have r3 := r0.below HB3.out
      have hn5 : D.n = 5 := HDn.out
      have hTlt : ∀ k, T2 k → k < wc.heap.size := by
        have := hbwx.size
        intro k hk
        rcases hTc k hk with h | h
        · have := hlt1 k h; omega
        · exact (hb2 k h).2
      have r2 : RefAt wc T2 m' (some ⟨g1, 0, none⟩) (some ⟨g2, 0, none⟩) c1 c2 D := by
        rw [HX1.out, ← hn5] at ho1
        rw [HX2.out, ← hn5] at ho2
        refine ⟨hbm'.cast (by unfold refCells; rw [hn5]), hTb _ (.inr (.inl rfl)), TabAt.copy r3.now HCn.out hbx ho1 (fun g e => hTb _ (.inr (.inr (.inl e)))), TabAt.copy (by exact r3.sure) HCs.out hbx ho2 (fun g e => hTb _ (.inr (.inr (.inr e)))), fun r _ e1 e2 => ?_, (own_cap ho1).1, (own_cap ho2).1, r1.ok⟩
        cases e1; cases e2; exact hg12 rfl
      have t1 : Two T2 wc p r s 5 5 m (some ⟨rN, 0, none⟩) (some ⟨rS, 0, none⟩) cA cB D := ⟨HTw.out.d.below hbwx, r1, fun k hk => hTa k (.inl hk), fun k hk => hTa k (.inr hk), HTw.out.ap, hTlt⟩
      have t2 : Two T2 wc p' r' s' cr' cs' m' (some ⟨g1, 0, none⟩) (some ⟨g2, 0, none⟩) c1 c2 D := ⟨HD3.out.below hbx, r2, fun k hk => hTb k (.inl hk), fun k hk => hTb k (.inr hk), fun k hk hd => by have := hrt2 k hk; have := hdt2 k hd; omega, hTlt⟩
      have hdis : ∀ k, bT p r s m (some ⟨rN, 0, none⟩) (some ⟨rS, 0, none⟩) k → ¬ bT p' r' s' m' (some ⟨g1, 0, none⟩) (some ⟨g2, 0, none⟩) k := fun k h1 h2 => by have := hlt1 k h1; have := hb2 k h2; omega
      have hge2 : ∀ k, T2 k → w.heap.size ≤ k := fun k hk => by
        rcases hTc k hk with h | h
        · exact HGe.out k h
        · have := hb2 k h; omega
      have HT1 := Lib.hid t1
      have HT2 := Lib.hid t2
      have HDis := Lib.hid hdis
      have HGe2 := Lib.hid hge2
      have HTa := Lib.hid hTa
      have HTb := Lib.hid hTb
      have HBx : Hid (Below w.heap.size w wc) := Lib.hid (HBel.out.trans (hbwx.mono hws))
      have e5 : Hid True := Lib.hid trivial
      clear hbm' ho1 ho2 hg12 hm' hbx hws hs3 hg1 hg2 hrt2 hdt2 hb2 hTa hTb hTc hlt1 hbwx r0 r1 r3 r2 t1 t2 hdis hge2 hTlt hn5 HOne1 HOne2 HSrc1 HSrc2 HCn HCs HBm HX1 HX2 HR3 HD3 HB3 HTw HGe HBel hbd hml hz0 hz1 hz2 hi0 HC0
      have dostep : ∀ (W : World) (p r s cr cs m : Nat) (A B : Option Addr) (cA cB : Nat) (E : Dk) (c : CallD), Two T2 W p r s cr cs m A B cA cB E → E.calls < 1000 → c.Ok w → Below w.heap.size w W → Calls Try.prog 42 #[.pointer (some ⟨p, 0, none⟩), .pointer (some ⟨m, 0, none⟩), .agg #[.int .i64 c.Do, .int .i64 c.I, .int .u8 (c.B : Int), .bool c.sh, .slice c.A c.n c.c]] W fun e w' =>
          e = .returned (.bool true) ∧ Two T2 w' p r s cr cs m A B cA cB (E.step c) ∧ Upd (bT p r s m A B) W w' := by
        intro W p r s cr cs m A B cA cB E c hW hcalls hok hbW
        refine do_any T2 W p r s cr cs m A B cA cB E c hW (by omega) (hok.below hbW) (fun g o' e h0 hk => ?_)
        obtain ⟨g', o'', e2, hl2, _⟩ := hok.bytes.2.2 h0
        rw [e] at e2
        cases e2
        have := HGe2.out _ hk
        omega
      have HDo := Lib.hid dostep
      clear dostep
      go_wp2_with fail
      go_loopw [12] (fun v wr => ∃ (i : Nat) (D1 D2 : Dk), i ≤ 40 ∧ v = .int .i64 i ∧ D1.calls ≤ 30 + i ∧ D2.calls ≤ 30 + i ∧ Two T2 wr p r s 5 5 m (some ⟨rN, 0, none⟩) (some ⟨rS, 0, none⟩) cA cB D1 ∧ Two T2 wr p' r' s' cr' cs' m' (some ⟨g1, 0, none⟩) (some ⟨g2, 0, none⟩) c1 c2 D2 ∧ Below w.heap.size w wr) (fun v _ => 40 - (intOf v).toNat)
      case atStart => exact ⟨0, D, D, by omega, rfl, by omega, by omega, HT1.out, HT2.out, HBx.out⟩
      case round =>
        obtain ⟨i, D1, D2, hi40, rfl, hq1, hq2, ha1, ha2, hbel⟩ := hrel
        have HA1 := Lib.hid ha1
        have HA2 := Lib.hid ha2
        have HBel := Lib.hid hbel
        have het : wrap64 ((l1 : Int) + (l2 : Int)) = t := HTt.out.symm
        clear ha1 ha2 hbel HT1 HT2 HBx
        by_cases hit : (i : Int) < t
        · by_cases hi : i < 40
          · by_cases hl1' : i < l1
            · by_cases hl2' : i < l2
              · obtain ⟨cc1, b1, o1, _, hok1, rfl, hbb1, x0, x1, x2, x3, x4⟩ := HC1.out.at_ hl1'
                have F1 : Hid (five w b1 (o1 + i * 5) _ _ _ _ _) := Lib.hid ⟨x0, x1, x2, x3, x4⟩
                have HOk1 := Lib.hid hok1
                clear x0 x1 x2 x3 x4 hok1
                obtain ⟨y01, y11, y21, y31, y41⟩ := five_below F1.out hbb1 HBel.out
                obtain ⟨cc2, b2, o2, _, hok2, rfl, hbb2, x0, x1, x2, x3, x4⟩ := HC2.out.at_ hl2'
                have F2 : Hid (five w b2 (o2 + i * 5) _ _ _ _ _) := Lib.hid ⟨x0, x1, x2, x3, x4⟩
                have HOk2 := Lib.hid hok2
                clear x0 x1 x2 x3 x4 hok2
                obtain ⟨y02, y12, y22, y32, y42⟩ := five_below F2.out hbb2 HBel.out
                have hs1 := D1.step_calls cc1
                have hs2 := D2.step_calls cc2
                go_wp2_with (first
                  | (go_at_call_of 42 (Value.pointer (some ⟨p, 0, none⟩))
                     refine (HDo.out _ p r s 5 5 m (some ⟨rN, 0, none⟩) (some ⟨rS, 0, none⟩) cA cB D1 cc1 HA1.out (by omega) HOk1.out HBel.out).mono ?_
                     rintro e w4 ⟨rfl, ht4, hu4⟩
                     have HA4 := Lib.hid ht4
                     have HB4 : Hid (Two T2 w4 p' r' s' cr' cs' m' (some ⟨g1, 0, none⟩) (some ⟨g2, 0, none⟩) c1 c2 D2) := Lib.hid (HA2.out.upd hu4 (fun k _ hk => HTa.out k hk) (fun k hk hk2 => HDis.out k hk2 hk))
                     have HBel4 : Hid (Below w.heap.size w w4) := Lib.hid (HBel.out.trans (hu4.below (fun k hk => HGe2.out k (HTa.out k hk)) HBel.out.size))
                     obtain ⟨z02, z12, z22, z32, z42⟩ := five_below F2.out hbb2 HBel4.out
                     clear ht4 hu4)
                  | (go_at_call_of 42 (Value.pointer (some ⟨p', 0, none⟩))
                     refine (HDo.out _ p' r' s' cr' cs' m' (some ⟨g1, 0, none⟩) (some ⟨g2, 0, none⟩) c1 c2 D2 cc2 HB4.out (by omega) HOk2.out HBel4.out).mono ?_
                     rintro e w5 ⟨rfl, ht5, hu5⟩
                     have HB5 := Lib.hid ht5
                     have HA5 : Hid (Two T2 w5 p r s 5 5 m (some ⟨rN, 0, none⟩) (some ⟨rS, 0, none⟩) cA cB _) := Lib.hid (HA4.out.upd hu5 (fun k _ hk => HTb.out k hk) (fun k hk hk2 => HDis.out k hk hk2))
                     have HBel5 : Hid (Below w.heap.size w w5) := Lib.hid (HBel4.out.trans (hu5.below (fun k hk => HGe2.out k (HTb.out k hk)) HBel4.out.size))
                     clear ht5 hu5))
                go_roundw
                case rel => exact ⟨i + 1, _, _, by omega, by go_num, by omega, by omega, HA5.out, HB5.out, HBel5.out⟩
                case measure => simp [intOf]; omega
              · obtain ⟨cc1, b1, o1, _, hok1, rfl, hbb1, x0, x1, x2, x3, x4⟩ := HC1.out.at_ hl1'
                have F1 : Hid (five w b1 (o1 + i * 5) _ _ _ _ _) := Lib.hid ⟨x0, x1, x2, x3, x4⟩
                have HOk1 := Lib.hid hok1
                clear x0 x1 x2 x3 x4 hok1
                obtain ⟨y01, y11, y21, y31, y41⟩ := five_below F1.out hbb1 HBel.out
                have hs1 := D1.step_calls cc1
                go_wp2_with (first
                  | (go_at_call_of 42 (Value.pointer (some ⟨p, 0, none⟩))
                     refine (HDo.out _ p r s 5 5 m (some ⟨rN, 0, none⟩) (some ⟨rS, 0, none⟩) cA cB D1 cc1 HA1.out (by omega) HOk1.out HBel.out).mono ?_
                     rintro e w4 ⟨rfl, ht4, hu4⟩
                     have HA4 := Lib.hid ht4
                     have HB4 : Hid (Two T2 w4 p' r' s' cr' cs' m' (some ⟨g1, 0, none⟩) (some ⟨g2, 0, none⟩) c1 c2 D2) := Lib.hid (HA2.out.upd hu4 (fun k _ hk => HTa.out k hk) (fun k hk hk2 => HDis.out k hk2 hk))
                     have HBel4 : Hid (Below w.heap.size w w4) := Lib.hid (HBel.out.trans (hu4.below (fun k hk => HGe2.out k (HTa.out k hk)) HBel.out.size))
                     clear ht4 hu4))
                go_roundw
                case rel => exact ⟨i + 1, _, _, by omega, by go_num, by omega, by omega, HA4.out, HB4.out, HBel4.out⟩
                case measure => simp [intOf]; omega
            · by_cases hl2' : i < l2
              · obtain ⟨cc2, b2, o2, _, hok2, rfl, hbb2, x0, x1, x2, x3, x4⟩ := HC2.out.at_ hl2'
                have F2 : Hid (five w b2 (o2 + i * 5) _ _ _ _ _) := Lib.hid ⟨x0, x1, x2, x3, x4⟩
                have HOk2 := Lib.hid hok2
                clear x0 x1 x2 x3 x4 hok2
                obtain ⟨y02, y12, y22, y32, y42⟩ := five_below F2.out hbb2 HBel.out
                have hs2 := D2.step_calls cc2
                go_wp2_with (first
                  | (go_at_call_of 42 (Value.pointer (some ⟨p', 0, none⟩))
                     refine (HDo.out _ p' r' s' cr' cs' m' (some ⟨g1, 0, none⟩) (some ⟨g2, 0, none⟩) c1 c2 D2 cc2 HA2.out (by omega) HOk2.out HBel.out).mono ?_
                     rintro e w5 ⟨rfl, ht5, hu5⟩
                     have HB5 := Lib.hid ht5
                     have HA5 : Hid (Two T2 w5 p r s 5 5 m (some ⟨rN, 0, none⟩) (some ⟨rS, 0, none⟩) cA cB _) := Lib.hid (HA1.out.upd hu5 (fun k _ hk => HTb.out k hk) (fun k hk hk2 => HDis.out k hk hk2))
                     have HBel5 : Hid (Below w.heap.size w w5) := Lib.hid (HBel.out.trans (hu5.below (fun k hk => HGe2.out k (HTb.out k hk)) HBel.out.size))
                     clear ht5 hu5))
                go_roundw
                case rel => exact ⟨i + 1, _, _, by omega, by go_num, by omega, by omega, HA5.out, HB5.out, HBel5.out⟩
                case measure => simp [intOf]; omega
              · have hit2 : (i : Int) < (l1 : Int) + (l2 : Int) := by rw [HTt.out, IntWalk.wrap64_in _ ⟨by omega, by omega⟩] at hit; exact hit
                go_wp2_with fail
                go_roundw
                case rel => exact ⟨i + 1, D1, D2, by omega, by go_num, by omega, by omega, HA1.out, HA2.out, HBel.out⟩
                case measure => simp [intOf]; omega
          · go_wp2_with (first
              | (go_at_call_of 43 (Value.pointer (some ⟨p, 0, none⟩)); refine (like_any _ _ p r s 5 5 m (some ⟨rN, 0, none⟩) (some ⟨rS, 0, none⟩) cA cB D1 HA1.out).mono ?_; rintro e w6 ⟨rfl, hb6⟩; have hB6 : Below w.heap.size w w6 := HBel.out.trans (hb6.mono HBel.out.size); have HA2' := Lib.hid (HA2.out.below hb6); clear hb6)
              | (go_at_call_of 43 (Value.pointer (some ⟨p', 0, none⟩)); refine (like_any _ _ p' r' s' cr' cs' m' (some ⟨g1, 0, none⟩) (some ⟨g2, 0, none⟩) c1 c2 D2 HA2'.out).mono ?_; rintro e w7 ⟨rfl, hb7⟩; have hB7 : Below w.heap.size w w7 := hB6.trans (hb7.mono hB6.size); clear hb7)
              | (go_at_call 33; refine (awake2_any _).mono ?_; rintro e w8 ⟨rfl, hb8⟩; have hB8 : Below w.heap.size w w8 := hB7.trans (hb8.mono hB7.size)))
            go_ret
            exact ⟨rfl, hB8⟩
        · go_wp2_with (first
            | (go_at_call_of 43 (Value.pointer (some ⟨p, 0, none⟩)); refine (like_any _ _ p r s 5 5 m (some ⟨rN, 0, none⟩) (some ⟨rS, 0, none⟩) cA cB D1 HA1.out).mono ?_; rintro e w6 ⟨rfl, hb6⟩; have hB6 : Below w.heap.size w w6 := HBel.out.trans (hb6.mono HBel.out.size); have HA2' := Lib.hid (HA2.out.below hb6); clear hb6)
            | (go_at_call_of 43 (Value.pointer (some ⟨p', 0, none⟩)); refine (like_any _ _ p' r' s' cr' cs' m' (some ⟨g1, 0, none⟩) (some ⟨g2, 0, none⟩) c1 c2 D2 HA2'.out).mono ?_; rintro e w7 ⟨rfl, hb7⟩; have hB7 : Below w.heap.size w w7 := hB6.trans (hb7.mono hB6.size); clear hb7)
            | (go_at_call 33; refine (awake2_any _).mono ?_; rintro e w8 ⟨rfl, hb8⟩; have hB8 : Below w.heap.size w w8 := hB7.trans (hb8.mono hB7.size)))
          go_ret
          exact ⟨rfl, hB8⟩
section
open Go.ChangeShapes Go.WideShapes Go.ChangeAt
theorem diskCopies_walk {H : Type} {enc : TypeId × Value → H} (W : World) {base : Nat} (v0 v1 v2 : Value) {d0 d1 d2 : DataW H} {p0 p1 p2 : List MemPlace}
    (h0 : DataW.Trod enc Try.prog W 0 (fun _ => true) true 43 v0 d0 p0) (o0 : Value.okWide Try.prog W .any base 43 v0)
    (h1 : DataW.Trod enc Try.prog W 0 (fun _ => true) true 43 v1 d1 p1) (o1 : Value.okWide Try.prog W .any base 43 v1)
    (h2 : DataW.Trod enc Try.prog W 0 (fun _ => true) true 43 v2 d2 p2) (o2 : Value.okWide Try.prog W .any base 43 v2) :
    Calls Try.prog 12 #[v0, v1, v2] W fun e w' => e = .returned (.bool true) ∧ Below W.heap.size W w' := by
  obtain ⟨A0, n0, cp0, cs0, rfl, hc0, hn0⟩ := open_calls h0 o0
  obtain ⟨A1, n1, cp1, cs1, rfl, hc1, hn1⟩ := open_calls h1 o1
  obtain ⟨A2, n2, cp2, cs2, rfl, hc2, hn2⟩ := open_calls h2 o2
  exact diskCopies_any A0 A1 A2 n0 n1 n2 cp0 cp1 cp2 cs0 cs1 cs2 W hc0 hc1 hc2 hn0 hn1 hn2
end
end Go.Proofs.Ytiiegimnnngnnaa
