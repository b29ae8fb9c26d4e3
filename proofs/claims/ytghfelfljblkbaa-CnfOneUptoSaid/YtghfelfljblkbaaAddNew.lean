/- cnf: Add onto no clauses: what the new set's memory is. -/
import Derived.Test.YtghfelfljblkbaaSet
namespace Go.Proofs.Ytghfelfljblkbaa
open Go.RowKit Go.Sort
set_option linter.unusedVariables false

theorem LIn.one {T : Nat → Prop} {w w' : World} {A : Option Addr} {c : Nat} {r : List Int} (h : LIn w [.slice A r.length c] [r]) (hu : Upd T w w') (hT : ∀ g o, A = some ⟨g, o, none⟩ → ¬ T g) : LIn w' [.slice A r.length c] [r] := by
  refine ⟨h.1, fun j hj => ?_⟩
  have hj0 : j = 0 := by simp at hj; omega
  subst hj0
  obtain ⟨Aj, cj, h1, h2, h3⟩ := h.2 0 hj
  have e : Aj = A := by
    simp at h1
    exact h1.1.symm
  subst e
  exact ⟨Aj, cj, h1, h2.upd hu (fun b o e => hT b o e), fun g o e => (h3 g o e).upd hu (hT g o e)⟩
set_option maxRecDepth 100000 in
set_option maxHeartbeats 1000000 in
theorem AddNew_any (p n : Nat) (B : Option Addr) (m c : Nat) (zs r : List Int) (w : World) (h : SetAt w p none 0 n []) (hz : Lits w B m zs) (hm : m ≤ 1048576) (hmay : mayL n [] zs = true) (ht : Cf.tidy zs = some r) :
    Calls Try.prog 28 #[.pointer (some ⟨p, 0, none⟩), .slice B m c] w fun e w' => e = .returned (.bool true) ∧ Upd (fun k => k = p) w w' ∧ ∃ A' cap', SetAt w' p A' cap' n [r] ∧ ∀ (T : Nat → Prop) w'', Upd T w' w'' → (∀ k, T k → k < w.heap.size ∧ k ≠ p) → SetAt w'' p A' cap' n [r] := by
  obtain ⟨i0, hi0, hz0, hz1, hz2⟩ := info_parts slice_row
  have HS := Lib.hid h
  have HZ := Lib.hid hz
  have HMAY := Lib.hid (may_any p 0 n none [] B m c zs w h hz hm)
  rw [hmay] at HMAY
  have HTT := Lib.hid ht
  clear h hz hmay ht
  go_enter Try.func28, Try.ntmps28
  go_wp2_with fail
  go_at_call 74
  refine HMAY.out.mono ?_
  rintro e w1 ⟨rfl, hb1⟩
  have HT := Lib.hid (Tidy_any B m c zs w1 (HZ.out.below hb1) hm)
  have HB1 := Lib.hid hb1
  clear hb1 HMAY
  go_wp2_with fail
  go_at_call 23
  refine HT.out.mono ?_
  rintro e w2 ⟨hb2, hres⟩
  have HB2 := Lib.hid (HB1.out.trans (hb2.mono HB1.out.size))
  rw [HTT.out] at hres
  obtain ⟨v2, rfl, ho2⟩ := hres
  have hrok := tidy_ok HTT.out HZ.out.2.1
  obtain ⟨Ar, cr, rfl, hlr, _, _, hfr⟩ := ho2.lits2 hrok
  have HS2 := Lib.hid (HS.out.below HB2.out)
  have HLR := Lib.hid hlr
  have HFR : Hid (∀ g o, Ar = some ⟨g, o, none⟩ → w.heap.size ≤ g ∧ IsL w2 g) := Lib.hid (fun g o e => ⟨Nat.le_trans HB1.out.size (hfr g o e).1, (hfr g o e).2⟩)
  have k1 : w2.cell? ⟨p, 1, none⟩ = some (.slice none 0 0) := HS2.out.blk.cell 1
  have HNIL : Hid (w2.ownsRow 0 22 1 (.slice none 0 0) 0 []) := Lib.hid (World.ownsRow_nil _ _ _ _)
  have hlp := HS2.out.blk.lt
  clear hb2 HT ho2 hrok hlr hfr
  go_wp2_with (at_builtin; refine wpList_append_any _ rfl (.tmp 21) (.tmp 23) 28 rfl 0 22 i0 (.slice none 0 0) 1 24 Try.underlying28 hi0 hz0 hz1 hz2 rfl (by decide) _ 0 [] rfl (HNIL.out.alloc _) (w2.heap.size + 1) (some ⟨w2.heap.size, 0, none⟩) 1 1 [.slice Ar r.length cr] rfl (reads_one (Blk.new _ _ _) (by omega)) (slice_one _ _ _ _ rfl) (by unfold maxLen; omega) (by omega) (Nat.zero_le _) ?_; intro v5 w5 hown5 hg5 hat5; have HOW5 := Lib.hid hown5; have HU5 : Hid (Upd (fun k => False) w2 w5) := Lib.hid (((Upd.refl _ w2).alloc _).grown hg5 (fun j hj => by cases hj)); have HB5 : Hid (Blk w5 p 80 #[.int .i64 (n : Int), .slice none 0 0]) := Lib.hid (HS2.out.blk.upd HU5.out (fun h => h)); have f5 : w5.frozen? ⟨p, 1, none⟩ = false := HB5.out.frozen 1; have k5 : ∃ u, w5.cell? ⟨p, 1, none⟩ = some u := ⟨_, HB5.out.cell 1⟩; obtain ⟨u5, k5⟩ := k5; have HO5 : Hid (∀ j, v5.ownBlock = some j → w2.heap.size ≤ j) := Lib.hid (fun j hj => by rcases hat5 with h | h; (· rw [h] at hj; cases hj); (· rw [World.size_alloc] at h; rw [h] at hj; cases hj; omega)); obtain ⟨A5, c5, rfl⟩ := ownL_shape hown5; clear hown5 hg5 hat5 k1)
  go_ret
  have hlin2 : LIn w2 ([] ++ [.slice Ar r.length cr]) ([] ++ [r]) := (LIn.nil w2).snoc HLR.out (fun g o e => (HFR.out g o e).2)
  have hlin5 : LIn w5 [.slice Ar r.length cr] [r] := hlin2.upd HU5.out (fun j hj => hj.elim)
  have huz : Upd (fun j => j = p) w5 (w5.setCell ⟨p, 1, none⟩ (.slice A5 (0 + 1) c5)) := (Upd.refl (fun j => j = p) w5).setCell (p := ⟨p, 1, none⟩) (.inl rfl) _
  have hbz : Blk (w5.setCell ⟨p, 1, none⟩ (.slice A5 (0 + 1) c5)) p 80 #[.int .i64 (n : Int), .slice A5 1 c5] := (HB5.out.set_ 1 (.slice A5 (0 + 1) c5)).cast (by simp)
  have hoz : (w5.setCell ⟨p, 1, none⟩ (.slice A5 (0 + 1) c5)).ownsRow 0 22 1 (.slice A5 1 c5) 1 [.slice Ar r.length cr] := own_upd HOW5.out huz (fun j hj e => row_ne HOW5.out HB5.out (by rw [hj, e]))
  have hpI : ¬ IsL w5 p := set_isL HB5.out
  have hlz : LIn (w5.setCell ⟨p, 1, none⟩ (.slice A5 (0 + 1) c5)) [.slice Ar r.length cr] [r] := hlin5.upd huz (fun j hj => by rw [hj]; exact hpI)
  refine ⟨rfl, ⟨huz.os.trans (HU5.out.os.trans HB2.out.os), huz.tape.trans (HU5.out.tape.trans HB2.out.tape), huz.output.trans (HU5.out.output.trans HB2.out.output), Nat.le_trans HB2.out.size (Nat.le_trans HU5.out.size huz.size), fun j hj hT => ?_⟩, A5, c5, ?_, ?_⟩
  · have h1 := HB2.out.block j hj
    have h2 := HU5.out.block j (Nat.lt_of_lt_of_le hj HB2.out.size) (fun h => h)
    have h3 := huz.block j (Nat.lt_of_lt_of_le hj (Nat.le_trans HB2.out.size HU5.out.size)) hT
    exact h3.trans (h2.trans h1)
  · exact ⟨hbz, ⟨_, hoz, hlz⟩, HS.out.n, by simp⟩
  · intro T w'' hu hT
    refine ⟨hbz.upd hu (fun h => (hT p h).2 rfl), ⟨_, own_upd hoz hu (fun j hj h => ?_), hlz.one hu (fun g o e h => ?_)⟩, HS.out.n, by simp⟩
    · have h1 := (hT j h).1
      have h2 := HO5.out j (by rw [← hj]; exact ownB)
      have h3 := HB2.out.size
      omega
    · have h1 := (hT g h).1
      have h2 := (HFR.out g o e).1
      omega
end Go.Proofs.Ytghfelfljblkbaa
