/- cnf: Copy. -/
import Derived.Test.YtghfelfljblkbaaBoth
import Derived.Deep.RegionHeld3
import Derived.Deep.RegionLaw
namespace Go.Proofs.Ytghfelfljblkbaa
open Go.RowKit Go.Sort
set_option linter.unusedVariables false

set_option maxRecDepth 100000 in
set_option maxHeartbeats 2000000 in
theorem Copy_any (p cap n : Nat) (A : Option Addr) (L : List (List Int)) (w : World) (h : SetAt w p A cap n L) (hL : ∀ r ∈ L, r.length ≤ 1048576) (hok : ∀ r ∈ L, ∀ z ∈ r, Ok z) :
    Calls Try.prog 30 #[.pointer (some ⟨p, 0, none⟩)] w fun e w' => ∃ p' A' cap', e = .returned (.pointer (some ⟨p', 0, none⟩)) ∧ SetAt w' p' A' cap' n L ∧ Below w.heap.size w w' ∧ ∀ k, sF p' A' k → w.heap.size ≤ k := by
  obtain ⟨i0, hi0, hz0, hz1, hz2⟩ := info_parts slice_row
  have k0 : w.cell? ⟨p, 0, none⟩ = some (.int .i64 (n : Int)) := h.blk.cell 0
  have k1 : w.cell? ⟨p, 1, none⟩ = some (.slice A L.length cap) := h.blk.cell 1
  have HS := Lib.hid h
  have HLL := Lib.hid hL
  have HOK := Lib.hid hok
  have hlen := h.len
  have hlp := h.blk.lt
  have hn := h.n
  obtain ⟨W1, hW1⟩ : ∃ W1, W1 = w.alloc (.cells #[.int .i64 (n : Int), .slice none 0 0] 80) := ⟨_, rfl⟩
  have hb1 : Below w.heap.size w W1 := by rw [hW1]; exact (Below.refl _ _).alloc (Nat.le_refl _) _
  have hset : SetAt W1 w.heap.size none 0 n [] := by
    rw [hW1]
    exact ⟨Blk.new _ _ _, ⟨[], World.ownsRow_nil _ _ _ _, LIn.nil _⟩, hn, by simp⟩
  have HST := Lib.hid hset
  have HB1 := Lib.hid hb1
  have k1' : W1.cell? ⟨p, 1, none⟩ = some (.slice A L.length cap) := (hb1.cell hlp).trans k1
  clear h hL hok hset hb1
  subst hW1
  go_enter Try.func30, Try.ntmps30
  go_wp2_with fail
  go_loopw [19] (fun t wr => ∃ (i : Nat) (Ao : Option Addr) (co : Nat), t = .int .i64 (i : Int) ∧ i ≤ L.length ∧ Hid (SetAt wr w.heap.size Ao co n (L.take i)) ∧ Hid (∀ k, sF w.heap.size Ao k → w.heap.size ≤ k) ∧ Hid (Below w.heap.size w wr)) (fun t _ => L.length - (match t with | .int _ x => x.toNat | _ => 0))
  case atStart => exact ⟨0, none, 0, rfl, Nat.zero_le _, by rw [List.take_zero]; exact HST, Lib.hid (fun k hk => by
    rcases hk with rfl | hk
    · exact Nat.le_refl _
    · cases hk), HB1⟩
  case round =>
    obtain ⟨i, Ao, co, rfl, hi, HT, HF, HB⟩ := hrel
    by_cases hlt : i < L.length
    · have HSR := Lib.hid (HS.out.below HB.out)
      obtain ⟨xs, hox, hix⟩ := HSR.out.row
      obtain ⟨g, Aj, cj, hA, kg, hlj⟩ := row_cell hox hix hlt
      subst hA
      obtain ⟨r, hr⟩ : ∃ r, r = L[i] := ⟨_, rfl⟩
      rw [← hr] at kg hlj
      have hrl : r.length ≤ 1048576 := by rw [hr]; exact HLL.out _ (List.getElem_mem hlt)
      have hro : ∀ z ∈ r, Ok z := by rw [hr]; exact HOK.out _ (List.getElem_mem hlt)
      have hti : (L.take i).length = i := by rw [List.length_take]; omega
      obtain ⟨ys, hoy, hiy⟩ := HT.out.row
      rw [hti] at hoy
      have HOY := Lib.hid hoy
      have HIY := Lib.hid hiy
      have HLJ := Lib.hid hlj
      have HRO := Lib.hid hro
      have HTK : Hid (L.take (i + 1) = L.take i ++ [r]) := Lib.hid (by rw [List.take_add_one, hr, List.getElem?_eq_getElem hlt]; rfl)
      have HBK : Hid (Blk wr w.heap.size 80 #[.int .i64 (n : Int), .slice Ao i co]) := Lib.hid (by have := HT.out.blk; rw [hti] at this; exact this)
      have hkc : ∀ W, Below wr.heap.size wr W → W.cell? ⟨w.heap.size, 1, none⟩ = some (.slice Ao i co) := fun W hW => (hW.cell HBK.out.lt).trans (HBK.out.cell 1)
      have HKC := Lib.hid hkc
      obtain ⟨q, hq⟩ : ∃ q, q = r.length := ⟨_, rfl⟩
      have HCL : Hid (∀ W, Below wr.heap.size wr W → Calls Try.prog 62 #[.slice Aj q cj] W fun e w' => ∃ v, e = .returned v ∧ OwnL w' W.heap.size v r ∧ Below W.heap.size W w') := Lib.hid (fun W hW => clone_any Aj q cj r W (by rw [hq]; exact HLJ.out.below hW) (by rw [hq]; exact hrl))
      have hb0 : Below wr.heap.size wr wr.drew := ⟨rfl, rfl, rfl, Nat.le_refl _, fun _ _ => rfl⟩
      have i1 : (i : Int) < (L.length : Int) := by omega
      have hi5 : i < 5000 := by omega
      rw [← hq] at kg
      have HQ := Lib.hid hq
      have HTI := Lib.hid hti
      have HWS := Lib.hid HB.out.size
      clear hox hix hlj hr hro hoy hiy hkc hq hti HSR
      go_wp2_with fail
      have kwr := HKC.out wr (Below.refl _ _)
      go_region_law
        (first
          | (go_simp
             go_at_call 62
             refine (HCL.out _ (by assumption)).mono ?_
             rintro e w2 ⟨v2, rfl, ho2, hb2⟩
             have hbx : Below wr.heap.size wr w2 := (show Below wr.heap.size wr _ from by assumption).trans (hb2.mono (show Below wr.heap.size wr _ from by assumption).size)
             obtain ⟨A2, c2, rfl, hl2, _, _, hf2⟩ := ho2.lits2 HRO.out
             have HL2 := Lib.hid hl2
             have HF2 := Lib.hid hf2
             have kw2 := HKC.out w2 hbx
             have hby : Below wr.heap.size wr (w2.alloc (.cells #[.slice A2 r.length c2] 22)) := hbx.alloc hbx.size _
             have kw3 := HKC.out _ hby
             clear ho2 hb2 hl2 hf2)
          | (refine step_append_any _ (by rfl) (.tmp 27) (.tmp 30) 28 (by rfl) 0 22 i0 (.slice none 0 0) 1 24 Try.underlying28 hi0 hz0 hz1 hz2 rfl (by decide) (.slice Ao i co) i ys (by simp [Act.eval]) ((ownL_later HOY.out hbx).alloc _) (w2.heap.size + 1) (some ⟨w2.heap.size, 0, none⟩) 1 1 [.slice A2 r.length c2] (by simp [Act.eval]) (reads_one (Blk.new _ _ _) (by omega)) (slice_one _ _ _ _ rfl) (by unfold maxLen; omega) (by omega) (Nat.zero_le _) ?_
             intro v5 w5 hown5 hg5 hat5
             have HOW5 := Lib.hid hown5
             have HU5 : Hid (Upd (fun k => (Value.slice Ao 0 0).ownBlock = some k) w2 w5) := Lib.hid (((Upd.refl _ w2).alloc _).grown hg5 (fun j hj => .inl (by rw [← hj]; exact ownB)))
             have HB5 : Hid (Blk w5 w.heap.size 80 #[.int .i64 (n : Int), .slice Ao i co]) := Lib.hid ((HBK.out.below hbx HBK.out.lt).upd HU5.out (fun h => row_ne HOY.out HBK.out (by rw [← h]; exact ownB)))
             have f5 : w5.frozen? ⟨w.heap.size, 1, none⟩ = false := HB5.out.frozen 1
             have k5 : w5.cell? ⟨w.heap.size, 1, none⟩ = some (.slice Ao i co) := HB5.out.cell 1
             have HO5 : Hid (∀ j, v5.ownBlock = some j → (Value.slice Ao 0 0).ownBlock = some j ∨ w2.heap.size ≤ j) := Lib.hid (fun j hj => own_or Ao i co v5.ownBlock w2.heap.size j hj (by
               rcases hat5 with h | h
               · exact .inl h
               · exact .inr (h.trans (by rw [World.size_alloc]))))
             obtain ⟨A5, c5, rfl⟩ := ownL_shape hown5
             clear hown5 hg5 hat5))
      all_goals
        go_wp2_with fail
        have hT5 : ∀ j, (Value.slice Ao 0 0).ownBlock = some j → ¬ IsL w2 j := fun j hj => not_isL (ownL_later HOY.out hbx) (by rw [← hj]; exact ownB)
        have hul : Upd (fun j => wr.heap.size ≤ j) wr w2 := Upd.of_below hbx (fun _ _ h => h)
        have hlin2 : LIn w2 ys (L.take i) := HIY.out.upd hul (fun k hk hI => by have hk' : wr.heap.size ≤ k := hk; have := hI.lt; omega)
        have hlin5 : LIn w5 (ys ++ [.slice A2 r.length c2]) (L.take i ++ [r]) := (hlin2.snoc HL2.out (fun g o e => (HF2.out g o e).2)).upd HU5.out hT5
        have huz : Upd (fun j => j = w.heap.size) w5 (w5.setCell ⟨w.heap.size, 1, none⟩ (.slice A5 (i + 1) c5)) := (Upd.refl (fun j => j = w.heap.size) w5).setCell (p := ⟨w.heap.size, 1, none⟩) (.inl rfl) _
        have hlen1 : (L.take (i + 1)).length = i + 1 := by rw [List.length_take]; omega
        have hset : SetAt (w5.setCell ⟨w.heap.size, 1, none⟩ (.slice A5 (i + 1) c5)) w.heap.size A5 c5 n (L.take (i + 1)) := by
          refine ⟨?_, ⟨ys ++ [.slice A2 r.length c2], ?_, ?_⟩, hn, by rw [hlen1]; omega⟩
          · rw [hlen1]
            exact (HB5.out.set_ 1 (.slice A5 (i + 1) c5)).cast (by simp)
          · rw [hlen1]
            exact own_upd HOW5.out huz (fun j hj e => row_ne HOW5.out HB5.out (by rw [hj, e]))
          · rw [HTK.out]
            exact hlin5.upd huz (fun j hj => by rw [hj]; exact set_isL HB5.out)
        have hF2 : ∀ k, sF w.heap.size A5 k → w.heap.size ≤ k := fun k hk => by
          rcases hk with rfl | hk
          · exact Nat.le_refl _
          · rcases HO5.out k (by rw [← hk]; exact ownB) with h | h
            · exact HF.out k (.inr h)
            · exact Nat.le_trans HWS.out (Nat.le_trans hbx.size h)
        have hb2 : Below w.heap.size w w2 := HB.out.trans (hbx.mono HWS.out)
        have hb5 : Below w.heap.size w w5 := hb2.trans (HU5.out.below (fun k hk => HF.out k (.inr hk)) hb2.size)
        have hbz : Below w.heap.size w (w5.setCell ⟨w.heap.size, 1, none⟩ (.slice A5 (i + 1) c5)) := hb5.trans (huz.below (fun k hk => by omega) hb5.size)
        refine ⟨⟨i + 1, A5, c5, by go_num, by omega, Lib.hid hset, Lib.hid hF2, Lib.hid hbz⟩, ?_⟩
        show L.length - ((i : Int) + 1).toNat < L.length - (i : Int).toNat
        omega
    · have hil : i = L.length := by omega
      have HEQ : Hid (L.take i = L) := Lib.hid (by rw [hil]; exact List.take_of_length_le (Nat.le_refl _))
      clear hil
      go_wp2_with fail
      go_ret
      refine ⟨w.heap.size, Ao, co, rfl, ?_, HB.out, HF.out⟩
      rw [HEQ.out] at HT
      exact HT.out
end Go.Proofs.Ytghfelfljblkbaa
