/- wal: a log in memory; its write. -/
import Derived.Test.YtiiegimnnngnnaaLog2
import Derived.Test.YtiiegimnnngnnaaDisk6
namespace Go.Proofs.Ytiiegimnnngnnaa
open Go.RowKit
set_option linter.unusedVariables false

/-- A log in memory: its cells, its marks. -/
structure LogAt (w : World) (l g cap p : Nat) (L : Wl.Lg) : Prop where
  blk : Blk w l 98 #[.pointer (some ⟨p, 0, none⟩), .int .i64 (L.fr : Int), .int .i64 (L.to : Int), .slice (some ⟨g, 0, none⟩) 64 cap, .int .i64 (L.n : Int), .int .i64 (L.next : Int), .bool L.failed]
  marks : Sect w g 5 1 L.m
  mlt : ∀ k, L.m k < 256
  big : 64 ≤ cap
  top : cap ≤ maxLen
namespace LogAt
variable {w w' : World} {l g cap p : Nat} {L : Wl.Lg}
theorem ne (h : LogAt w l g cap p L) : l ≠ g := by
  obtain ⟨C, hb, _⟩ := h.marks
  exact h.blk.ne_ hb (by decide)
theorem upd {T : Nat → Prop} (h : LogAt w l g cap p L) (hu : Upd T w w') (hl : ¬ T l) (hg : ¬ T g) : LogAt w' l g cap p L :=
  ⟨h.blk.upd hu hl, h.marks.upd hu hg, h.mlt, h.big, h.top⟩
theorem bytes (h : LogAt w l g cap p L) : Bytes w (some ⟨g, 0, none⟩) 64 (Wl.part L.m 0 64) :=
  ⟨Wl.part_len _ _ _, Wl.part_lt h.mlt _ _, fun _ => ⟨g, 0, rfl, h.marks.lt, fun k hk => by
    rw [Nat.zero_add, h.marks.cell (by omega), Wl.part_getD _ _ _ _ hk, Nat.zero_add]⟩⟩
end LogAt
theorem part_cut {w : World} {g o : Nat} {f : Nat → Nat} {i k : Nat} (h : Bytes w (some ⟨g, o, none⟩) (64 * k) (Wl.part f 0 (64 * k))) (hi : i < k) : Bytes w (some ⟨g, o + 64 * i, none⟩) 64 (Wl.part f (64 * i) 64) := by
  obtain ⟨h1, h2, h3⟩ := h
  refine ⟨Wl.part_len _ _ _, fun x hx => ?_, fun _ => ?_⟩
  · obtain ⟨j, hj, rfl⟩ := List.mem_map.1 hx
    have := List.mem_range.1 hj
    exact h2 _ (List.mem_map.2 ⟨64 * i + j, List.mem_range.2 (by omega), by rw [Nat.zero_add]⟩)
  · obtain ⟨b, o', e, hb, hc⟩ := h3 (by omega)
    cases e
    refine ⟨g, o + 64 * i, rfl, hb, fun j hj => ?_⟩
    have := hc (64 * i + j) (by omega)
    rw [Wl.part_getD _ _ _ _ (by omega)] at this
    rw [Wl.part_getD _ _ _ _ hj, Nat.add_assoc, this, Nat.zero_add]
theorem wrs_ok {D : Dk} {q k i : Nat} {f : Nat → Nat} (hi : i < k) (h : D.writeErr ((q + i : Nat) : Int) 64 = 0) : Wl.wrs D q f (k - i) i = Wl.wrs (D.write ((q + i : Nat) : Int) (Wl.part f (64 * i) 64)) q f (k - (i + 1)) (i + 1) := by
  obtain ⟨m, hm⟩ : ∃ m, k - i = m + 1 := ⟨k - i - 1, by omega⟩
  rw [hm, show k - (i + 1) = m by omega]
  show (if _ then _ else _) = _
  rw [if_pos h]
theorem wrs_bad {D : Dk} {q k i : Nat} {f : Nat → Nat} (hi : i < k) (h : D.writeErr ((q + i : Nat) : Int) 64 ≠ 0) : Wl.wrs D q f (k - i) i = (D.write ((q + i : Nat) : Int) (Wl.part f (64 * i) 64), D.writeErr ((q + i : Nat) : Int) 64) := by
  obtain ⟨m, hm⟩ : ∃ m, k - i = m + 1 := ⟨k - i - 1, by omega⟩
  rw [hm]
  show (if _ then _ else _) = _
  rw [if_neg h]
set_option maxRecDepth 100000 in
set_option maxHeartbeats 1000000 in
theorem lwrite_any (l p r s cr cs : Nat) (D : Dk) (q g o c : Nat) (f : Nat → Nat) (k : Nat) (w : World) (hl : w.cell? ⟨l, 0, none⟩ = some (.pointer (some ⟨p, 0, none⟩))) (hd : DiskAt w p r s cr cs D) (hlT : ¬ dT p r s l)
    (hb : Bytes w (some ⟨g, o, none⟩) (64 * k) (Wl.part f 0 (64 * k))) (hgT : ¬ dT p r s g) (hgl : g < w.heap.size) (hc : D.calls + k < 4611686018427387904) (hcap : 64 * k ≤ c) (hcm : c ≤ maxLen) (hq : q ≤ 4294967296) (hk : k ≤ 1048576) :
    Calls Try.prog 79 #[.pointer (some ⟨l, 0, none⟩), .int .i64 (q : Int), .slice (some ⟨g, o, none⟩) ((64 * k : Nat)) c] w fun e w' =>
      e = .returned (.int .i64 (Wl.wrs D q f k 0).2) ∧ DiskAt w' p r s cr cs (Wl.wrs D q f k 0).1 ∧ Upd (dT p r s) w w' := by
  have HL := Lib.hid hl
  have HD := Lib.hid hd
  have HB := Lib.hid hb
  have hll := lt_of_cell hl
  have HLL := Lib.hid hll
  have HGL := Lib.hid hgl
  have HLT := Lib.hid hlT
  have HGT := Lib.hid hgT
  have HC := Lib.hid hc
  have hcm' : c ≤ 9223372036854775807 := by unfold maxLen at hcm; omega
  have HCM := Lib.hid hcm
  clear hl hd hb hll hgl hlT hgT hc hcm
  go_enter Try.func79, Try.ntmps79
  go_wp2_with fail
  go_loopw [1, 2] (fun a v wr => ∃ (i n1 c1 a1 o1 : Nat) (D1 : Dk), a = .int .i64 (a1 : Int) ∧ v = .slice (some ⟨g, o1, none⟩) n1 c1 ∧ i ≤ k ∧ n1 = 64 * (k - i) ∧ c1 = c - 64 * i ∧ a1 = q + i ∧ (0 < n1 → o1 = o + 64 * i) ∧ Hid (DiskAt wr p r s cr cs D1 ∧ Upd (dT p r s) w wr ∧ Wl.wrs D q f k 0 = Wl.wrs D1 q f (k - i) i ∧ D1.calls ≤ D.calls + i)) (fun _ v _ => match v with | .slice _ n _ => n | _ => 0)
  case atStart => exact ⟨0, 64 * k, c, q, o, D, rfl, rfl, Nat.zero_le _, rfl, rfl, rfl, fun _ => rfl, Lib.hid ⟨HD.out, Upd.refl _ _, rfl, Nat.le_refl _⟩⟩
  case round =>
    obtain ⟨i, n1, c1, a1, o1, D1, rfl, rfl, hik, hn1, hc1, ha1, ho1, HI⟩ := hrel
    have k1 : wr.cell? ⟨l, 0, none⟩ = some (.pointer (some ⟨p, 0, none⟩)) := (HI.out.2.1.cell HLL.out HLT.out).trans HL.out
    by_cases hlt : i < k
    · have g0 : 0 < n1 := by omega
      have g1 : (64 : Int) ≤ (n1 : Int) := by omega
      have g2 : (64 : Int) ≤ (c1 : Int) := by omega
      have g3 : 64 ≤ c1 := by omega
      have ho2 := ho1 g0
      have HEQ := Lib.hid (And.intro hn1 (And.intro hc1 (And.intro ha1 ho2)))
      have HBI := Lib.hid (part_cut HB.out hlt)
      rw [← ho2] at HBI
      have HW := Lib.hid (Write_any p r s cr cs D1 (a1 : Int) (some ⟨g, o1, none⟩) 64 c1 _ wr.drew HI.out.1.drew (HBI.out.upd HI.out.2.1.drew (fun b o he _ => by cases he; exact HGT.out)) (fun b o he _ => by cases he; exact HGT.out) (by have := HI.out.2.2.2; have := HC.out; omega))
      obtain ⟨e, he⟩ : ∃ e, e = D1.writeErr (a1 : Int) 64 := ⟨_, rfl⟩
      rw [← he] at HW
      have hacap : a1 ≤ 8589934592 := by omega
      by_cases h0 : e = 0
      · subst h0
        have hst : Wl.wrs D q f k 0 = Wl.wrs (D1.write (a1 : Int) (Wl.part f (64 * i) 64)) q f (k - (i + 1)) (i + 1) := by
          rw [HI.out.2.2.1, ha1]; exact wrs_ok hlt (by rw [← ha1]; exact he.symm)
        have HST := Lib.hid hst
        clear hn1 hc1 ha1 ho1 ho2 hst he g3
        by_cases h64 : c1 = 64
        · subst h64
          go_wp2_with fail
          go_still_tail 7, (by kernel_rfl)
          change wpList _ _ _ _ _ wr.drew
          go_wp2_with fail
          go_at_call 34
          refine HW.out.mono ?_
          rintro ev w2 ⟨rfl, hd2, hu2⟩
          have HI2 := Lib.hid (And.intro hd2 (HI.out.2.1.drew.trans hu2))
          clear hd2 hu2
          go_wp2_with fail
          refine ⟨⟨i + 1, n1 - 64, 64 - 64, a1 + 1, o1, _, by go_num, by first | rfl | trivial, by omega, by have := HEQ.out; omega, by have := HEQ.out; omega, by have := HEQ.out; omega, fun h => by have := HEQ.out; omega, Lib.hid ⟨HI2.out.1, HI2.out.2, HST.out, by rw [Dk.write_calls]; have := HI.out.2.2.2; omega⟩⟩, ?_⟩
          show n1 - 64 < n1
          omega
        · go_wp2_with fail
          go_still_tail 7, (by kernel_rfl)
          change wpList _ _ _ _ _ wr.drew
          go_wp2_with fail
          go_at_call 34
          refine HW.out.mono ?_
          rintro ev w2 ⟨rfl, hd2, hu2⟩
          have HI2 := Lib.hid (And.intro hd2 (HI.out.2.1.drew.trans hu2))
          clear hd2 hu2
          go_wp2_with fail
          refine ⟨⟨i + 1, n1 - 64, c1 - 64, a1 + 1, o1 + 64, _, by go_num, by first | rfl | trivial, by omega, by have := HEQ.out; omega, by have := HEQ.out; omega, by have := HEQ.out; omega, fun h => by have := HEQ.out; omega, Lib.hid ⟨HI2.out.1, HI2.out.2, HST.out, by rw [Dk.write_calls]; have := HI.out.2.2.2; omega⟩⟩, ?_⟩
          show n1 - 64 < n1
          omega
      · have hst : Wl.wrs D q f k 0 = (D1.write (a1 : Int) (Wl.part f (64 * i) 64), e) := by
          rw [HI.out.2.2.1, he, ha1]; exact wrs_bad hlt (by rw [← ha1, ← he]; exact h0)
        have HST := Lib.hid hst
        have hq0 : (e == 0) = false := beq_eq_false_iff_ne.2 h0
        have hq1 : (e != 0) = true := by rw [bne, hq0]; rfl
        clear hn1 hc1 ha1 ho1 ho2 hst he g3 h0
        go_wp2_with fail
        go_still_tail 7, (by kernel_rfl)
        change wpList _ _ _ _ _ wr.drew
        go_wp2_with fail
        go_at_call 34
        refine HW.out.mono ?_
        rintro ev w2 ⟨rfl, hd2, hu2⟩
        have HI2 := Lib.hid (And.intro hd2 (HI.out.2.1.drew.trans hu2))
        clear hd2 hu2
        go_wp2_with fail
        go_ret
        rw [HST.out]
        exact ⟨rfl, HI2.out.1, HI2.out.2⟩
    · obtain rfl : n1 = 0 := by omega
      have HST : Hid (Wl.wrs D q f k 0 = (D1.flush, D1.flushErr)) := Lib.hid (by rw [HI.out.2.2.1, show k - i = 0 by omega]; rfl)
      have HF := Lib.hid (Flush_any p r s cr cs D1 wr HI.out.1 (by have := HI.out.2.2.2; have := HC.out; omega))
      obtain ⟨e, he⟩ : ∃ e, e = D1.flushErr := ⟨_, rfl⟩
      rw [← he] at HF HST
      clear hn1 hc1 ha1 ho1 he
      go_wp2_with fail
      go_at_call 36
      refine HF.out.mono ?_
      rintro ev w2 ⟨rfl, hd2, hu2⟩
      have HI2 := Lib.hid (And.intro hd2 (HI.out.2.1.trans hu2))
      clear hd2 hu2
      go_wp2_with fail
      go_ret
      rw [HST.out]
      exact ⟨rfl, HI2.out.1, HI2.out.2⟩
end Go.Proofs.Ytiiegimnnngnnaa
