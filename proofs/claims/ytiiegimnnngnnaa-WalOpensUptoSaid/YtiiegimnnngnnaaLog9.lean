/- wal: put, Append. -/
import Derived.Test.YtiiegimnnngnnaaLog8
namespace Go.Proofs.Ytiiegimnnngnnaa
open Go.RowKit
set_option linter.unusedVariables false

theorem part_self (l : List Nat) : Wl.part (fun k => l.getD k 0) 0 l.length = l := by
  apply List.ext_getElem?
  intro j
  rcases Nat.lt_or_ge j l.length with h | h
  · rw [Wl.part_get _ _ _ _ h, List.getElem?_eq_getElem h]
    simp [List.getD_eq_getElem?_getD, h]
  · rw [List.getElem?_eq_none (by rw [Wl.part_len]; exact h), List.getElem?_eq_none h]
theorem wrs_calls (p : Nat) (f : Nat → Nat) : ∀ (k i : Nat) (D : Dk), (Wl.wrs D p f k i).1.calls ≤ D.calls + k + 1
  | 0, i, D => by show D.flush.calls ≤ _; rw [D.flush_calls]; omega
  | k + 1, i, D => by
    unfold Wl.wrs
    split
    · refine Nat.le_trans (wrs_calls p f k (i + 1) _) ?_
      rw [Dk.write_calls]; omega
    · show (D.write _ _).calls ≤ _
      rw [Dk.write_calls]; omega
theorem upd_new {T : Nat → Prop} {w w1 : World} (h : Below w.drew.heap.size w.drew w1) : Upd T w w1 := ⟨h.os, h.tape, h.output, h.size, fun k hk _ => h.block k hk⟩
theorem or_mark (x n : Nat) (hx : x < 256) : bits .or .u8 (x : Int) (2 ^ (7 - n % 8) % 256) = ((x ||| 2 ^ (7 - n % 8) : Nat) : Int) := by
  have h2 : 2 ^ (7 - n % 8) < 256 := Nat.pow_lt_pow_right (n := 8) (by decide) (by omega)
  have e : ((2 : Int) ^ (7 - n % 8) % 256) = ((2 ^ (7 - n % 8) : Nat) : Int) := by
    have e1 : ((2 : Int) ^ (7 - n % 8)) = ((2 ^ (7 - n % 8) : Nat) : Int) := by norm_cast
    rw [e1]
    generalize 2 ^ (7 - n % 8) = y at *
    omega
  rw [e, u8_or_nat _ _ hx h2]
/-- Blocks of a disk, and of a log's marks. -/
def lT (p r s g : Nat) : Nat → Prop := fun k => dT p r s k ∨ k = g
set_option maxRecDepth 100000 in
set_option maxHeartbeats 1000000 in
theorem lput_any (l g cap p r s cr cs : Nat) (D : Dk) (L : Wl.Lg) (A : Option Addr) (n c : Nat) (b : List Nat) (w : World) (hl : LogAt w l g cap p L) (hd : DiskAt w p r s cr cs D) (hlT : ¬ dT p r s l) (hgT : ¬ dT p r s g)
    (hb : Bytes w A n b) (hn : n ≤ 8192) (hc : D.calls + 200 < 4611686018427387904) (hm : L.n < 512) (hnx : L.next ≤ 4096) (hfr : L.fr ≤ 4096) :
    Calls Try.prog 72 #[.pointer (some ⟨l, 0, none⟩), .slice A n c] w fun e w' =>
      e = .returned (.int .i64 (Wl.put D L b).2.2) ∧ DiskAt w' p r s cr cs (Wl.put D L b).1 ∧ LogAt w' l g cap p (Wl.put D L b).2.1 ∧ Upd (lT p r s g) w w' := by
  have hbl := hb.1
  have hlt := hd.lt
  have hll := hl.blk.lt
  have hgl := hl.marks.lt
  have hlg := hl.ne
  have c5 : w.drew.cell? ⟨l, 5, none⟩ = some (.int .i64 (L.next : Int)) := hl.blk.cell 5
  have c5' : w.cell? ⟨l, 5, none⟩ = some (.int .i64 (L.next : Int)) := hl.blk.cell 5
  have HPUT := Lib.hid (put_any A n c b w.drew (hb.below ⟨rfl, rfl, rfl, Nat.le_refl _, fun _ _ => rfl⟩) hn)
  have hbin : (Wl.bin b).length = 64 * Wl.need n := by rw [Wl.bin_len (by omega), hbl]
  obtain ⟨kn, hkn⟩ : ∃ kn, kn = Wl.need n := ⟨_, rfl⟩
  have hnd := Wl.need_ge hn
  rw [← hkn] at hnd hbin
  obtain ⟨f, hf⟩ : ∃ f : Nat → Nat, f = fun k => (Wl.bin b).getD k 0 := ⟨_, rfl⟩
  have hpart : Wl.part f 0 (64 * kn) = Wl.bin b := by rw [hf, ← hbin]; exact part_self _
  have hb8 : ∀ x ∈ Wl.bin b, x < 256 := Wl.bin_lt hb.2.1
  have HL := Lib.hid hl
  have HD := Lib.hid hd
  have HLT := Lib.hid hlT
  have HGT := Lib.hid hgT
  have HBIN := Lib.hid hbin
  have HPART := Lib.hid hpart
  have HB8 := Lib.hid hb8
  have HLTS := Lib.hid hlt
  obtain ⟨q1, hq1⟩ : ∃ q, q = Wl.wrs D L.next f kn 0 := ⟨_, rfl⟩
  have hcalls : q1.1.calls ≤ D.calls + kn + 1 := by rw [hq1]; exact wrs_calls _ _ _ _ _
  have HW := Lib.hid (fun (W : World) (hW : Upd (dT p r s) w W) (g1 o1 c1 : Nat) (hy : Bytes W (some ⟨g1, o1, none⟩) (64 * kn) (Wl.part f 0 (64 * kn))) (hg1 : w.heap.size ≤ g1) (hc1 : 64 * kn ≤ c1) (hc2 : c1 ≤ maxLen) (hdW : DiskAt W p r s cr cs D) =>
    lwrite_any l p r s cr cs D L.next g1 o1 c1 f kn W ((hW.cell hll hlT).trans (hl.blk.cell 0)) hdW hlT hy (by unfold dT; omega) (by obtain ⟨b', o', e, hb', _⟩ := hy.2.2 (by omega); cases e; exact hb') (by omega) hc1 hc2 (by omega) (by omega))
  simp only [← hq1] at HW
  have hput : Wl.put D L b = if q1.2 = 0 then ((Wl.wrs q1.1 L.fr (Wl.setMark L.m L.n) 1 0).1, { L with m := Wl.setMark L.m L.n }, (Wl.wrs q1.1 L.fr (Wl.setMark L.m L.n) 1 0).2) else (q1.1, L, q1.2) := by
    unfold Wl.put
    rw [hbl, ← hkn, hq1, hf]
  have HQ := Lib.hid hq1
  clear hl hd hlT hgT hbin hpart hb8 hf hkn hq1 hlt
  obtain ⟨D1, e1⟩ := q1
  simp only at hcalls hput HW
  by_cases h0 : e1 = 0
  · subst h0
    rw [if_pos rfl] at hput
    rw [hput]
    clear hput
    obtain ⟨m2, hm2⟩ : ∃ m2, m2 = Wl.setMark L.m L.n := ⟨_, rfl⟩
    rw [← hm2]
    obtain ⟨q2, hq2⟩ : ∃ q2, q2 = Wl.wrs D1 L.fr m2 1 0 := ⟨_, rfl⟩
    rw [← hq2]
    have HM2 := Lib.hid hm2
    have HQ2 := Lib.hid hq2
    clear hm2 hq2
    obtain ⟨D2, e2⟩ := q2
    simp only
    obtain ⟨nn, hnn⟩ : ∃ nn, nn = L.n := ⟨_, rfl⟩
    obtain ⟨x, hx⟩ : ∃ x, x = L.m (nn / 8) := ⟨_, rfl⟩
    have hx8 : x < 256 := by rw [hx]; exact HL.out.mlt _
    have HX := Lib.hid hx
    have HNN := Lib.hid hnn
    rw [← hnn] at hm
    clear hx hnn
    go_enter Try.func72, Try.ntmps72
    go_wp2_with fail
    go_region_held3 (fun W => W.cell? ⟨l, 5, none⟩ = some (.int .i64 (L.next : Int)))
      (first | assumption)
      (first
        | (go_at_call 78
           refine HPUT.out.mono ?_
           rintro e w1 ⟨v1, rfl, ho1, hb1⟩
           have hcc : w1.cell? ⟨l, 5, none⟩ = some (.int .i64 (L.next : Int)) := (hb1.cell hll).trans c5
           obtain ⟨A1, c1, rfl, hy1, hcy1, hcm1, hnn1, hlo1⟩ := ho1.bytes HB8.out
           rw [HBIN.out] at hy1 hcy1 ⊢
           rw [← HPART.out] at hy1
           obtain ⟨g1, o1, rfl, hg1, _⟩ := hy1.2.2 (by omega)
           have hu1 : Upd (dT p r s) w w1 := upd_new hb1
           have HW1 := Lib.hid (HW.out w1 hu1 g1 o1 c1 hy1 (hlo1 g1 o1 rfl) hcy1 hcm1 (HD.out.drew.below hb1))
           have HU1 := Lib.hid hu1
           clear ho1 hb1 hy1 hcy1 hcm1 hnn1 hlo1 hu1)
        | (go_at_call 79
           refine HW1.out.mono ?_
           rintro e w2 ⟨rfl, hd2, hu2⟩
           have hcc2 : w2.cell? ⟨l, 5, none⟩ = some (.int .i64 (L.next : Int)) := (hu2.cell (Nat.lt_of_lt_of_le hll HU1.out.size) HLT.out).trans hcc
           have HD2 := Lib.hid hd2
           have HU2 := Lib.hid (HU1.out.trans hu2)
           clear hd2 hu2))
    have hl2 := HL.out.upd HU2.out HLT.out HGT.out
    have k0 : w2.cell? ⟨l, 0, none⟩ = some (.pointer (some ⟨p, 0, none⟩)) := hl2.blk.cell 0
    have k1 : w2.cell? ⟨l, 1, none⟩ = some (.int .i64 (L.fr : Int)) := hl2.blk.cell 1
    have k3 : w2.cell? ⟨l, 3, none⟩ = some (.slice (some ⟨g, 0, none⟩) 64 cap) := hl2.blk.cell 3
    have k4 : w2.cell? ⟨l, 4, none⟩ = some (.int .i64 (nn : Int)) := by rw [HNN.out]; exact hl2.blk.cell 4
    have kg : w2.cell? ⟨g, nn / 8, none⟩ = some (.int .u8 (x : Int)) := by rw [HX.out]; exact hl2.marks.cell (by omega)
    have fg : w2.frozen? ⟨g, nn / 8, none⟩ = false := hl2.marks.frozen _
    have i1 : (0 : Int) ≤ (nn : Int) / 8 := by omega
    have i2 : (nn : Int) / 8 < 64 := by omega
    have w1' : IntKind.i64.wrap ((nn : Int) / 8) = (nn : Int) / 8 := by rw [IntKind.wrap_i64]; omega
    have w2' : IntKind.i64.wrap ((nn : Int) % 8) = (nn : Int) % 8 := by rw [IntKind.wrap_i64]; omega
    have w3' : IntKind.i64.wrap (7 - (nn : Int) % 8) = 7 - (nn : Int) % 8 := by rw [IntKind.wrap_i64]; omega
    have w0' : (nn : Int).tmod 8 = (nn : Int) % 8 := Int.tmod_eq_emod_of_nonneg (by omega)
    have i3 : (0 : Int) ≤ 7 - (nn : Int) % 8 := by omega
    have i4 : ((nn : Int) / 8).toNat = nn / 8 := by omega
    have HL2 := Lib.hid hl2
    clear hl2 hcc hcc2 c5 c5'
    go_wp2_with fail
    go_still_tail 20, (by kernel_rfl)
    change wpList _ _ _ _ _ w2.drew
    go_wp2_with fail
    have e8 := or_mark x nn hx8
    rw [e8]
    obtain ⟨W3, hW3⟩ : ∃ W3, W3 = (w2.setCell ⟨g, nn / 8, none⟩ (.int .u8 ((x ||| 2 ^ (7 - nn % 8) : Nat) : Int))).drew := ⟨_, rfl⟩
    rw [← hW3]
    have hu3 : Upd (fun k => k = g) w2 W3 := by rw [hW3]; exact ((Upd.refl (fun k => k = g) w2).setCell (p := ⟨g, nn / 8, none⟩) (.inl rfl) _).drew
    have hl3 : LogAt W3 l g cap p { L with m := m2 } := by
      refine ⟨HL2.out.blk.upd hu3 (fun e => hlg e), ?_, fun k => by rw [HM2.out]; exact Wl.setMark_lt HL2.out.mlt _ _, HL2.out.big, HL2.out.top⟩
      rw [hW3]
      refine (HL2.out.marks.set (nn / 8) (x ||| 2 ^ (7 - nn % 8))).drew.congr fun i hi => ?_
      show (if i = nn / 8 then x ||| 2 ^ (7 - nn % 8) else L.m i) = m2 i
      rw [HM2.out, HX.out, HNN.out]
      unfold Wl.setMark
      by_cases e : i = L.n / 8
      · rw [if_pos e, if_pos e, e]
      · rw [if_neg e, if_neg e]
    have hgd : ¬ dT p r s g := HGT.out
    have hd3 : DiskAt W3 p r s cr cs D1 := HD2.out.upd hu3 (fun e => hgd (by rw [← e]; exact .inl rfl)) (fun e => hgd (by rw [← e]; exact .inr (.inl rfl))) (fun e => hgd (by rw [← e]; exact .inr (.inr rfl)))
    have k0 : W3.cell? ⟨l, 0, none⟩ = some (.pointer (some ⟨p, 0, none⟩)) := hl3.blk.cell 0
    have k1 : W3.cell? ⟨l, 1, none⟩ = some (.int .i64 (L.fr : Int)) := hl3.blk.cell 1
    have k3 : W3.cell? ⟨l, 3, none⟩ = some (.slice (some ⟨g, 0, none⟩) 64 cap) := hl3.blk.cell 3
    have hw5 := lwrite_any l p r s cr cs D1 L.fr g 0 cap m2 1 W3.drew k0 hd3.drew HLT.out hl3.bytes hgd hl3.marks.lt (by omega) hl3.big hl3.top (by omega) (by omega)
    rw [← HQ2.out] at hw5
    have HW5 := Lib.hid hw5
    have HU3 := Lib.hid (HU2.out.mono (T' := lT p r s g) (fun k _ h => .inl h) |>.trans (hu3.mono (fun k _ h => .inr h)))
    have HL3 := Lib.hid hl3
    clear e8 hu3 hl3 hd3 hw5 hW3 kg fg k4 w0' w1' w2' w3' i1 i2 i3 i4
    go_still_tail 9, (by kernel_rfl)
    change wpList _ _ _ _ _ W3.drew
    go_wp2_with fail
    go_at_call 79
    refine HW5.out.mono ?_
    rintro e w6 ⟨rfl, hd6, hu6⟩
    have HD6 := Lib.hid (And.intro hd6 hu6)
    clear hd6 hu6
    go_wp2_with fail
    go_ret
    exact ⟨rfl, HD6.out.1, HL3.out.upd (Upd.trans ((Upd.refl _ W3).drew) HD6.out.2) HLT.out hgd, HU3.out.trans (Upd.trans ((Upd.refl _ W3).drew) (HD6.out.2.mono (fun k _ h => .inl h)))⟩
  · rw [if_neg h0] at hput
    rw [hput]
    have hq0 : (e1 == 0) = false := beq_eq_false_iff_ne.2 h0
    have hq2 : (e1 != 0) = true := by rw [bne, hq0]; rfl
    clear hput h0
    go_enter Try.func72, Try.ntmps72
    go_wp2_with fail
    go_region_held3 (fun W => W.cell? ⟨l, 5, none⟩ = some (.int .i64 (L.next : Int)))
      (first | assumption)
      (first
        | (go_at_call 78
           refine HPUT.out.mono ?_
           rintro e w1 ⟨v1, rfl, ho1, hb1⟩
           have hcc : w1.cell? ⟨l, 5, none⟩ = some (.int .i64 (L.next : Int)) := (hb1.cell hll).trans c5
           obtain ⟨A1, c1, rfl, hy1, hcy1, hcm1, hnn1, hlo1⟩ := ho1.bytes HB8.out
           rw [HBIN.out] at hy1 hcy1 ⊢
           rw [← HPART.out] at hy1
           obtain ⟨g1, o1, rfl, hg1, _⟩ := hy1.2.2 (by omega)
           have hu1 : Upd (dT p r s) w w1 := upd_new hb1
           have HW1 := Lib.hid (HW.out w1 hu1 g1 o1 c1 hy1 (hlo1 g1 o1 rfl) hcy1 hcm1 (HD.out.drew.below hb1))
           have HU1 := Lib.hid hu1
           clear ho1 hb1 hy1 hcy1 hcm1 hnn1 hlo1 hu1)
        | (go_at_call 79
           refine HW1.out.mono ?_
           rintro e w2 ⟨rfl, hd2, hu2⟩
           have hcc2 : w2.cell? ⟨l, 5, none⟩ = some (.int .i64 (L.next : Int)) := (hu2.cell (Nat.lt_of_lt_of_le hll HU1.out.size) HLT.out).trans hcc
           have HD2 := Lib.hid hd2
           have HU2 := Lib.hid (HU1.out.trans hu2)
           clear hd2 hu2))
    go_wp2_with fail
    go_ret
    exact ⟨rfl, HD2.out, HL.out.upd HU2.out HLT.out HGT.out, HU2.out.mono (fun k _ h => .inl h)⟩
end Go.Proofs.Ytiiegimnnngnnaa
