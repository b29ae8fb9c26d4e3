/- WalOpens: the walk. -/
import Derived.Test.YtiiegimnnngnnaaLog11
import Derived.Test.YtiiegimnnngnnaaRows3
import Derived.Test.YtiiegimnnngnnaaLog14
import Derived.Test.YtiiegimnnngnnaaLaid
import Derived.Test.YtiiegimnnngnnaaAll
import Derived.Test.YtiiegimnnngnnaaInts
import Derived.IntWalk
import Derived.Deep.DeepCutAuto
import Derived.Deep.CutBlock
import Derived.Deep.Cut
namespace Go.Proofs.Ytiiegimnnngnnaa
open Go.RowKit
set_option linter.unusedVariables false

theorem u64_wr (x : Int) : IntKind.u64.wrap x = x % 18446744073709551616 := by
  simp [IntKind.wrap, IntKind.signed, IntKind.bits]
theorem mod_u64 (m : Nat) (h0 : 1 ≤ m) (h1 : m ≤ 1000000000) (x : Int) : ∃ N : Nat, N < m ∧ (IntKind.u64.wrap x).tmod m = (N : Int) ∧ wrap64 ((IntKind.u64.wrap x).tmod m) = (N : Int) := by
  rw [u64_wr, Int.tmod_eq_emod_of_nonneg (Int.emod_nonneg _ (by decide))]
  have a0 := Int.emod_nonneg (x % 18446744073709551616) (b := (m : Int)) (by omega)
  have a1 := Int.emod_lt_of_pos (x % 18446744073709551616) (b := (m : Int)) (by omega)
  generalize x % 18446744073709551616 % (m : Int) = y at *
  exact ⟨y.toNat, by omega, by omega, by rw [IntWalk.wrap64_in y ⟨by omega, by omega⟩]; omega⟩
theorem own_of_blk {w : World} {base g cap m : Nat} {e : TypeId} {xs : List Value} (h : Blk w g e xs.toArray) (hb : base ≤ g) (hm : xs.length = m) (hc : m = cap) (hx : cap ≤ maxLen) : w.ownsRow base e 1 (.slice (some ⟨g, 0, none⟩) m cap) m xs := by
  subst hc
  exact ⟨by omega, .inr ⟨g, m, xs.toArray, rfl, hb, h, Nat.le_refl _, hx, by simp [hm], by simp [← hm]⟩⟩
theorem own_set {w : World} {base g c m i y : Nat} {bs : List Nat} (h : w.ownsRow base 5 1 (.slice (some ⟨g, 0, none⟩) m c) m (bs.map fun x => Value.int .u8 ((x : Nat) : Int))) :
    (w.setCell ⟨g, i, none⟩ (.int .u8 ((y : Nat) : Int))).ownsRow base 5 1 (.slice (some ⟨g, 0, none⟩) m c) m ((bs.set i y).map fun x => Value.int .u8 ((x : Nat) : Int)) := by
  refine ⟨by have := h.1; simpa using this, ?_⟩
  rcases h.2 with ⟨h0, _⟩ | ⟨g', cap, cur, hv, hb, hg, h1, h2, h3, h4⟩
  · cases h0
  · cases hv
    refine .inr ⟨g, c, cur.setIfInBounds i (.int .u8 ((y : Nat) : Int)), rfl, hb, Blk.set_ hg i _, h1, h2, by simpa using h3, ?_⟩
    rw [Array.toList_setIfInBounds, List.take_set, h4, List.map_set]
/-- The area under way: a row of bytes of the call's own. -/
structure Ar (W0 : Nat) (w : World) (A : Option Addr) (c m : Nat) (bs : List Nat) : Prop where
  own : w.ownsRow W0 5 1 (.slice A m c) m (bs.map fun x => Value.int .u8 ((x : Nat) : Int))
  lt : ∀ x ∈ bs, x < 256
theorem Ar.len {W0 : Nat} {w : World} {A : Option Addr} {c m : Nat} {bs : List Nat} (h : Ar W0 w A c m bs) : bs.length = m := by have := h.own.1; simpa using this
theorem Ar.bytes {W0 : Nat} {w : World} {A : Option Addr} {c m : Nat} {bs : List Nat} (h : Ar W0 w A c m bs) : Bytes w A m bs ∧ m ≤ c ∧ c ≤ maxLen := by
  have hl := h.len
  obtain ⟨A', c', hv, h1, h2, h3, _⟩ := Own.bytes (w := w) (base := W0) (v := .slice A m c) (bs := bs) (by unfold Own; rw [hl]; exact h.own) h.lt
  rw [hl] at hv h1 h2
  cases hv
  exact ⟨h1, h2, h3⟩
theorem Open_bad (p r s cr cs : Nat) (D : Dk) (fr tt : Int) (w : World) (h : DiskAt w p r s cr cs D) (ha : isArea D.n fr tt = false) :
    Calls Try.prog 49 #[.pointer (some ⟨p, 0, none⟩), .int .i64 fr, .int .i64 tt] w fun e w' => e = .returned (.tuple #[.pointer none, .slice none 0 0, .int .i64 1]) ∧ w = w' := by
  have h1 := area_any p r s cr cs D fr tt w h
  rw [ha] at h1
  have HA := Lib.hid h1
  clear h1 h ha
  go_enter Try.func49, Try.ntmps49
  go_wp2_with (go_at_call 69; refine HA.out.mono ?_; rintro e w' ⟨rfl, rfl⟩)
  go_ret3
  exact ⟨rfl, rfl⟩
theorem rowPick {w : World} {A : Option Addr} {c : Nat} {L : List (List Nat)} (h : RowsAt w (.slice A L.length c) L) {j : Nat} (hj : j < L.length) : ∃ g o Aj cj, A = some ⟨g, o, none⟩ ∧ w.cell? ⟨g, o + j, none⟩ = some (.slice Aj (L[j]).length cj) ∧ (L[j]).length ≤ cj ∧ cj ≤ maxLen ∧ Bytes w Aj (L[j]).length L[j] := by
  obtain ⟨A', cap, hv, _, _, h3⟩ := h
  cases hv
  obtain ⟨g, o, Aj, cj, k0, k1, k2, k3, k4⟩ := h3 j hj
  exact ⟨g, o, Aj, cj, k0, k1, k2, k3, k4⟩
set_option maxRecDepth 100000 in
set_option maxHeartbeats 4000000 in
theorem walOpens_any (Ab : Option Addr) (lb cb : Nat) (bb : List Nat) (vr : Value) (L : List (List Nat)) (Am : Option Addr) (lm cm : Nat) (ms : List Nat) (vz : Value) (zs : List Int) (x : Nat) (fr tt : Int) (w : World)
    (hb : Bytes w Ab lb bb) (hbc : lb ≤ cb) (hbm : cb ≤ maxLen) (hr : RowsAt w vr L) (hL : L.length ≤ 1048576) (hm : Bytes w Am lm ms) (hz : IntsAt w vz zs) (hx : x < 256)
    (f0 : -9223372036854775808 ≤ fr) (f1 : fr ≤ 9223372036854775807) (t0 : -9223372036854775808 ≤ tt) (t1 : tt ≤ 9223372036854775807) (hzl : zs.length ≤ 1048576) :
    Calls Try.prog 17 #[.slice Ab lb cb, vr, .slice Am lm cm, vz, .int .u8 (x : Int), .int .i64 fr, .int .i64 tt] w fun e w' => e = .returned (.bool true) ∧ Below w.heap.size w w' := by
  obtain ⟨i0, hi0, hz0, hz1, hz2⟩ := info_parts byte_row
  have HBB := Lib.hid hb
  have HR := Lib.hid hr.far
  have HMS := Lib.hid hm
  have HZ := Lib.hid hz
  obtain ⟨AZ, cZ, rfl, _⟩ := hz
  have hmk : ∀ W : World, (Instr.makeSlice 22 (.int .i64 64) (.int .i64 64)).run Try.prog W = .ok (.slice (some ⟨W.heap.size, 0, none⟩) 64 64) (W.alloc (.cells (noughts 64) 5)) := make_bytes 64 (by omega)
  have hal : Below w.heap.size w (w.alloc (.cells (noughts 64) 5)) := (Below.refl _ _).alloc (Nat.le_refl _) _
  have HAL := Lib.hid hal
  have HZ0 : Hid (Blk (w.alloc (.cells (noughts 64) 5)) w.heap.size 5 (noughts 64)) := Lib.hid (Blk.new _ _ _)
  have HMP := Lib.hid (bytes_part (hm.below hal))
  have HMF : Hid (∀ k, 0 + lm ≤ k → ms.getD k 0 = 0) := Lib.hid (fun k hk => getD_past (by rw [hm.1]; omega))
  have HML : Hid (∀ k, ms.getD k 0 < 256) := Lib.hid (fun k => hm.lt k)
  have HCB := Lib.hid (And.intro hbc hbm)
  clear hb hr hm hal hbc hbm
  go_enter Try.func17, Try.ntmps17
  go_wp2_with (refine wpList_copy64 rfl (.tmp 32) (.tmp 33) rfl w.heap.size Am lm cm rfl rfl HZ0.out (fun k => ms.getD k 0) 0 HMP.out HMF.out HML.out w.heap.size w HAL.out (Nat.le_refl _) ?_; intro w2 v2 _ HG2 hb2; have HB2 := Lib.hid hb2; clear hb2 HZ0 HMP HAL)
  have HR2 := Lib.hid (HR.out.upd (Upd.of_below HB2.out (T := fun k => w.heap.size ≤ k) (fun _ _ h => h)) (fun k h1 _ h2 => by have h2' : w.heap.size ≤ k := h2; omega))
  have HSM := Lib.hid (small_any _ vr L w2 HR2.out (fun k h => Nat.lt_of_lt_of_le h HB2.out.size) (by omega))
  have HAR2 : Hid (Ar w.heap.size w2 (some ⟨w.heap.size, 0, none⟩) 64 64 (Wl.part (fun k => ms.getD k 0) 0 64)) := Lib.hid ⟨own_of_blk HG2.out (Nat.le_refl _) (by rw [List.length_map, Wl.part_len]) rfl (by unfold maxLen; omega), Wl.part_lt HML.out _ _⟩
  clear HR HR2 HG2
  go_at_call 51
  refine HSM.out.mono ?_
  rintro e w3 ⟨vP, rfl, hr3, hb3⟩
  obtain ⟨P, hPP⟩ : ∃ P, P = smallL L 0 := ⟨_, rfl⟩
  have hP20 : P.length ≤ 20 := by rw [hPP]; exact smallL_len L 0
  have HP3 : Hid (∀ b ∈ P, b.length ≤ 300) := Lib.hid (fun b hb => by rw [hPP] at hb; exact (smallL_mem L 0 b hb).1)
  rw [← hPP] at hr3
  have HB3 := Lib.hid (HB2.out.trans (hb3.mono HB2.out.size))
  have HAR3 : Hid (Ar w.heap.size w3 (some ⟨w.heap.size, 0, none⟩) 64 64 (Wl.part (fun k => ms.getD k 0) 0 64)) := Lib.hid ⟨own_later HAR2.out.own hb3, HAR2.out.lt⟩
  obtain ⟨AP, cP, rfl, _⟩ := id hr3
  obtain ⟨s0, hs0⟩ : ∃ s0, s0 = w2.heap.size := ⟨_, rfl⟩
  obtain ⟨s2, hs2⟩ : ∃ s2, s2 = w3.heap.size := ⟨_, rfl⟩
  obtain ⟨W0, hW0⟩ : ∃ W0, W0 = w.heap.size := ⟨_, rfl⟩
  have hsz : W0 < s0 ∧ s0 ≤ s2 := by
    have h1 := HAR2.out.own.lt _ rfl
    have h2 := hb3.size
    rw [hs0, hs2, hW0]
    exact ⟨h1.2, h2⟩
  rw [← hs0, ← hs2, ← hW0] at hr3
  have HRP := Lib.hid hr3
  have HT3 := Lib.hid (Nat.le_of_eq hs2)
  have hW : Hid (∀ {W : World}, Below W0 w W → Below w.heap.size w W) := Lib.hid (fun h => by rw [← hW0]; exact h)
  rw [← hW0] at HAR3 HB3 ⊢
  clear hPP hb3 hs0 hs2 HAR2 HSM hr3 HB2 hW0
  go_wp2_with fail
  go_loopw [15, 38] (fun a t wr => ∃ (m i : Nat) (A : Option Addr) (c : Nat) (bs : List Nat), a = .slice A m c ∧ t = .int .i64 (i : Int) ∧ Hid (Ar W0 wr A c m bs) ∧ Hid (∀ k, (Value.slice A m c).ownBlock = some k → ¬ (k < W0 ∨ (s0 ≤ k ∧ k < s2))) ∧ Hid (RowsT wr (fun k => k < W0 ∨ (s0 ≤ k ∧ k < s2)) (.slice AP P.length cP) P) ∧ Hid (Below W0 w wr) ∧ Hid (s2 ≤ wr.heap.size) ∧ i ≤ P.length ∧ 64 ≤ m ∧ m ≤ 64 + 320 * i) (fun _ t _ => P.length - (match t with | .int _ x => x.toNat | _ => 0))
  case atStart => exact ⟨64, 0, _, _, _, rfl, rfl, HAR3, Lib.hid (fun k hk => by have e : W0 = k := by simpa [Value.ownBlock] using hk
                                                                                 omega), HRP, HB3, HT3, Nat.zero_le _, Nat.le_refl _, by omega⟩
  case round =>
    obtain ⟨m, i, A, c, bs, rfl, rfl, HAR, HNO, HRT, HB, HTP, hi, hm1, hm2⟩ := hrel
    clear HAR3 HRP HB3 HT3
    by_cases hlt : i < P.length
    · obtain ⟨g, o, Aj, cj, hAP, k1, k2, k3, k4⟩ := rowPick HRT.out.at hlt
      obtain ⟨b, hb⟩ : ∃ b, b = P[i] := ⟨_, rfl⟩
      have hb300 : b.length ≤ 300 := by rw [hb]; exact HP3.out _ (List.getElem_mem hlt)
      rw [← hb] at k1 k2 k4
      subst hAP
      have i1 : (i : Int) < (P.length : Int) := by omega
      have HREC := Lib.hid (RefRecord_any Aj b.length cj b wr k4 (by omega))
      obtain ⟨q, hq⟩ : ∃ q, q = (Wl.bin b).length := ⟨_, rfl⟩
      have hq3 : q ≤ 320 := by
        rw [hq, Wl.bin_len (by omega)]
        unfold Wl.need
        rw [if_pos (by omega)]
        omega
      have HBLT : Hid (∀ x ∈ Wl.bin b, x < 256) := Lib.hid (Wl.bin_lt k4.2.1)
      have HQ := Lib.hid hq
      clear hb k2 k3 k4 hq
      go_wp2_with fail
      go_at_call 53
      refine HREC.out.mono ?_
      rintro e w4 ⟨v4, rfl, ho4, hb4⟩
      obtain ⟨A4, c4, rfl, hy4, _⟩ := ho4.bytes HBLT.out
      rw [← HQ.out] at hy4 ⊢
      have HY4 := Lib.hid hy4
      have HB4 := Lib.hid (HB.out.trans (hb4.mono (Nat.le_trans (by omega) HTP.out)))
      have HO4 := Lib.hid (own_later HAR.out.own hb4)
      have HR4 := Lib.hid (HRT.out.upd (Upd.of_below hb4 (T := fun k => wr.heap.size ≤ k) (fun _ _ h => h)) (fun k h1 _ h2 => by have h2' : wr.heap.size ≤ k := h2; have := HTP.out; omega))
      have HT4 := Lib.hid (Nat.le_trans HTP.out hb4.size)
      have HW4 : Hid (W0 ≤ w4.heap.size) := Lib.hid (by have := HT4.out; omega)
      clear ho4 hy4 hb4 k1
      go_wp2_with (at_builtin; refine wpList_append_any _ rfl (.tmp 42) (.tmp 44) _ rfl W0 5 i0 _ 1 1 Try.underlying22 hi0 hz0 hz1 hz2 rfl (by omega) _ m _ rfl HO4.out w4.heap.size A4 q c4 _ rfl HY4.out.reads (bytes_one _) (by unfold maxLen; omega) (by omega) HW4.out ?_; intro v5 w5 hown5 hg5 hat5; have HU5 : Hid (Upd (fun k => (Value.slice A m c).ownBlock = some k) w4 w5) := Lib.hid ((Upd.refl _ w4).grown hg5 (fun k hk => .inl hk)); have HN5 : Hid (∀ k, v5.ownBlock = some k → ¬ (k < W0 ∨ (s0 ≤ k ∧ k < s2))) := Lib.hid (fun k hk => by rcases hat5 with h | h; (· exact HNO.out k (h.symm.trans hk)); (· rw [h] at hk; have e : w4.heap.size = k := Option.some.inj hk; have := HT4.out; have := HW4.out; omega)); rw [← List.map_append] at hown5; have HO5 := Lib.hid hown5; obtain ⟨A5, c5, rfl⟩ := own_shape hown5; clear hown5 hg5 hat5)
      have HA5 : Hid (Ar W0 w5 A5 c5 (m + q) (bs ++ Wl.bin b)) := Lib.hid ⟨HO5.out, fun x hx => by
        rcases List.mem_append.1 hx with h | h
        · exact HAR.out.lt x h
        · exact HBLT.out x h⟩
      have HR5 := Lib.hid (HR4.out.upd HU5.out (fun k h1 _ h2 => HNO.out k h2 h1))
      have HB5 := Lib.hid (HB4.out.trans (HU5.out.below (fun k hk => Nat.not_lt.1 fun h => HNO.out k hk (.inl h)) HW4.out))
      refine ⟨⟨m + q, i + 1, A5, c5, _, rfl, by go_num, HA5, HN5, HR5, HB5, Lib.hid (Nat.le_trans HT4.out HU5.out.size), by omega, by omega, by omega⟩, ?_⟩
      show P.length - ((i : Int) + 1).toNat < P.length - (i : Int).toNat
      omega
    · have HAR4 := HAR
      have HB4 := HB
      have hm4 : m ≤ 6464 := by omega
      have HTP4 := Lib.hid (show W0 ≤ wr.heap.size by have := HTP.out; omega)
      clear HAR HB HNO HRT HTP HP3
      go_wp2_with fail
      go_loopw [49] (fun t wr => ∃ (i : Nat) (bs : List Nat), t = .int .i64 (i : Int) ∧ Hid (Ar W0 wr A c m bs) ∧ Hid (Below W0 w wr) ∧ Hid (W0 ≤ wr.heap.size) ∧ i ≤ zs.length) (fun t _ => zs.length - (match t with | .int _ x => x.toNat | _ => 0))
      case atStart => exact ⟨0, bs, rfl, HAR4, HB4, HTP4, Nat.zero_le _⟩
      case round =>
        clear HAR4 HB4 HTP4 hm2 hlt hi
        obtain ⟨i, bs, rfl, HAR, HB, HTP, hi⟩ := hrel
        by_cases hlt : i < zs.length
        · obtain ⟨_, _, hvz, hif⟩ := HZ.out.below (hW.out HB.out)
          cases hvz
          obtain ⟨gz, oz, hAZ, kz⟩ := hif i hlt
          subst hAZ
          obtain ⟨z, hz⟩ : ∃ z, z = zs[i] := ⟨_, rfl⟩
          rw [← hz] at kz
          have j1 : (i : Int) < (zs.length : Int) := by omega
          by_cases h3 : i < 3
          · have j3 : (i : Int) < 3 := by omega
            obtain ⟨N, hN, hN1, hN2⟩ := mod_u64 m (by omega) (by omega) z
            obtain ⟨hy, hy2, hy3⟩ := HAR.out.bytes
            obtain ⟨ga, oa, hA, hga, hcell⟩ := hy.2.2 (by omega)
            have hoa : oa = 0 := by
              rcases HAR.out.own.2 with ⟨h0, _⟩ | ⟨g', cap, cur, hv, _⟩
              · cases h0; omega
              · cases hv; cases hA; rfl
            subst hoa
            subst hA
            obtain ⟨y, hyy⟩ : ∃ y, y = bs.getD N 0 := ⟨_, rfl⟩
            have kN : wr.cell? ⟨ga, N, none⟩ = some (.int .u8 (y : Int)) := by
              have := hcell N hN
              rw [Nat.zero_add] at this
              rw [hyy]; exact this
            have fN : wr.frozen? ⟨ga, N, none⟩ = false := by
              rcases HAR.out.own.2 with ⟨h0, _⟩ | ⟨g', cap, cur, hv, _, hg, _⟩
              · cases h0
              · cases hv; exact Blk.frozen hg N
            have hy8 : y < 256 := by rw [hyy]; exact hy.lt N
            have HWA := Lib.hid (HAR.out.own.lt _ rfl)
            have j4 : (N : Int) < (m : Int) := by omega
            clear hcell hif hy hyy hz hga
            go_wp2_with fail
            rw [u8_xor_nat y x hy8 hx]
            have hxy : y ^^^ x < 256 := Nat.xor_lt_two_pow (n := 8) hy8 hx
            refine ⟨⟨i + 1, bs.set N (y ^^^ x), by go_num, Lib.hid ⟨own_set HAR.out.own, fun u hu => ?_⟩, Lib.hid (HB.out.setCell (by exact HWA.out.1) _), Lib.hid (by have := HTP.out; simpa using this), by omega⟩, ?_⟩
            · rcases List.mem_or_eq_of_mem_set hu with h | h
              · exact HAR.out.lt u h
              · rw [h]; exact hxy
            · show zs.length - ((i : Int) + 1).toNat < zs.length - (i : Int).toNat
              omega
          · have j3 : decide ((i : Int) < 3) = false := decide_eq_false (by omega)
            clear hif hz
            go_wp2_with fail
            refine ⟨⟨i + 1, bs, by go_num, HAR, HB, HTP, by omega⟩, ?_⟩
            show zs.length - ((i : Int) + 1).toNat < zs.length - (i : Int).toNat
            omega
        · clear HZ
          go_upto_if 72 with fail
          go_cut [15] (fun v15 wx => ∃ (A : Option Addr) (c m : Nat) (bs : List Nat), v15 = .slice A m c ∧ Hid (Ar W0 wx A c m bs) ∧ Hid (Below W0 w wx) ∧ Hid (W0 ≤ wx.heap.size) ∧ 64 ≤ m ∧ m ≤ 8464)
          case first =>
            by_cases h2 : lb ≤ 2000
            · have h2' : decide ((lb : Int) ≤ 2000) = true := decide_eq_true (by omega)
              have hbr := HBB.out.below (hW.out HB.out)
              have HBR := Lib.hid hbr
              clear hbr
              go_wp2_with (at_builtin; refine wpList_append_any _ rfl (.tmp 73) (.tmp 74) _ rfl W0 5 i0 _ 1 1 Try.underlying22 hi0 hz0 hz1 hz2 rfl (by omega) _ m _ rfl HAR.out.own wr.heap.size Ab lb cb _ rfl HBR.out.reads (bytes_one _) (by unfold maxLen; omega) (by omega) HTP.out ?_; intro v5 w5 hown5 hg5 hat5; have HU5 : Hid (Upd (fun k => (Value.slice A m c).ownBlock = some k) wr w5) := Lib.hid ((Upd.refl _ wr).grown hg5 (fun k hk => .inl hk)); rw [← List.map_append] at hown5; have HO5 := Lib.hid hown5; obtain ⟨A5, c5, rfl⟩ := own_shape hown5; clear hown5 hg5 hat5)
              go_meet
              refine ⟨A5, c5, m + lb, bs ++ bb, rfl, Lib.hid ⟨HO5.out, fun u hu => ?_⟩, Lib.hid (HB.out.trans (HU5.out.below (fun k hk => (HAR.out.own.lt k hk).1) HTP.out)), Lib.hid (Nat.le_trans HTP.out HU5.out.size), by omega, by omega⟩
              rcases List.mem_append.1 hu with h | h
              · exact HAR.out.lt u h
              · exact HBB.out.2.1 u h
            · have h2' : decide ((lb : Int) ≤ 2000) = false := decide_eq_false (by omega)
              go_wp2_with fail
              go_meet
              exact ⟨A, c, m, bs, rfl, HAR, HB, HTP, hm1, by omega⟩
          case rest =>
            clear HAR HB HTP hm1 hm4 HBB HMS HCB HMF HML hmk hi0 hz0 hz1 hz2
            obtain ⟨A, c, m, bs, rfl, HAR, HB, HTP, hm1, hm2⟩ := hcut
            obtain ⟨n, hn⟩ : ∃ n, n = (m + 63) / 64 := ⟨_, rfl⟩
            have hab := HAR.out.bytes
            have HLD := Lib.hid (laid_any A m c n (fun k => bs.getD k 0) wc (bytes_part hab.1) (fun k => hab.1.lt k) (fun k hk => getD_past (by rw [HAR.out.len]; exact hk)) (by omega) hab.2.1 hab.2.2 hn (by omega))
            have hn1 : 1 ≤ n := by omega
            have hn2 : n ≤ 133 := by omega
            clear hab hn
            go_upto_region 17 with (go_at_call 54; refine HLD.out.mono ?_; rintro e w5 ⟨p, r, s, D, rfl, hd5, hdn, hdw, hfu, hca, _, hb5, hp, hr, hs⟩)
            have HD5 := Lib.hid hd5
            have HDW := Lib.hid hdw
            have HFU := Lib.hid hfu
            have HDN := Lib.hid hdn
            have HB5 := Lib.hid (HB.out.trans (hb5.mono HTP.out))
            have HW5 : Hid (W0 ≤ w5.heap.size) := Lib.hid (Nat.le_trans HTP.out hb5.size)
            have hlen := Len_any p r s n n D w5 hd5
            rw [hdn] at hlen
            have HLEN := Lib.hid hlen
            clear hd5 hdw hfu hdn hb5 hp hr hs HLD HAR HB HTP hm1 hm2 hlen hca
            go_cut [90] (fun v90 wx => wx = w5 ∧ ∃ bad : Bool, v90 = .bool bad ∧ bad = !isArea n fr tt)
            case first =>
              rcases (show fr < 0 ∨ (0 ≤ fr ∧ tt ≤ fr) ∨ (0 ≤ fr ∧ fr < tt) by omega) with h1 | ⟨h1, h2⟩ | ⟨h1, h2⟩
              · have h1' : decide (fr < 0) = true := decide_eq_true h1
                go_wp2_with fail
                go_meet
                exact ⟨rfl, true, rfl, by unfold isArea; rw [decide_eq_false (by omega)]; rfl⟩
              · have h1' : decide (fr < 0) = false := decide_eq_false (by omega)
                have h2' : decide (tt ≤ fr) = true := decide_eq_true h2
                go_wp2_with fail
                go_meet
                exact ⟨rfl, true, rfl, by unfold isArea; rw [decide_eq_false (by omega)]; rfl⟩
              · have h1' : decide (fr < 0) = false := decide_eq_false (by omega)
                have h2' : decide (tt ≤ fr) = false := decide_eq_false (by omega)
                go_wp2_with (go_at_call 32; refine HLEN.out.mono ?_; rintro e w1 ⟨rfl, rfl⟩)
                go_meet
                exact ⟨rfl, _, rfl, by unfold isArea; by_cases h : (n : Int) < tt; (· rw [decide_eq_false (p := 0 ≤ fr ∧ fr < tt ∧ tt ≤ (n : Int)) (by omega)]; simpa using h); (· rw [decide_eq_true (p := 0 ≤ fr ∧ fr < tt ∧ tt ≤ (n : Int)) (by omega)]; simpa using h)⟩
            case rest =>
              obtain ⟨rfl, bad, rfl, hbad⟩ := hcut
              go_upto_if 90 with fail
              go_cut [5, 6] (fun v5 v6 wx => wx = wc ∧ ∃ f2 t2 : Nat, v5 = .int .i64 (f2 : Int) ∧ v6 = .int .i64 (t2 : Int) ∧ f2 < t2 ∧ t2 ≤ n)
              case first =>
                cases bad with
                | true =>
                  have ha : isArea D.n fr tt = false := by rw [HDN.out]; simpa using hbad.symm
                  have HOB := Lib.hid (Open_bad p r s n n D fr tt wc HD5.out ha)
                  have HFB := Lib.hid (Format_bad p r s n n D fr tt wc HD5.out ha)
                  clear ha hbad
                  go_wp2_with (first
                    | (go_at_call 49; refine HOB.out.mono ?_; rintro e w1 ⟨rfl, rfl⟩)
                    | (go_at_call 48; refine HFB.out.mono ?_; rintro e w1 ⟨rfl, rfl⟩)
                    | (go_at_call 32; refine HLEN.out.mono ?_; rintro e w1 ⟨rfl, rfl⟩))
                  go_meet
                  exact ⟨rfl, 0, n, rfl, rfl, by omega, Nat.le_refl _⟩
                | false =>
                  have ha : 0 ≤ fr ∧ fr < tt ∧ tt ≤ n := by
                    have h9 : isArea n fr tt = true := by simpa using hbad.symm
                    exact of_decide_eq_true h9
                  obtain ⟨f2, rfl⟩ := Int.eq_ofNat_of_zero_le ha.1
                  obtain ⟨t2, rfl⟩ := Int.eq_ofNat_of_zero_le (show 0 ≤ tt by omega)
                  go_wp2_with fail
                  go_meet
                  exact ⟨rfl, f2, t2, rfl, rfl, by omega, by omega⟩
              case rest =>
                obtain ⟨rfl, f2, t2, rfl, rfl, hft, htn⟩ := hcut
                have HALL := Lib.hid (all_any p r s n n D wc HD5.out HDW.out)
                obtain ⟨M, hM⟩ : ∃ M, M = 64 * n := ⟨_, rfl⟩
                obtain ⟨K, hK⟩ : ∃ K, K = t2 - f2 := ⟨_, rfl⟩
                rw [HDN.out, ← hM] at HALL
                have HLT := Lib.hid HD5.out.ok.R
                clear f0 f1 t0 t1 hbad
                go_wp2_with fail
                go_at_call 55
                refine HALL.out.mono ?_
                rintro e w6 ⟨v6, rfl, ho6, hb6⟩
                obtain ⟨A6, c6, rfl, hy6, hc6, hc7, _⟩ := ho6.bytes (Wl.part_lt HLT.out _ _)
                rw [Wl.part_len] at hy6 hc6 ⊢
                obtain ⟨g6, o6, rfl, hg6, _⟩ := hy6.2.2 (by omega)
                have HD6 := Lib.hid (HD5.out.below hb6)
                have HLEN6 := Lib.hid (Len_any p r s n n D w6 HD6.out)
                rw [HDN.out] at HLEN6
                have HB6 := Lib.hid (HB5.out.trans (hb6.mono HW5.out))
                have HW6 : Hid (W0 ≤ w6.heap.size) := Lib.hid (Nat.le_trans HW5.out hb6.size)
                have HSUB : Hid (Bytes w6 (some ⟨g6, o6 + f2 * 64, none⟩) (t2 * 64 - f2 * 64) (Wl.part (fun j => D.R (64 * f2 + j)) 0 (t2 * 64 - f2 * 64))) := Lib.hid (by
                  have := part_at hy6 (f2 * 64) (t2 * 64 - f2 * 64) (by omega)
                  rw [Nat.zero_add, Nat.mul_comm f2 64, show 64 * f2 = 64 * f2 + 0 from rfl, Wl.part_shift] at this
                  rw [Nat.mul_comm f2 64]
                  exact this)
                have HREC := Lib.hid (RefRecords_any g6 (o6 + f2 * 64) (c6 - f2 * 64) K (t2 * 64 - f2 * 64) (fun j => D.R (64 * f2 + j)) w6 (fun k => HLT.out _) (by omega) (by omega) (by omega) (by omega) (by omega) HSUB.out)
                have k1 : decide ((M : Int) < (n : Int) * 64) = false := decide_eq_false (by omega)
                have k2 : decide ((n : Int) < (t2 : Int)) = false := decide_eq_false (by omega)
                have k3 : decide ((t2 : Int) ≤ (f2 : Int)) = false := decide_eq_false (by omega)
                have k4 : (t2 : Int) * 64 ≤ (c6 : Int) := by omega
                have k5 : (f2 : Int) * 64 ≤ (t2 : Int) * 64 := by omega
                have k6 : (0 : Int) ≤ (f2 : Int) * 64 := by omega
                clear ho6 hb6 hy6 hc6 hc7 HSUB HALL HLEN hg6 hM
                go_wp2_with (first
                  | (go_at_call 32; refine HLEN6.out.mono ?_; rintro e w1 ⟨rfl, rfl⟩))
                go_at_call 56
                refine HREC.out.mono ?_
                rintro e w7 ⟨hb7, nn, hlead, hres⟩
                have HD7 := Lib.hid (HD6.out.below hb7)
                have HB7 := Lib.hid (HB6.out.trans (hb7.mono HW6.out))
                have HW7 : Hid (W0 ≤ w7.heap.size) := Lib.hid (Nat.le_trans HW6.out hb7.size)
                have hop := Open_any p r s n n D f2 t2 w7 HD7.out HDW.out hft (by rw [HDN.out]; exact htn)
                rw [Wl.opens_shift (Nat.le_of_lt hft) hlead, ← hK] at hop
                cases hq : Wl.recs (fun j => D.R (64 * f2 + j)) K nn 1 with
                | none =>
                  rw [hq] at hop hres
                  obtain rfl : e = .returned (.tuple #[.slice none 0 0, .int .i64 0, .int .i64 3]) := hres
                  have HOP := Lib.hid hop
                  clear hop hq hlead hb7 k1 k2 k3 k4 k5 k6 hK
                  go_wp2_with fail
                  go_at_call 49
                  refine HOP.out.mono ?_
                  rintro e w8 ⟨hb8, hr8⟩
                  obtain rfl : e = .returned (.tuple #[.pointer none, .slice none 0 0, .int .i64 3]) := hr8
                  have HB8 := Lib.hid (HB7.out.trans (hb8.mono HW7.out))
                  have HW8 : Hid (W0 ≤ w8.heap.size) := Lib.hid (Nat.le_trans HW7.out hb8.size)
                  have HSR := Lib.hid (SameRows_any [] (.slice none 0 0) (.slice none 0 0) w8 (RowsAt.nil _) (RowsAt.nil _) (by simp))
                  clear hb8
                  go_wp2_with (first
                    | (go_at_call 52; refine HSR.out.mono ?_; rintro e w9 ⟨rfl, hb9⟩)
                    | (go_at_call 47; refine (awake3_any _).mono ?_; rintro e w10 ⟨rfl, hb10⟩))
                  go_ret
                  exact ⟨rfl, hW.out (HB8.out.trans ((hb9.mono HW8.out).trans (hb10.mono (Nat.le_trans HW8.out hb9.size))))⟩
                | some q =>
                  rw [hq] at hop hres
                  obtain ⟨v7, rfl, hr7⟩ := hres
                  have hq2 := Wl.recs_some hq (by omega)
                  obtain ⟨u, hu⟩ : ∃ u, u = q.2 := ⟨_, rfl⟩
                  obtain ⟨rs, hrs⟩ : ∃ rs, rs = q.1 := ⟨_, rfl⟩
                  have hop' : Calls Try.prog 49 #[.pointer (some ⟨p, 0, none⟩), .int .i64 (f2 : Int), .int .i64 (t2 : Int)] w7 fun e w' => Below w7.heap.size w7 w' ∧ OpenRes w7 w' p f2 t2 (fun k => D.R (64 * f2 + k)) e (some (rs, f2 + u)) := by
                    rw [hrs, hu]; exact hop
                  have HOP := Lib.hid hop'
                  rw [← hu]
                  rw [← hrs] at hr7 hq2
                  rw [← hu] at hq2
                  obtain ⟨Aw, cw, rfl, _⟩ := id hr7.1
                  have HR7 := Lib.hid hr7.1
                  have hrl : rs.length ≤ 512 := by rw [hq2.1]; exact hlead.1
                  have hfu : f2 + u ≤ t2 := by have := hq2.2.2; omega
                  clear hop hop' hq hlead hb7 k1 k2 k3 k4 k5 k6 hr7 hu hrs hq2 hK
                  go_wp2_with fail
                  go_at_call 49
                  refine HOP.out.mono ?_
                  rintro e w8 ⟨hb8, l, g, cap, v8, rfl, hl8, hl1, hg1, hr8⟩
                  have HB8 := Lib.hid (HB7.out.trans (hb8.mono HW7.out))
                  have HW8 : Hid (W0 ≤ w8.heap.size) := Lib.hid (Nat.le_trans HW7.out hb8.size)
                  have HSR := Lib.hid (SameRows_any rs v8 (.slice Aw rs.length cw) w8 hr8.1 (HR7.out.below hb8) (by omega))
                  have HL8 := Lib.hid hl8
                  have HFREE : Hid (∀ W, LogAt W l g cap p ⟨f2, t2, rs.length, f2 + u, fun k => D.R (64 * f2 + k), false⟩ → Calls Try.prog 58 #[.pointer (some ⟨l, 0, none⟩)] W fun e w' => e = .returned (.int .i64 ((t2 : Int) - (f2 : Int) - (u : Int))) ∧ ∃ m, w' = W.drewN m) := Lib.hid (fun W hW => by
                    have := LFree_any l g cap p _ W hW hfu (show t2 ≤ 4096 by omega)
                    rw [show (t2 : Int) - (f2 : Int) - (u : Int) = ((t2 - (f2 + u) : Nat) : Int) by omega]
                    exact this)
                  clear hb8 hl8 hr8 hl1 hg1
                  go_wp2_with (first
                    | (go_at_call 52; refine HSR.out.mono ?_; rintro e w9 ⟨rfl, hb9⟩; have HL9 := Lib.hid (HL8.out.upd (Upd.of_below hb9 (T := fun k => w8.heap.size ≤ k) (fun _ _ h => h)) (by have := HL8.out.blk.lt; omega) (by have := HL8.out.marks.lt; omega)); have HFR := Lib.hid (HFREE.out w9 HL9.out); have HB9 := Lib.hid (HB8.out.trans (hb9.mono HW8.out)); have HW9 : Hid (W0 ≤ w9.heap.size) := Lib.hid (Nat.le_trans HW8.out hb9.size); clear hb9)
                    | (go_at_call 57; refine (LLen_any l g cap p _ _ HL9.out).mono ?_; rintro e w10 ⟨rfl, rfl⟩)
                    | (go_at_call 58; refine HFR.out.mono ?_; rintro e w10 ⟨rfl, mm, rfl⟩)
                    | (go_at_call 47; refine (awake3_any _).mono ?_; rintro e w10 ⟨rfl, hb10⟩))
                  go_ret
                  exact ⟨rfl, hW.out (HB9.out.trans ((⟨rfl, rfl, rfl, Nat.le_refl _, fun _ _ => rfl⟩ : Below W0 w9 (w9.drewN mm)).trans (hb10.mono HW9.out)))⟩
section
open Go.ChangeShapes Go.WideShapes Go.ChangeAt
theorem walOpens_walk {H : Type} {enc : TypeId × Value → H} (W : World) {base : Nat} (v0 v1 v2 v3 v4 v5 v6 : Value) {d0 d1 d2 d3 d4 d5 d6 : DataW H} {p0 p1 p2 p3 p4 p5 p6 : List MemPlace}
    (h0 : DataW.Trod enc Try.prog W 0 (fun _ => true) true 22 v0 d0 p0) (o0 : Value.okWide Try.prog W .any base 22 v0)
    (h1 : DataW.Trod enc Try.prog W 0 (fun _ => true) true 57 v1 d1 p1) (o1 : Value.okWide Try.prog W .any base 57 v1)
    (h2 : DataW.Trod enc Try.prog W 0 (fun _ => true) true 22 v2 d2 p2) (o2 : Value.okWide Try.prog W .any base 22 v2)
    (h3 : DataW.Trod enc Try.prog W 0 (fun _ => true) true 73 v3 d3 p3) (o3 : Value.okWide Try.prog W .any base 73 v3)
    (h4 : DataW.Trod enc Try.prog W 0 (fun _ => true) true 5 v4 d4 p4) (o4 : Value.okWide Try.prog W .any base 5 v4)
    (h5 : DataW.Trod enc Try.prog W 0 (fun _ => true) true 3 v5 d5 p5) (o5 : Value.okWide Try.prog W .any base 3 v5)
    (h6 : DataW.Trod enc Try.prog W 0 (fun _ => true) true 3 v6 d6 p6) (o6 : Value.okWide Try.prog W .any base 3 v6)
    (hk : Rows.uptoBulkAll [d0, d1, d2, d3, d4, d5, d6] ≤ 1048576) :
    Calls Try.prog 17 #[v0, v1, v2, v3, v4, v5, v6] W fun e w' => e = .returned (.bool true) ∧ Below W.heap.size W w' := by
  obtain ⟨A, n, ca, a, rfl, ha, na, nb, _, _⟩ := open_bytes h0 o0
  obtain ⟨L, hr, hl, _⟩ := open_rows h1 o1
  obtain ⟨B, m, cb, b, rfl, hb, _⟩ := open_bytes h2 o2
  obtain ⟨zs, hz, hlz⟩ := open_nums h3 o3
  obtain ⟨x, rfl, rfl, rfl, wx⟩ := open_int Try.underlying5 o4 h4
  obtain ⟨f, rfl, rfl, rfl, wf⟩ := open_int Try.underlying3 o5 h5
  obtain ⟨t, rfl, rfl, rfl, wt⟩ := open_int Try.underlying3 o6 h6
  simp only [Rows.uptoBulkAll] at hk
  have hx : 0 ≤ x ∧ x ≤ 255 := by simpa [Lit.wf, IntKind.min, IntKind.max, IntKind.signed, IntKind.bits] using wx
  have hf : -9223372036854775808 ≤ f ∧ f ≤ 9223372036854775807 := by simpa [Lit.wf, IntKind.min, IntKind.max, IntKind.signed, IntKind.bits] using wf
  have ht : -9223372036854775808 ≤ t ∧ t ≤ 9223372036854775807 := by simpa [Lit.wf, IntKind.min, IntKind.max, IntKind.signed, IntKind.bits] using wt
  obtain ⟨x', rfl⟩ := Int.eq_ofNat_of_zero_le hx.1
  exact walOpens_any A n ca a v1 L B m cb b v3 zs x' f t W ha na nb hr (by omega) hb hz (by omega) hf.1 hf.2 ht.1 ht.2 (by omega)
end
end Go.Proofs.Ytiiegimnnngnnaa
