/- stanza.Parse. -/
import Derived.Test.YtjkaigfpjebfbaaDoorSt8
import Derived.Test.YtjkaigfpjebfbaaDoorLines
import Derived.RegionTactic
namespace Go.Proofs.YtjkaigfpjebfbaaDoor
open Go.RowKit
set_option linter.unusedVariables false

theorem takeS_err {s : ByteArray} {ln k : Int} {σ : PS} (h : takeS s ln σ = .error k) : k ≠ 0 := by
  unfold takeS at h
  split at h
  · cases h
  split at h
  · cases h
  split at h
  · cases σ with
    | shut L => have h : (Except.error 3 : Except Int PS) = .error k := h; simp only [Except.error.injEq] at h; omega
    | opn Lp l0 Fp nm ls => unfold furS at h; simp at h
  · unfold fieldS at h
    split at h
    · simp only [Except.error.injEq] at h; omega
    · cases σ with
      | shut L =>
        simp only at h
        split at h
        · simp only [Except.error.injEq] at h; omega
        · simp at h
      | opn Lp l0 Fp nm ls =>
        simp only at h
        split at h
        · simp only [Except.error.injEq] at h; omega
        · split at h
          · simp only [Except.error.injEq] at h; omega
          · simp at h
theorem runS_ok {s : ByteArray} {r : List ByteArray} {i : Nat} {σ σ' : PS} (h : takeS s ((i : Int) + 1) σ = .ok σ') : runS (s :: r) i σ = runS r (i + 1) σ' := by
  rw [runS, h]
theorem runS_err {s : ByteArray} {r : List ByteArray} {i : Nat} {σ : PS} {k : Int} (h : takeS s ((i : Int) + 1) σ = .error k) : runS (s :: r) i σ = .error (k, i + 1) := by
  rw [runS, h]
theorem rl_len : ∀ (t cur : List UInt8), (rl t cur).length ≤ t.length + 1
  | [], cur => by
    show (if cur = [] then [] else [cur]).length ≤ _
    split <;> simp
  | c :: t, cur => by
    show (if c = 10 then cur :: rl t [] else rl t (cur ++ [c])).length ≤ _
    have h1 := rl_len t []
    have h2 := rl_len t (cur ++ [c])
    rw [List.length_cons]
    split
    · rw [List.length_cons]; omega
    · omega
theorem got_len (s : ByteArray) : (linesGot s).length ≤ s.size + 1 := by
  unfold linesGot
  split
  · unfold linesOf
    rw [List.length_map]
    exact rl_len (bl s) []
  · simp
theorem got_small {s : ByteArray} (h : (linesErr s).1 = 0) : (linesGot s).length ≤ 65537 ∧ ∀ x ∈ linesGot s, x.size ≤ 65536 := by
  have hs : s.size ≤ 65536 := by
    rcases Nat.lt_or_ge 65536 s.size with h9 | h9
    · have := (big_err h9).1
      rw [this] at h
      cases h
    · exact h9
  refine ⟨by have := got_len s; omega, fun x hx => ?_⟩
  have e : linesGot s = linesOf s := by unfold linesGot; rw [if_pos h]
  rw [e] at hx
  have := line_size hx
  omega
theorem RdS.res {w : World} {base q : Nat} : ∀ {σ : PS}, RdS w base q σ → ∃ G A c, w.cell? ⟨q, 0, none⟩ = some (.slice A σ.all.length c) ∧ StzG w G (.slice A σ.all.length c) σ.all ∧ ∀ k, G k → base ≤ k
  | .shut L, h => by
    obtain ⟨G, A, c, xs, hr, ho, hG⟩ := h
    refine ⟨fun k => G k ∨ A = some ⟨k, 0, none⟩, A, c, hr.cell 0, ⟨A, c, xs, rfl, own_cap ho.o, RowG.of_own ho.o (fun k e => .inr e), ho.sv.mono (fun k hk => .inl hk)⟩, fun k hk => ?_⟩
    rcases hk with hk | hk
    · exact (hG k hk).1
    · have h9 := ho.o
      rw [hk] at h9
      exact (own_is h9 rfl).1
  | .opn Lp ln Fp nm ls, h => by
    obtain ⟨G, ko, co, kf, cf, kl, cl, xs, fx, hr, ho, hG⟩ := h
    have hlen : (Lp ++ [(⟨ln, Fp ++ [⟨nm, ls⟩]⟩ : St)]).length = Lp.length + 1 := by simp
    have hc := ho.close
    refine ⟨fun k => (G k ∨ k = kf ∨ k = kl) ∨ k = ko, some ⟨ko, 0, none⟩, co, ?_, ⟨_, co, _, rfl, own_cap hc.o, RowG.of_own hc.o (fun k e => by injection e with e; injection e with e; exact .inr e.symm), hc.sv.mono (fun k hk => .inl hk)⟩, fun k hk => ?_⟩
    · show w.cell? _ = some (.slice _ (PS.all _).length _)
      rw [show (PS.all (.opn Lp ln Fp nm ls)).length = Lp.length + 1 from hlen]
      exact hr.cell 0
    · rcases hk with (hk | rfl | rfl) | rfl
      · exact (hG k hk).1
      · exact (own_is ho.f rfl).1
      · exact (own_is ho.l rfl).1
      · exact (own_is ho.o rfl).1
theorem RdS.new {w : World} {q : Nat} (h : Blk w q 56 #[.slice none 0 0, .bool false]) : RdS w q q (.shut []) := ⟨fun _ => False, none, 0, [], h, Shu.nil w q, fun _ h => h.elim⟩
set_option maxRecDepth 100000 in
set_option maxHeartbeats 4000000 in
theorem Parse_any (A : Option Addr) (n cp : Nat) (bs : List Nat) (w : World) (hb : Bytes w A n bs) (hn : n < 4294967281) (hT : Lib.Utf8Tabs 0 1 w) (hM : MaxLenAt w) :
    Calls Tryd.prog 11 #[.slice A n cp] w fun e w' =>
      ∃ v, e = .returned (.tuple #[v, .agg #[.int .i64 (errS (parseS (toS bs))).1, .int .i64 ((errS (parseS (toS bs))).2 : Int)]]) ∧ StzAt w' v (gotS (parseS (toS bs))) ∧ Below w.heap.size w w' := by
  have HLN : Hid (∀ W, Below w.heap.size w W → Calls Tryd.prog 24 #[.slice A n cp] W fun e w' => ∃ v, e = .returned (.tuple #[v, .agg #[.int .i64 ((linesErr (toS bs)).1 : Int), .int .i64 ((linesErr (toS bs)).2 : Int)]]) ∧ TextsAt w' v (linesGot (toS bs)) ∧ Below W.heap.size W w') := Lib.hid (fun W hW => Lines_any A n cp bs W (hb.below hW) hn (tabs_later hT hW) (hM.later hW))
  have hsm := got_small (s := toS bs)
  have hps : parseS (toS bs) = if (linesErr (toS bs)).1 = 0 then runS (linesGot (toS bs)) 0 (.shut []) else .error (((linesErr (toS bs)).1 : Int), (linesErr (toS bs)).2) := rfl
  obtain ⟨R, hR⟩ : ∃ R, R = parseS (toS bs) := ⟨_, rfl⟩
  rw [← hR] at hps ⊢
  obtain ⟨M, hMM⟩ : ∃ M, M = linesGot (toS bs) := ⟨_, rfl⟩
  obtain ⟨z, hz⟩ : ∃ z, z = linesErr (toS bs) := ⟨_, rfl⟩
  rw [← hMM, ← hz] at HLN hps hsm
  clear hR hMM hz
  obtain ⟨b0, hb0⟩ : ∃ b0, b0 = w.heap.size := ⟨_, rfl⟩
  obtain ⟨W0, hW0⟩ : ∃ W0, W0 = w.alloc (.cells #[.int .i64 0, .int .i64 0] 26) := ⟨_, rfl⟩
  have HAT : Hid (Blk W0 b0 26 #[.int .i64 0, .int .i64 0]) := Lib.hid (by rw [hW0, hb0]; exact Blk.new w _ _)
  have HB0 : Hid (Below b0 w W0) := Lib.hid (by rw [hW0, hb0]; exact (Below.refl _ _).alloc (Nat.le_refl _) _)
  have HW0S : Hid (W0.heap.size = b0 + 1) := Lib.hid (by rw [hW0, hb0]; simp)
  have HL0 := Lib.hid (HLN.out W0 (by rw [← hb0]; exact HB0.out))
  have HT0 : Hid (Lib.Utf8Tabs 0 1 W0) := Lib.hid (tabs_later hT (by rw [← hb0]; exact HB0.out))
  clear hT hM hb HLN
  by_cases h0 : z.1 = 0
  case neg =>
    have HR : Hid (R = .error ((z.1 : Int), z.2)) := Lib.hid (by rw [hps, if_neg h0])
    have q1 : ((z.1 : Int) != 0) = true := (bne_iff_ne).2 (by omega)
    clear hps h0 hsm
    go_enter Tryd.func11, Tryd.ntmps11
    go_wp2_with (go_at_call 24; rw [← hb0, ← hW0]; refine HL0.out.mono ?_; rintro e w1 ⟨v, rfl, ht, hb1⟩; have HB1 := Lib.hid hb1; have HAT1 := Lib.hid (HAT.out.below hb1 HAT.out.lt); clear hb1 ht)
    obtain ⟨b5, hb5⟩ : ∃ b5, b5 = w1.heap.size := ⟨_, rfl⟩
    obtain ⟨w2, hw2⟩ : ∃ w2, w2 = w1.alloc (.cells #[.int .i64 (z.1 : Int), .int .i64 (z.2 : Int)] 26) := ⟨_, rfl⟩
    have HA5 : Hid (Blk w2 b5 26 #[.int .i64 (z.1 : Int), .int .i64 (z.2 : Int)]) := Lib.hid (by rw [hw2, hb5]; exact Blk.new w1 _ _)
    have HA0 : Hid (Blk w2 b0 26 #[.int .i64 0, .int .i64 0]) := Lib.hid (by rw [hw2]; exact HAT1.out.alloc _)
    have HB2 : Hid (Below b0 w w2) := Lib.hid (by rw [hw2]; exact (HB0.out.trans (HB1.out.mono (by rw [hW0, hb0]; simp))).alloc (by have := HB0.out.size; have := HB1.out.size; rw [hb0] at *; omega) _)
    have k0 : w2.cell? ⟨b0, 0, none⟩ = some (.int .i64 0) := HA0.out.cell 0
    have k1 : w2.cell? ⟨b0, 1, none⟩ = some (.int .i64 0) := HA0.out.cell 1
    have k2 : w2.cell? ⟨b5, 0, none⟩ = some (.int .i64 (z.1 : Int)) := HA5.out.cell 0
    have k3 : w2.cell? ⟨b5, 1, none⟩ = some (.int .i64 (z.2 : Int)) := HA5.out.cell 1
    have k4 : w2.frozen? ⟨b0, 0, none⟩ = false := HA0.out.frozen 0
    have k5 : w2.frozen? ⟨b0, 1, none⟩ = false := HA0.out.frozen 1
    rw [← hb0, ← hw2, ← hb5]
    have HBW := Lib.hid hb0
    clear hw2 hb5 HB1 HAT1 HAT HL0 HT0 hW0 hb0
    go_region
    go_wp2_with fail
    refine ret_at Tryd.results11 b0 _ ((HA0.out.set_ 0 _).set_ 1 _) rfl rfl rfl ?_
    rw [HR.out]
    rw [← HBW.out]
    exact ⟨_, rfl, StzAt.nil _, ((HB2.out.setCell (p := ⟨b0, 0, none⟩) (Nat.le_refl _) _).setCell (p := ⟨b0, 1, none⟩) (Nat.le_refl _) _).drew⟩
  have HR : Hid (R = runS M 0 (.shut [])) := Lib.hid (by rw [hps, if_pos h0])
  obtain ⟨hM1, hM2⟩ := hsm h0
  have HM2 := Lib.hid hM2
  have q1 : ((z.1 : Int) != 0) = false := by rw [h0]; rfl
  clear hps h0 hsm hM2
  go_enter Tryd.func11, Tryd.ntmps11
  go_upto_region 4 with (go_at_call 24; rw [← hb0, ← hW0]; refine HL0.out.mono ?_; rintro e w1 ⟨v, rfl, ht, hb1⟩; have HB1 := Lib.hid hb1; have HTX := Lib.hid ht; have HAT1 := Lib.hid (HAT.out.below hb1 HAT.out.lt); clear hb1 ht)
  rw [← hb0]
  obtain ⟨w2, hw2⟩ : ∃ w2, w2 = w1.alloc (.cells #[.int .i64 (z.1 : Int), .int .i64 (z.2 : Int)] 26) := ⟨_, rfl⟩
  have HB2 : Hid (Below (b0 + 1) W0 w2) := Lib.hid (by
    have h1 := HB1.out.mono (Nat.le_of_eq HW0S.out.symm)
    rw [hw2]
    exact h1.alloc (Nat.le_trans (Nat.le_of_eq HW0S.out.symm) h1.size) _)
  have HTX2 : Hid (TextsAt w2 v M) := Lib.hid (by rw [hw2]; exact HTX.out.later ((Below.refl _ _).alloc (Nat.le_refl _) _))
  rw [← hw2]
  have HBW := Lib.hid hb0
  clear hw2 HB1 HAT1 HL0 hW0 hb0 HTX
  obtain ⟨ao, cap, rfl, hc⟩ := HTX2.out
  have HC := Lib.hid hc
  clear hc
  go_upto_region 5 with fail
  obtain ⟨q, hq⟩ : ∃ q, q = w2.heap.size := ⟨_, rfl⟩
  obtain ⟨w3, hw3⟩ : ∃ w3, w3 = w2.alloc (.cells #[.slice none 0 0, .bool false] 56) := ⟨_, rfl⟩
  have HR3 : Hid (RdS w3 q q (.shut [])) := Lib.hid (RdS.new (by rw [hw3, hq]; exact Blk.new w2 _ _))
  have HB3 : Hid (Below q w2 w3) := Lib.hid (by rw [hw3, hq]; exact (Below.refl _ _).alloc (Nat.le_refl _) _)
  have HQ : Hid (b0 + 1 ≤ q) := Lib.hid (by rw [hq]; exact Nat.le_trans (Nat.le_of_eq HW0S.out.symm) HB2.out.size)
  have HQ2 : Hid (q = w2.heap.size ∧ q + 1 ≤ w3.heap.size) := Lib.hid ⟨hq, by rw [hw3, hq]; simp⟩
  rw [← hq, ← hw3]
  clear hq hw3
  go_wp2_with fail
  go_loopw [23] (fun p wr => ∃ (i : Nat) (σ : PS), p = .int .i64 i ∧ i ≤ M.length ∧ Hid (RdS wr q q σ ∧ Small i σ ∧ Below q w3 wr ∧ R = runS (M.drop i) i σ)) (fun p _ => M.length - (match p with | .int _ a => a.toNat | _ => 0))
  case atStart => exact ⟨0, _, rfl, Nat.zero_le _, Lib.hid ⟨HR3.out, Nat.zero_le _, Below.refl _ _, HR.out⟩⟩
  case round =>
    obtain ⟨i, σ, rfl, hi, HI⟩ := hrel
    have HBWR : Hid (Below (b0 + 1) W0 wr) := Lib.hid ((HB2.out.trans (HB3.out.mono HQ.out)).trans (HI.out.2.2.1.mono HQ.out))
    have HAW : Hid (Blk wr b0 26 #[.int .i64 0, .int .i64 0]) := Lib.hid (HAT.out.below HBWR.out (by omega))
    by_cases hlt : i < M.length
    case neg =>
      have hln : ¬ (i : Int) < (M.length : Int) := by omega
      have HE : Hid (R = .ok σ) := Lib.hid (by rw [HI.out.2.2.2, List.drop_of_length_le (by omega)]; rfl)
      obtain ⟨G, vA, vc, kq, hst, hGq⟩ := HI.out.1.res
      obtain ⟨L, hL⟩ : ∃ L, L = σ.all := ⟨_, rfl⟩
      rw [← hL] at kq hst
      have HLL := Lib.hid hL
      have HST := Lib.hid hst
      have HGQ := Lib.hid hGq
      clear hL hst hGq
      have k0 : wr.cell? ⟨b0, 0, none⟩ = some (.int .i64 0) := HAW.out.cell 0
      have k1 : wr.cell? ⟨b0, 1, none⟩ = some (.int .i64 0) := HAW.out.cell 1
      have k4 : wr.frozen? ⟨b0, 0, none⟩ = false := HAW.out.frozen 0
      have k5 : wr.frozen? ⟨b0, 1, none⟩ = false := HAW.out.frozen 1
      go_wp2_with fail
      refine ret_at Tryd.results11 b0 _ ((HAW.out.set_ 0 _).set_ 1 _) rfl rfl rfl ?_
      rw [HE.out, ← HBW.out]
      have hu : Upd (fun k => k = b0) wr ((wr.setCell ⟨b0, 0, none⟩ (.int .i64 0)).setCell ⟨b0, 1, none⟩ (.int .i64 0)) := ((Upd.refl (fun k => k = b0) wr).setCell (p := ⟨b0, 0, none⟩) (.inl rfl) _).setCell (p := ⟨b0, 1, none⟩) (.inl rfl) _
      refine ⟨_, rfl, ⟨G, ?_⟩, ((HB0.out.trans (HBWR.out.mono (by omega))).setCell (p := ⟨b0, 0, none⟩) (Nat.le_refl _) _).setCell (p := ⟨b0, 1, none⟩) (Nat.le_refl _) _⟩
      show StzG _ G (.slice vA L.length vc) σ.all
      rw [← HLL.out]
      exact HST.out.upd hu (fun k hk e => by have := HGQ.out k hk; have := HQ.out; omega)
    have hln : (i : Int) < (M.length : Int) := by omega
    obtain ⟨g, rfl, hcg⟩ := HC.out i hlt
    have k1 : wr.cell? ⟨g, i, none⟩ = some (.string M[i]) := by
      have hg := World.block_lt_of_cell? w2 _ hcg
      have h1 := HQ2.out
      rw [HI.out.2.2.1.cell (p := ⟨g, i, none⟩) (by show g < q; have : g < w2.heap.size := hg; omega), HB3.out.cell (p := ⟨g, i, none⟩) (by show g < q; have : g < w2.heap.size := hg; omega)]
      exact hcg
    have hdr := List.drop_eq_getElem_cons hlt
    obtain ⟨s, hs⟩ : ∃ s, s = M[i] := ⟨_, rfl⟩
    have hss : s.size ≤ 1048576 := by have := HM2.out s (by rw [hs]; exact List.getElem_mem hlt); omega
    rw [← hs] at k1 hdr
    have hbw : q ≤ wr.heap.size := by have h1 := HQ2.out; have h2 := HI.out.2.2.1.size; omega
    have HTK := Lib.hid (fun W (hW : wr = W) => take_any q q i σ s ((i : Int) + 1) wr HI.out.1 HI.out.2.1 (by omega) hss (Nat.le_refl _) hbw (tabs_later HT0.out (by rw [HW0S.out]; exact HBWR.out)))
    clear hcg hs
    cases hres : takeS s ((i : Int) + 1) σ with
    | error k =>
      have hk0 := takeS_err hres
      have q2 : (k != 0) = true := (bne_iff_ne).2 hk0
      have HE : Hid (R = .error (k, i + 1)) := Lib.hid (by rw [HI.out.2.2.2, hdr]; unfold runS; rw [hres])
      rw [hres] at HTK
      clear hk0 hres
      go_upto_region 9 with (go_at_call 25; refine (HTK.out _ rfl).mono ?_; rintro e w4 ⟨rfl, hb4⟩; have HB4 := Lib.hid hb4; clear hb4)
      have HAW4 : Hid (Blk w4 b0 26 #[.int .i64 0, .int .i64 0]) := Lib.hid (HAW.out.below HB4.out HQ.out)
      have k0 : w4.cell? ⟨b0, 0, none⟩ = some (.int .i64 0) := HAW4.out.cell 0
      have k2 : w4.cell? ⟨b0, 1, none⟩ = some (.int .i64 0) := HAW4.out.cell 1
      have k4 : w4.frozen? ⟨b0, 0, none⟩ = false := HAW4.out.frozen 0
      have k5 : w4.frozen? ⟨b0, 1, none⟩ = false := HAW4.out.frozen 1
      go_wp2_with fail
      refine ret_at Tryd.results11 b0 _ ((HAW4.out.set_ 0 _).set_ 1 _) rfl rfl rfl ?_
      rw [HE.out, ← HBW.out]
      exact ⟨_, rfl, StzAt.nil _, ((HB0.out.trans ((HBWR.out.mono (by omega)).trans (HB4.out.mono (by have := HQ.out; omega)))).setCell (p := ⟨b0, 0, none⟩) (Nat.le_refl _) _).setCell (p := ⟨b0, 1, none⟩) (Nat.le_refl _) _⟩
    | ok σ' =>
      have HE : Hid (Small (i + 1) σ' ∧ R = runS (M.drop (i + 1)) (i + 1) σ') := Lib.hid ⟨HI.out.2.1.take (by omega) hss hres, by rw [HI.out.2.2.2, hdr]; exact runS_ok hres⟩
      rw [hres] at HTK
      clear hres
      go_wp2_with (go_at_call 25; refine (HTK.out _ rfl).mono ?_; rintro e w4 ⟨rfl, hr4, hb4⟩; have HB4 := Lib.hid hb4; have HR4 := Lib.hid hr4; clear hb4 hr4)
      refine ⟨⟨i + 1, σ', by go_num, by omega, Lib.hid ⟨HR4.out, HE.out.1, HI.out.2.2.1.trans HB4.out, HE.out.2⟩⟩, ?_⟩
      show M.length - ((i : Int) + 1).toNat < M.length - (i : Int).toNat
      omega
end Go.Proofs.YtjkaigfpjebfbaaDoor
