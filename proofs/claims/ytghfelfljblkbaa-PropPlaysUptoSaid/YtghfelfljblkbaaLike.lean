/- chandlerlaw14: like. -/
import Derived.Test.YtghfelfljblkbaaRPop
import Derived.Test.YtghfelfljblkbaaNewT
import Derived.Test.YtghfelfljblkbaaSameL
namespace Go.Proofs.Ytghfelfljblkbaa
open Go.RowKit Go.Sort
set_option linter.unusedVariables false

/-- Both trails, side by side. -/
structure TT (w0 w : World) (p gv q qs : Nat) (Al At Am B Bt Bm : Option Addr) (cl ct cm cb dt dm n : Nat) (K KR : Nat → Prop) (L : List (List Int)) (T : List Int) (M : List Nat) (T2 : List Int) (M2 : List Nat) : Prop where
  t : TrAt w p gv Al At Am cl ct cm n K L T M
  r : RTrAt w q qs B Bt Bm cb dt dm n KR L T2 M2
  bel : Below w0.heap.size w0 w
  lo : ∀ i, tF p gv At Am i ∨ rF q Bt Bm i → w0.heap.size ≤ i
  ne : ∀ i, tF p gv At Am i → ¬ rF q Bt Bm i ∧ ¬ KR i
  nk : ∀ i, K i → ¬ rF q Bt Bm i
section
variable {w0 w w' : World} {p gv q qs : Nat} {Al At Am B Bt Bm At' Am' Bt' Bm' : Option Addr} {cl ct cm cb dt dm ct' cm' dt' dm' n : Nat} {K KR : Nat → Prop} {L : List (List Int)} {T T2 T' : List Int} {M M2 M' : List Nat}
theorem TT.below (h : TT w0 w p gv q qs Al At Am B Bt Bm cl ct cm cb dt dm n K KR L T M T2 M2) (hb : Below w.heap.size w w') : TT w0 w' p gv q qs Al At Am B Bt Bm cl ct cm cb dt dm n K KR L T M T2 M2 :=
  ⟨h.t.below hb, h.r.below hb, h.bel.trans (hb.mono h.bel.size), h.lo, h.ne, h.nk⟩
theorem TT.fst (h : TT w0 w p gv q qs Al At Am B Bt Bm cl ct cm cb dt dm n K KR L T M T2 M2) (hr : TrRes w w' p gv Al At Am At' Am' cl ct' cm' n K L T' M') : TT w0 w' p gv q qs Al At' Am' B Bt Bm cl ct' cm' cb dt dm n K KR L T' M' T2 M2 := by
  refine ⟨hr.tr, h.r.upd hr.upd (fun i hi hT => (h.ne i hT).1 hi) (fun i hi hT => (h.ne i hT).2 hi), h.bel.trans (hr.upd.below (fun i hi => h.lo i (.inl hi)) h.bel.size), fun i hi => ?_, fun i hi => ?_, h.nk⟩
  · rcases hi with hi | hi
    · rcases hr.own i hi with h9 | h9
      · exact h.lo i (.inl h9)
      · exact Nat.le_trans h.bel.size h9
    · exact h.lo i (.inr hi)
  · rcases hr.own i hi with h9 | h9
    · exact h.ne i h9
    · exact ⟨fun h8 => by have := h.r.lt i h8; omega, fun h8 => by have := h.r.cls.1 i h8; omega⟩
theorem TT.snd (h : TT w0 w p gv q qs Al At Am B Bt Bm cl ct cm cb dt dm n K KR L T M T2 M2) (hr : RTrRes w w' q qs B Bt Bm Bt' Bm' cb dt' dm' n KR L T' M') : TT w0 w' p gv q qs Al At Am B Bt' Bm' cl ct cm cb dt' dm' n K KR L T M T' M' := by
  refine ⟨h.t.upd hr.upd (fun i hi hT => (h.ne i hi).1 hT) (fun i hi hT => h.nk i hi hT), hr.tr, h.bel.trans (hr.upd.below (fun i hi => h.lo i (.inr hi)) h.bel.size), fun i hi => ?_, fun i hi => ⟨fun h8 => ?_, (h.ne i hi).2⟩, fun i hi h8 => ?_⟩
  · rcases hi with hi | hi
    · exact h.lo i (.inl hi)
    · rcases hr.own i hi with h9 | h9
      · exact h.lo i (.inr h9)
      · exact Nat.le_trans h.bel.size h9
  · rcases hr.own i h8 with h9 | h9
    · exact (h.ne i hi).1 h9
    · have := h.t.lt i hi; omega
  · rcases hr.own i h8 with h9 | h9
    · exact h.nk i hi h9
    · have := h.t.klt i hi; omega
end
theorem ofT_out {n : Nat} {T : List Int} {x : Int} (h : Un n T) (hx : (n : Int) < x) : Pr.ofT T x = 0 := by
  unfold Pr.ofT
  rw [if_neg (fun h1 => by have := h.in_ _ h1; unfold Cf.va at this; omega), if_neg (fun h1 => by have := h.in_ _ h1; unfold Cf.va at this; omega)]
theorem vl_all {n : Nat} {T : List Int} (h : Un n T) (v : Nat) : vl n T (v : Int) = if v = 0 then 0 else Pr.ofT T (v : Int) := by
  unfold vl
  by_cases h0 : v = 0
  · rw [if_neg (by omega), if_pos h0]
  · rw [if_neg h0]
    by_cases h1 : v ≤ n
    · rw [if_pos ⟨by omega, by omega⟩]
    · rw [if_neg (by omega), ofT_out h (by omega)]
section
variable (w0 : World) (p gv q qs : Nat) (Al At Am B Bt Bm : Option Addr) (cl ct cm cb dt dm n : Nat) (K KR : Nat → Prop) (L : List (List Int)) (T : List Int) (M : List Nat)
set_option maxRecDepth 100000 in
set_option maxHeartbeats 4000000 in
theorem like_any (w : World) (h : TT w0 w p gv q qs Al At Am B Bt Bm cl ct cm cb dt dm n K KR L T M T M) (hM : M.length ≤ 100000) :
    Calls Try.prog 47 #[.pointer (some ⟨p, 0, none⟩), .pointer (some ⟨q, 0, none⟩)] w fun e w' => e = .returned (.bool true) ∧ Below w.heap.size w w' := by
  have hn := h.t.n
  obtain ⟨t, ht⟩ : ∃ t, t = T.length := ⟨_, rfl⟩
  obtain ⟨m, hm⟩ : ∃ m, m = M.length := ⟨_, rfl⟩
  have htl := h.t.tlen
  have hok := h.t.ok
  have HT := Lib.hid h
  have HBK : Hid (Blk w q 92 #[.pointer (some ⟨qs, 0, none⟩), .slice Bt t dt, .slice Bm m dm]) := Lib.hid (by rw [ht, hm]; exact h.r.blk)
  have HLT : Hid (∀ W, Below w.heap.size w W → Calls Try.prog 42 #[.pointer (some ⟨p, 0, none⟩)] W fun e w' => ∃ A8 c8, e = .returned (.slice A8 t c8) ∧ Lits w' A8 t T ∧ Below W.heap.size W w') := Lib.hid (fun W hW => (TLits_any p gv cl ct cm n Al At Am K L T M W (h.t.below hW)).mono fun e w' ⟨v, he, ho, hb⟩ => by
    obtain ⟨A8, c8, hv, hl, _⟩ := ho.lits hok
    exact ⟨A8, c8, by rw [he, hv, ht], by rw [ht]; exact hl, hb⟩)
  have HCL : Hid (∀ W, Below w.heap.size w W → Calls Try.prog 43 #[.pointer (some ⟨p, 0, none⟩)] W fun e w' => e = .returned (.int .i64 (Pr.clash L T)) ∧ Below W.heap.size W w') := Lib.hid (fun W hW => Clash_any p gv cl ct cm n Al At Am K L T M W (h.t.below hW))
  have HRC : Hid (∀ W, Below w.heap.size w W → Calls Try.prog 85 #[.pointer (some ⟨q, 0, none⟩)] W fun e w' => e = .returned (.int .i64 (Pr.clash L T)) ∧ W = w') := Lib.hid (fun W hW => RClash_any q qs cb dt dm n B Bt Bm KR L T M W (h.r.below hW))
  have HLV : Hid (∀ W, Below w.heap.size w W → Calls Try.prog 52 #[.pointer (some ⟨p, 0, none⟩)] W fun e w' => e = .returned (.int .i64 (m : Int)) ∧ W = w') := Lib.hid (fun W hW => by rw [hm]; exact Levels_any p gv cl ct cm n Al At Am K L T M W (h.t.below hW))
  have HRL : Hid (∀ W, Below w.heap.size w W → Lits W Bt t T) := Lib.hid (fun W hW => by rw [ht]; exact (h.r.below hW).lit)
  have HK1 : Hid (∀ W, Below w.heap.size w W → W.cell? ⟨q, 1, none⟩ = some (.slice Bt t dt)) := Lib.hid (fun W hW => (HBK.out.below hW HBK.out.lt).cell 1)
  have HK2 : Hid (∀ W, Below w.heap.size w W → W.cell? ⟨q, 2, none⟩ = some (.slice Bm m dm)) := Lib.hid (fun W hW => (HBK.out.below hW HBK.out.lt).cell 2)
  generalize Pr.clash L T = z at HCL HRC
  rw [← ht] at htl
  rw [← hm] at hM
  have hzz : (z != z) = false := by simp
  have hmm : ((m : Int) != (m : Int)) = false := by simp
  have hb0 : Below w.heap.size w w := Below.refl _ _
  have hb0' : Below w.heap.size w w.drew := ⟨rfl, rfl, rfl, Nat.le_refl _, fun _ _ => rfl⟩
  have hk10 := HK1.out w hb0
  have hk20 := HK2.out w hb0
  clear h ht hm hok
  go_enter Try.func47, Try.ntmps47
  go_upto_region 1 with fail
  go_cut [31] (fun v wx => v = .bool false ∧ Hid (Below w.heap.size w wx))
  case first =>
    go_region_with (first
      | (go_at_call 42
         refine (HLT.out _ (by assumption)).mono ?_
         rintro e w8 ⟨A8, c8, rfl, hl8, hb8⟩
         have hbA : Below w.heap.size w w8 := (show Below w.heap.size w _ from by assumption).trans (hb8.mono (show Below w.heap.size w _ from by assumption).size)
         have hSM := SameLits_any A8 Bt t t c8 dt T T w8 hl8 (HRL.out w8 hbA) (by omega)
         rw [decide_eq_true rfl] at hSM
         have HSM := Lib.hid hSM
         have hk1 := HK1.out w8 hbA
         have hk2 := HK2.out w8 hbA
         clear hl8 hb8 hSM)
      | (go_at_call 25
         refine HSM.out.mono ?_
         rintro e w9 ⟨rfl, hb9⟩
         have hbB : Below w.heap.size w w9 := hbA.trans (hb9.mono hbA.size)
         have hk1 := HK1.out w9 hbB
         have hk2 := HK2.out w9 hbB
         clear hb9 HSM)
      | (go_at_call 43
         refine (HCL.out _ (by assumption)).mono ?_
         rintro e w10 ⟨rfl, hb10⟩
         have hbC : Below w.heap.size w w10 := (show Below w.heap.size w _ from by assumption).trans (hb10.mono (show Below w.heap.size w _ from by assumption).size)
         have hk1 := HK1.out w10 hbC
         have hk2 := HK2.out w10 hbC
         clear hb10)
      | (go_at_call 85; refine (HRC.out _ (by assumption)).mono ?_; rintro e wb ⟨rfl, rfl⟩)
      | (go_at_call 52; refine (HLV.out _ (by assumption)).mono ?_; rintro e wb ⟨rfl, rfl⟩))
    all_goals
      go_wp2_with fail
      go_meet
      exact ⟨rfl, Lib.hid (by assumption)⟩
  case rest =>
    obtain ⟨rfl, HB3⟩ := hcut
    have HT3 := Lib.hid (HT.out.below HB3.out)
    have d0 : wc.cell? ⟨q, 0, none⟩ = some (.pointer (some ⟨qs, 0, none⟩)) := HT3.out.r.blk.cell 0
    have d1 : wc.cell? ⟨qs, 0, none⟩ = some (.int .i64 (n : Int)) := HT3.out.r.sblk.cell 0
    clear HT HBK HLT HCL HRC HLV HRL HK1 HK2 hzz hmm hb0 hb0' hk10 hk20
    go_wp2_with fail
    go_loopw [40] (fun s wx => ∃ j : Nat, s = .int .i64 (j : Int) ∧ j ≤ n + 2 ∧ wx = wc) (fun s _ => n + 2 - (match s with | .int _ x => x.toNat | _ => 0))
    case atStart => exact ⟨0, rfl, Nat.zero_le _, rfl⟩
    case round =>
      obtain ⟨j, rfl, hj, hwr⟩ := hrel
      subst hwr
      by_cases hlt : j < n + 2
      · have i1 : (j : Int) < (n : Int) + 2 := by omega
        have HRV := RValue_any q qs cb dt dm n B Bt Bm KR L T M (j : Int) wr HT3.out.r (by omega)
        have HV := Value_any p gv cl ct cm n Al At Am K L T M (j : Int) wr HT3.out.t
        rw [vl_all HT3.out.t.un] at HV
        by_cases h0 : j = 0
        · subst h0
          rw [if_pos rfl] at HV
          have HV' : Hid (Calls Try.prog 51 #[.pointer (some ⟨p, 0, none⟩), .int .i64 0] wr fun e w' => e = .returned (.int .i64 0) ∧ wr = w') := Lib.hid HV
          clear HV HRV
          go_wp2_with (go_at_call 51; refine HV'.out.mono ?_; rintro e w1 ⟨rfl, rfl⟩)
          refine ⟨⟨1, by go_num, by omega, trivial⟩, ?_⟩
          simp
        · rw [if_neg h0] at HV
          have HV' := Lib.hid HV
          have HRV' := Lib.hid HRV
          generalize Pr.ofT T (j : Int) = y at HV' HRV'
          have hyy : (y != y) = false := by simp
          have j0 : (0 : Int) < (j : Int) := by omega
          clear HV HRV h0
          go_wp2_with (first
            | (go_at_call 51; refine HV'.out.mono ?_; rintro e w1 ⟨rfl, rfl⟩)
            | (go_at_call 86; refine HRV'.out.mono ?_; rintro e w1 ⟨rfl, rfl⟩))
          refine ⟨⟨j + 1, by go_num, by omega, trivial⟩, ?_⟩
          show n + 2 - ((j : Int) + 1).toNat < n + 2 - (j : Int).toNat
          omega
      · have hjn : (j : Int) = (n : Int) + 2 := by omega
        go_wp2_with fail
        go_ret
        exact ⟨rfl, HB3.out⟩
end
end Go.Proofs.Ytghfelfljblkbaa
