/- PropPlays: the walk. -/
import Derived.Test.YtghfelfljblkbaaLike
import Derived.Test.YtghfelfljblkbaaBothP
import Derived.Test.YtghfelfljblkbaaAwakeP
namespace Go.Proofs.Ytghfelfljblkbaa
open Go.RowKit Go.Sort
set_option linter.unusedVariables false

/-- Marks of levels: each level has begun behind the last. -/
def MkOk (M : List Nat) (T : List Int) : Prop := M.Pairwise (· < ·) ∧ ∀ m ∈ M, m < T.length
theorem MkOk.nil (T : List Int) : MkOk [] T := ⟨List.Pairwise.nil, by simp⟩
theorem MkOk.push {M : List Nat} {T R : List Int} {x : Int} (h : MkOk M T) (hR : (T ++ [x]) <+: R) : MkOk (M ++ [T.length]) R := by
  have hl := hR.length_le
  rw [List.length_append, List.length_singleton] at hl
  refine ⟨?_, fun m hm => ?_⟩
  · rw [List.pairwise_append]
    exact ⟨h.1, by simp, fun a ha b hb => by rw [List.mem_singleton.1 hb]; exact h.2 a ha⟩
  · rcases List.mem_append.1 hm with h1 | h1
    · have := h.2 m h1; omega
    · rw [List.mem_singleton.1 h1]; omega
theorem MkOk.pop {M : List Nat} {T : List Int} {m : Nat} (h : MkOk (M ++ [m]) T) : m < T.length ∧ MkOk M (T.take m) := by
  have h1 := h.2 m (by simp)
  refine ⟨h1, (List.pairwise_append.1 h.1).1, fun a ha => ?_⟩
  have := (List.pairwise_append.1 h.1).2.2 a ha m (by simp)
  rw [List.length_take]
  omega
theorem RSetAt.clsK {w : World} {q cb n : Nat} {B : Option Addr} {L : List (List Int)} (h : RSetAt w q B cb n L) : ClsK w (fun i => i < w.heap.size) B L := by
  refine ⟨fun i hi => hi, fun h0 => ?_⟩
  obtain ⟨xs, ho, hi⟩ := h.row
  obtain ⟨g, _, _, hA, _, _⟩ := row_cell ho hi (j := 0) h0
  refine ⟨g, hA, (ho.lt g (by rw [hA]; rfl)).2, fun j hj => ?_⟩
  obtain ⟨Aj, cj, h1, h2, h3⟩ := hi.2 j hj
  subst hA
  exact ⟨Aj, cj, by rw [ho.cellAt j (by omega)]; exact h1, h2, fun g o e => (h3 g o e).lt⟩
theorem fol_pre {n : Nat} {L : List (List Int)} {T R : List Int} (h : Pr.Fol L T R) (hL : Pr.Cl n L) (hT : Un n T) : T <+: R := (Pr.fol_un h hL hT).2
set_option maxRecDepth 100000 in
set_option maxHeartbeats 8000000 in
theorem propPlays_any (x : Int) (v : Value) (Z : List (List Int)) (C : Option Addr) (lc cc : Nat) (cs : List Int) (w : World) (hz : ClsAt w v Z) (hZ : Z.length ≤ 4294967296) (hc : Lits w C lc cs) (hlc : lc ≤ 1048576) :
    Calls Try.prog 11 #[.int .i64 x, v, .slice C lc cc] w fun e w' => e = .returned (.bool true) ∧ Below w.heap.size w w' := by
  have HBO := Lib.hid (bothP_any x v Z w hz hZ)
  obtain ⟨AZ, cZ, rfl, _⟩ := hz
  have HC := Lib.hid hc
  clear hc
  go_enter Try.func11, Try.ntmps11
  go_wp2_with fail
  go_at_call 39
  refine HBO.out.mono ?_
  rintro e w1 ⟨n, s, q0, A, B, ca, cb, rfl, hn, htw, hcl⟩
  obtain ⟨L, hL⟩ : ∃ L, L = bothQ 30 10 n Z 0 [] := ⟨_, rfl⟩
  rw [← hL] at htw hcl
  have HTW := Lib.hid htw
  have HCL := Lib.hid hcl
  have HSH : Hid (∀ c ∈ L, c.length ≤ 1048576) := Lib.hid (fun c hc => by have := htw.short c hc; omega)
  have HNT := Lib.hid (NewT_any s ca n A L w1 htw.s HSH.out hcl)
  clear htw hcl hL HBO
  go_wp2_with fail
  go_at_call 40
  refine HNT.out.mono ?_
  rintro e w2 ⟨p, gv, Al, cl, At, ct, K, R, rfl, htr, hf, hb2, hlo⟩
  have HST := Lib.hid (Start_any q0 cb n B (fun i => i < w1.heap.size) L w2 (HTW.out.r.blk.below hb2 HTW.out.r.blk.lt) (HTW.out.r.clsK.below hb2) HTW.out.r.blk.lt HTW.out.r.n HTW.out.r.len HSH.out HCL.out)
  have HTR := Lib.hid htr
  have HF := Lib.hid hf
  have HB2 := Lib.hid hb2
  have HLO := Lib.hid hlo
  clear htr hf hb2 hlo HNT
  go_wp2_with fail
  go_at_call 46
  refine HST.out.mono ?_
  rintro e w3 ⟨q, Bt, dt, R2, rfl, hrt, hf2, hb3, hlo3⟩
  obtain rfl : R2 = R := Pr.fol_det hf2 HF.out
  have HT0 : Hid (TT w w3 p gv q q0 Al At none B Bt none cl ct 0 cb dt 0 n K (fun i => i < w1.heap.size) L R2 [] R2 []) := Lib.hid ⟨HTR.out.below hb3, hrt, HTW.out.bel.trans ((HB2.out.trans (hb3.mono HB2.out.size)).mono HTW.out.bel.size), fun i hi => by
    rcases hi with hi | hi
    · exact Nat.le_trans HTW.out.bel.size (HLO.out i (.inl hi))
    · exact Nat.le_trans HTW.out.bel.size (Nat.le_trans HB2.out.size (hlo3 i hi)), fun i hi => ⟨fun h9 => by
      have h1 := HTR.out.lt i hi
      have h2 := hlo3 i h9
      omega, fun h9 => by
      have h1 := HLO.out i (.inl hi)
      have h2 : i < w1.heap.size := h9
      omega⟩, fun i hi h9 => by
      have h1 := HTR.out.klt i hi
      have h2 := hlo3 i h9
      omega⟩
  have HLK0 := Lib.hid (like_any w p gv q q0 Al At none B Bt none cl ct 0 cb dt 0 n K (fun i => i < w1.heap.size) L R2 [] w3 HT0.out (by simp))
  clear hrt hf2 hb3 hlo3 HST HTR HF HB2 HLO HTW
  go_wp2_with fail
  go_at_call 47
  refine HLK0.out.mono ?_
  rintro e w4 ⟨rfl, hb4⟩
  have HT4 := Lib.hid (HT0.out.below hb4)
  clear hb4 HLK0 HT0
  go_wp2_with fail
  go_loopw [11] (fun t wr => ∃ (i : Nat) (T : List Int) (M : List Nat) (At Am Bt Bm : Option Addr) (ct cm dt dm : Nat), t = .int .i64 (i : Int) ∧ i ≤ 25 ∧ M.length ≤ i ∧ Hid (MkOk M T) ∧ Hid (TT w wr p gv q q0 Al At Am B Bt Bm cl ct cm cb dt dm n K (fun i => i < w1.heap.size) L T M T M)) (fun t _ => 25 - (match t with | .int _ x => x.toNat | _ => 0))
  case atStart => exact ⟨0, R2, [], At, none, Bt, none, ct, 0, dt, 0, rfl, by omega, by simp, Lib.hid (MkOk.nil _), HT4⟩
  case round =>
    obtain ⟨i, T, M, At, Am, Bt, Bm, ct, cm, dt, dm, rfl, hi, hMi, HMK, HT⟩ := hrel
    clear HT4
    by_cases h1 : i < lc
    · have i1 : (i : Int) < (lc : Int) := by omega
      by_cases h2 : i < 25
      · have i2 : (i : Int) < 25 := by omega
        obtain ⟨b, o, hC, hbl, hcell⟩ := HC.out.2.2 (by omega)
        obtain ⟨y, hy⟩ : ∃ y, y = cs.getD i 0 := ⟨_, rfl⟩
        have HKY : Hid (∀ W, Below w.heap.size w W → W.cell? ⟨b, o + i, none⟩ = some (.int .i64 y)) := Lib.hid (fun W hW => by rw [hy]; exact (hW.cell hbl).trans (hcell i h1))
        have hyo : Ok y := by rw [hy]; exact HC.out.ok i
        have HYO := Lib.hid hyo
        have ky := HKY.out wr HT.out.bel
        subst hC
        clear hcell hy hyo hbl
        go_upto_if 44 with fail
        go_cut [] (fun wx => ∃ (T : List Int) (M : List Nat) (At Am Bt Bm : Option Addr) (ct cm dt dm : Nat), M.length ≤ i + 1 ∧ Hid (MkOk M T) ∧ Hid (TT w wx p gv q q0 Al At Am B Bt Bm cl ct cm cb dt dm n K (fun i => i < w1.heap.size) L T M T M))
        case first =>
          by_cases h0 : y = 0
          · have hd : (y == 0) = true := by rw [h0]; rfl
            clear h0
            rcases List.eq_nil_or_concat M with rfl | ⟨M0, m, rfl⟩
            · have HP := Lib.hid (Pop_no p gv cl ct cm n Al At Am K L T wr HT.out.t)
              have HRP := Lib.hid (RPop_no q q0 cb dt dm n B Bt Bm (fun i => i < w1.heap.size) L T wr HT.out.r)
              go_wp2_with (first
                | (go_at_call 48; refine HP.out.mono ?_; rintro e wa ⟨rfl, rfl⟩)
                | (go_at_call 49; refine HRP.out.mono ?_; rintro e wb ⟨rfl, rfl⟩))
              go_meet
              exact ⟨T, [], At, Am, Bt, Bm, ct, cm, dt, dm, by simp, HMK, HT⟩
            · rw [List.concat_eq_append] at *
              have hpop := HMK.out.pop
              have HMP := Lib.hid hpop.2
              have hml : M0.length ≤ i := by rw [List.length_append] at hMi; omega
              have HP := Lib.hid (Pop_yes p gv cl ct cm n Al At Am K L T M0 m wr HT.out.t hpop.1 (by omega))
              go_wp2_with fail
              go_at_call 48
              refine HP.out.mono ?_
              rintro e wa ⟨rfl, hra⟩
              have HTA := Lib.hid (HT.out.fst hra)
              have HRP := Lib.hid (RPop_yes q q0 cb dt dm n B Bt Bm (fun i => i < w1.heap.size) L T M0 m wa HTA.out.r hpop.1 (by omega))
              clear hra hpop
              go_wp2_with fail
              go_at_call 49
              refine HRP.out.mono ?_
              rintro e wb ⟨rfl, hrb⟩
              have HTB := Lib.hid (HTA.out.snd hrb)
              clear hrb
              go_wp2_with fail
              go_meet
              exact ⟨_, M0, _, _, _, _, _, _, _, _, by omega, HMP, HTB⟩
          · have hd : (y == 0) = false := by rw [beq_eq_false_iff_ne]; exact h0
            clear h0
            cases hmp : mayP n L T y with
            | false =>
              have HP : Hid (∀ W, Below wr.heap.size wr W → Calls Try.prog 41 #[.pointer (some ⟨p, 0, none⟩), .int .i64 y] W fun e w' => e = .returned (.bool false) ∧ TT w w' p gv q q0 Al At Am B Bt Bm cl ct cm cb dt dm n K (fun i => i < w1.heap.size) L T M T M) := Lib.hid (fun W hW => (Push_no p gv cl ct cm n Al At Am K L T M y HYO.out W (HT.out.t.below hW) hmp).mono fun e w' ⟨he, hb⟩ => ⟨he, (HT.out.below hW).below hb⟩)
              have HRP : Hid (∀ V, TT w V p gv q q0 Al At Am B Bt Bm cl ct cm cb dt dm n K (fun i => i < w1.heap.size) L T M T M → ∀ W, Below V.heap.size V W → Calls Try.prog 50 #[.pointer (some ⟨q, 0, none⟩), .int .i64 y] W fun e w' => e = .returned (.bool false) ∧ TT w w' p gv q q0 Al At Am B Bt Bm cl ct cm cb dt dm n K (fun i => i < w1.heap.size) L T M T M) := Lib.hid (fun V hV W hW => (RPush_no q q0 cb dt dm n B Bt Bm (fun i => i < w1.heap.size) L T M y HYO.out W (hV.r.below hW) hmp).mono fun e w' ⟨he, k, hk⟩ => ⟨he, by rw [hk]; exact (hV.below hW).below ⟨rfl, rfl, rfl, Nat.le_refl _, fun _ _ => rfl⟩⟩)
              have hb0 : Below wr.heap.size wr wr := Below.refl _ _
              have hb0' : Below wr.heap.size wr wr.drew := ⟨rfl, rfl, rfl, Nat.le_refl _, fun _ _ => rfl⟩
              clear hmp
              go_wp2_with fail
              go_region_with (first
                | (go_at_call 41
                   refine (HP.out _ (by assumption)).mono ?_
                   rintro e wa ⟨rfl, hta⟩
                   have HTA := Lib.hid hta
                   have ky2 := HKY.out wa hta.bel
                   have hba : Below wa.heap.size wa wa := Below.refl _ _
                   clear hta)
                | (go_at_call 50
                   refine (HRP.out wa HTA.out _ (by assumption)).mono ?_
                   rintro e wb ⟨rfl, htb⟩
                   have HTB := Lib.hid htb
                   clear htb))
              all_goals
                go_wp2_with fail
                go_meet
                exact ⟨T, M, At, Am, Bt, Bm, ct, cm, dt, dm, by omega, HMK, HTB⟩
            | true =>
              have HP : Hid (∀ W, Below wr.heap.size wr W → Calls Try.prog 41 #[.pointer (some ⟨p, 0, none⟩), .int .i64 y] W fun e w' => e = .returned (.bool true) ∧ ∃ R At' ct' Am' cm', Pr.Fol L (T ++ [y]) R ∧ TT w w' p gv q q0 Al At' Am' B Bt Bm cl ct' cm' cb dt dm n K (fun i => i < w1.heap.size) L R (M ++ [T.length]) T M) := Lib.hid (fun W hW => (Push_yes p gv cl ct cm n Al At Am K L T M y W (HT.out.t.below hW) hmp (by omega)).mono fun e w' ⟨he, R, At', ct', Am', cm', hf, hr⟩ => ⟨he, R, At', ct', Am', cm', hf, (HT.out.below hW).fst hr⟩)
              have HRP : Hid (∀ R At' ct' Am' cm' V, Pr.Fol L (T ++ [y]) R → TT w V p gv q q0 Al At' Am' B Bt Bm cl ct' cm' cb dt dm n K (fun i => i < w1.heap.size) L R (M ++ [T.length]) T M → ∀ W, Below V.heap.size V W → Calls Try.prog 50 #[.pointer (some ⟨q, 0, none⟩), .int .i64 y] W fun e w' => e = .returned (.bool true) ∧ ∃ Bt' dt' Bm' dm', TT w w' p gv q q0 Al At' Am' B Bt' Bm' cl ct' cm' cb dt' dm' n K (fun i => i < w1.heap.size) L R (M ++ [T.length]) R (M ++ [T.length])) := Lib.hid (fun R At' ct' Am' cm' V hf hV W hW => (RPush_yes q q0 cb dt dm n B Bt Bm (fun i => i < w1.heap.size) L T M y W (hV.r.below hW) hmp (by omega)).mono fun e w' ⟨he, R', Bt', dt', Bm', dm', hf', hr⟩ => by
                obtain rfl : R' = R := Pr.fol_det hf' hf
                exact ⟨he, Bt', dt', Bm', dm', (hV.below hW).snd hr⟩)
              have HFP : Hid (∀ R, Pr.Fol L (T ++ [y]) R → MkOk (M ++ [T.length]) R) := Lib.hid (fun R hf => HMK.out.push (fol_pre hf HCL.out (by
                unfold mayP at hmp
                simp at hmp
                exact Pr.un_snoc HT.out.t.un ⟨hmp.1, hmp.2.1⟩ hmp.2.2.1)))
              have hb0 : Below wr.heap.size wr wr := Below.refl _ _
              have hb0' : Below wr.heap.size wr wr.drew := ⟨rfl, rfl, rfl, Nat.le_refl _, fun _ _ => rfl⟩
              clear hmp
              go_wp2_with fail
              go_region_with (first
                | (go_at_call 41
                   refine (HP.out _ (by assumption)).mono ?_
                   rintro e wa ⟨rfl, R, At', ct', Am', cm', hfa, hta⟩
                   have HTA := Lib.hid hta
                   have HFA := Lib.hid hfa
                   have ky2 := HKY.out wa hta.bel
                   have hba : Below wa.heap.size wa wa := Below.refl _ _
                   clear hta hfa)
                | (go_at_call 50
                   refine (HRP.out R At' ct' Am' cm' wa HFA.out HTA.out _ (by assumption)).mono ?_
                   rintro e wb ⟨rfl, Bt', dt', Bm', dm', htb⟩
                   have HTB := Lib.hid htb
                   clear htb))
              all_goals
                go_wp2_with fail
                go_meet
                exact ⟨R, M ++ [T.length], At', Am', Bt', Bm', ct', cm', dt', dm', by rw [List.length_append]; simp; omega, Lib.hid (HFP.out R HFA.out), HTB⟩
        case rest =>
          obtain ⟨T', M', At', Am', Bt', Bm', ct', cm', dt', dm', hml, HMK', HT'⟩ := hcut
          have HLK := Lib.hid (like_any w p gv q q0 Al At' Am' B Bt' Bm' cl ct' cm' cb dt' dm' n K (fun i => i < w1.heap.size) L T' M' wc HT'.out (by omega))
          clear HT HMK ky
          go_wp2_with fail
          go_at_call 47
          refine HLK.out.mono ?_
          rintro e w6 ⟨rfl, hb6⟩
          have HT6 := Lib.hid (HT'.out.below hb6)
          clear hb6
          go_wp2_with fail
          refine ⟨⟨i + 1, T', M', At', Am', Bt', Bm', ct', cm', dt', dm', by go_num, by omega, hml, HMK', HT6⟩, ?_⟩
          show 25 - ((i : Int) + 1).toNat < 25 - (i : Int).toNat
          omega
      · have hd2 : decide ((i : Int) < 25) = false := decide_eq_false (by omega)
        have HBW : Hid (Below w.heap.size w wr) := Lib.hid HT.out.bel
        have HAW := Lib.hid (awakeP_any wr)
        go_wp2_with (go_at_call 45; refine HAW.out.mono ?_; rintro e w6 ⟨rfl, hb6⟩)
        go_ret
        exact ⟨rfl, HBW.out.trans (hb6.mono HBW.out.size)⟩
    · have hd1 : decide ((i : Int) < (lc : Int)) = false := decide_eq_false (by omega)
      have HBW : Hid (Below w.heap.size w wr) := Lib.hid HT.out.bel
      have HAW := Lib.hid (awakeP_any wr)
      go_wp2_with (go_at_call 45; refine HAW.out.mono ?_; rintro e w6 ⟨rfl, hb6⟩)
      go_ret
      exact ⟨rfl, HBW.out.trans (hb6.mono HBW.out.size)⟩
open Go.ChangeShapes Go.WideShapes Go.ChangeAt in
set_option maxRecDepth 100000 in
theorem propPlays_walk {H : Type} {enc : TypeId × Value → H} (W : World) {base : Nat} (v0 v1 v2 : Value) {d0 d1 d2 : DataW H} {p0 p1 p2 : List MemPlace}
    (h0 : DataW.Trod enc Try.prog W 0 (fun _ => true) true 3 v0 d0 p0) (o0 : Value.okWide Try.prog W .any base 3 v0)
    (h1 : DataW.Trod enc Try.prog W 0 (fun _ => true) true 28 v1 d1 p1) (o1 : Value.okWide Try.prog W .any base 28 v1)
    (h2 : DataW.Trod enc Try.prog W 0 (fun _ => true) true 22 v2 d2 p2) (o2 : Value.okWide Try.prog W .any base 22 v2)
    (hk : Rows.uptoBulkAll [d0, d1, d2] ≤ 1048576) :
    Calls Try.prog 11 #[v0, v1, v2] W fun e w' => e = .returned (.bool true) ∧ Below W.heap.size W w' := by
  obtain ⟨x, rfl, rfl, rfl, wx⟩ := open_int Try.underlying3 o0 h0
  obtain ⟨Z, hz, hZ, _⟩ := open_cls h1 o1
  obtain ⟨C, lc, cc, cs, rfl, hc, hcc, _, hlc⟩ := open_lits h2 o2
  simp only [Rows.uptoBulkAll] at hk
  exact propPlays_any x v1 Z C lc cc cs W hz (by omega) hc (by omega)
end Go.Proofs.Ytghfelfljblkbaa
