/- PropBack: the walk. -/
import Derived.Test.YtghfelfljblkbaaWas
import Derived.Deep.RegionHeld3
namespace Go.Proofs.Ytghfelfljblkbaa
open Go.RowKit Go.Sort
set_option linter.unusedVariables false

/-- A trail, and its beginnings kept beside it. -/
structure PB (w0 w3 w : World) (p gv : Nat) (Al At Am A : Option Addr) (cl ct cm n k c : Nat) (K : Nat → Prop) (L : List (List Int)) (T : List Int) (M : List Nat) (xs : List Value) : Prop where
  t : TrAt w p gv Al At Am cl ct cm n K L T M
  was : WasAt w w3.heap.size A k c xs (begs M T) (tF p gv At Am)
  mko : MkOk M T
  bel : Below w0.heap.size w0 w
  b3 : w3.heap.size ≤ w.heap.size
  b0 : w0.heap.size ≤ w3.heap.size
  lo : ∀ i, tF p gv At Am i → w0.heap.size ≤ i
  kk : ∀ i, K i → i < w3.heap.size
section
variable {w0 w3 w w' : World} {p gv : Nat} {Al At Am A At' Am' : Option Addr} {cl ct cm ct' cm' n k c : Nat} {K : Nat → Prop} {L : List (List Int)} {T T' : List Int} {M M' : List Nat} {xs : List Value}
theorem PB.below (h : PB w0 w3 w p gv Al At Am A cl ct cm n k c K L T M xs) (hb : Below w.heap.size w w') : PB w0 w3 w' p gv Al At Am A cl ct cm n k c K L T M xs :=
  ⟨h.t.below hb, h.was.below hb, h.mko, h.bel.trans (hb.mono h.bel.size), Nat.le_trans h.b3 hb.size, h.b0, h.lo, h.kk⟩
theorem PB.klen (h : PB w0 w3 w p gv Al At Am A cl ct cm n k c K L T M xs) : M.length = k := by
  have := h.was.len
  unfold begs at this
  rw [List.length_map] at this
  exact this
/-- Behind a Push that took, ahead of the append. -/
structure PH (w0 w3 w : World) (p gv : Nat) (Al At Am A Ab : Option Addr) (cl ct cm n k c cb t : Nat) (K : Nat → Prop) (L : List (List Int)) (T R : List Int) (M : List Nat) (xs : List Value) : Prop where
  tr : TrAt w p gv Al At Am cl ct cm n K L R (M ++ [T.length])
  was : WasAt w w3.heap.size A k c xs (begs M T) (tF p gv At Am)
  lit : Lits w Ab t T
  fresh : ∀ g o, Ab = some ⟨g, o, none⟩ → IsL w g ∧ ¬ tF p gv At Am g
  mko : MkOk (M ++ [T.length]) R
  bg : begs (M ++ [T.length]) R = begs M T ++ [T]
  bel : Below w0.heap.size w0 w
  b3 : w3.heap.size ≤ w.heap.size
  b0 : w0.heap.size ≤ w3.heap.size
  lo : ∀ i, tF p gv At Am i → w0.heap.size ≤ i
  kk : ∀ i, K i → i < w3.heap.size
theorem PH.snoc {w5 : World} {Ab A5 : Option Addr} {cb t c5 : Nat} {R : List Int} (h : PH w0 w3 w p gv Al At Am A Ab cl ct cm n k c cb t K L T R M xs)
    (ho5 : w5.ownsRow w3.heap.size 22 1 (.slice A5 (k + 1) c5) (k + 1) (xs ++ [.slice Ab t cb])) (hu5 : Upd (fun i => (Value.slice A 0 0).ownBlock = some i) w w5)
    (hA5 : ∀ i, (Value.slice A5 0 0).ownBlock = some i → (Value.slice A 0 0).ownBlock = some i ∨ w.heap.size ≤ i) : PB w0 w3 w5 p gv Al At Am A5 cl ct cm n (k + 1) c5 K L R (M ++ [T.length]) (xs ++ [.slice Ab t cb]) := by
  have hoA : ∀ i, (Value.slice A 0 0).ownBlock = some i → w3.heap.size ≤ i := fun i hi => (h.was.row.lt i (by rw [← hi]; exact ownB)).1
  refine ⟨h.tr.upd hu5 (fun i hi e => h.was.own i e hi) (fun i hi e => by have := h.kk i hi; have := hoA i e; omega), ?_, h.mko, h.bel.trans (hu5.below (fun i hi => Nat.le_trans h.b0 (hoA i hi)) h.bel.size), Nat.le_trans h.b3 hu5.size, h.b0, h.lo, h.kk⟩
  rw [h.bg]
  refine h.was.snoc h.lit h.fresh ho5 hu5 fun i hi hf => ?_
  rcases hA5 i hi with h9 | h9
  · exact h.was.own i h9 hf
  · have := h.tr.lt i hf; omega
end
set_option maxRecDepth 100000 in
set_option maxHeartbeats 8000000 in
theorem propBack_any (x : Int) (v : Value) (Z : List (List Int)) (C : Option Addr) (lc cc : Nat) (cs : List Int) (w : World) (hz : ClsAt w v Z) (hZ : Z.length ≤ 4294967296) (hc : Lits w C lc cs) (hlc : lc ≤ 1048576) :
    Calls Try.prog 13 #[.int .i64 x, v, .slice C lc cc] w fun e w' => e = .returned (.bool true) ∧ Below w.heap.size w w' := by
  obtain ⟨i0, hi0, hz0, hz1, hz2⟩ := info_parts slice_row
  have HBO := Lib.hid (bothP_any x v Z w hz hZ)
  obtain ⟨AZ, cZ, rfl, _⟩ := hz
  have HC := Lib.hid hc
  clear hc
  go_enter Try.func13, Try.ntmps13
  go_wp2_with fail
  go_at_call 39
  refine HBO.out.mono ?_
  rintro e w1 ⟨n, s, q0, A, B, ca, cb, rfl, hn, htw, hcl⟩
  obtain ⟨L, hL⟩ : ∃ L, L = bothQ 30 10 n Z 0 [] := ⟨_, rfl⟩
  rw [← hL] at htw hcl
  have HTW := Lib.hid htw
  have HCL := Lib.hid hcl
  have HNT := Lib.hid (NewT_any s ca n A L w1 htw.s (fun c hc => by have := htw.short c hc; omega) hcl)
  clear htw hcl hL HBO
  go_wp2_with fail
  go_at_call 40
  refine HNT.out.mono ?_
  rintro e w3 ⟨p, gv, Al, cl, At, ct, K, R, rfl, htr, hf, hb2, hlo⟩
  have hb3 : Below w.heap.size w w3 := HTW.out.bel.trans (hb2.mono HTW.out.bel.size)
  have HP0 : Hid (PB w w3 w3 p gv Al At none none cl ct 0 n 0 0 K L R [] []) := Lib.hid ⟨htr, WasAt.nil _ _ _, MkOk.nil _, hb3, Nat.le_refl _, hb3.size, fun i hi => Nat.le_trans HTW.out.bel.size (hlo i (.inl hi)), htr.klt⟩
  clear htr hf hb2 hb3 hlo HNT HTW
  go_wp2_with fail
  go_loopw [10, 11] (fun u t wr => ∃ (i k c : Nat) (T : List Int) (M : List Nat) (At Am A : Option Addr) (ct cm : Nat) (xs : List Value), u = .slice A k c ∧ t = .int .i64 (i : Int) ∧ i ≤ 10 ∧ k ≤ i ∧ Hid (PB w w3 wr p gv Al At Am A cl ct cm n k c K L T M xs)) (fun _ t _ => 10 - (match t with | .int _ x => x.toNat | _ => 0))
  case atStart => exact ⟨0, 0, 0, R, [], At, none, none, ct, 0, [], rfl, rfl, by omega, by omega, HP0⟩
  case round =>
    obtain ⟨i, k, c, T, M, At, Am, A, ct, cm, xs, rfl, rfl, hi, hk, HP⟩ := hrel
    clear HP0
    by_cases h1 : i < lc ∧ i < 10
    · obtain ⟨h1, h2⟩ := h1
      have i1 : (i : Int) < (lc : Int) := by omega
      have i2 : (i : Int) < 10 := by omega
      obtain ⟨b, o, hC, hbl, hcell⟩ := HC.out.2.2 (by omega)
      obtain ⟨y, hy⟩ : ∃ y, y = cs.getD i 0 := ⟨_, rfl⟩
      have HKY : Hid (∀ W, Below w.heap.size w W → W.cell? ⟨b, o + i, none⟩ = some (.int .i64 y)) := Lib.hid (fun W hW => by rw [hy]; exact (hW.cell hbl).trans (hcell i h1))
      have hyo : Ok y := by rw [hy]; exact HC.out.ok i
      have HYO := Lib.hid hyo
      have HLT := Lib.hid (TLits_any p gv cl ct cm n Al At Am K L T M wr HP.out.t)
      have hok := HP.out.t.ok
      have HOK := Lib.hid hok
      have htl := HP.out.t.tlen
      obtain ⟨t, ht⟩ : ∃ t, t = T.length := ⟨_, rfl⟩
      rw [← ht] at htl
      have HTE := Lib.hid ht
      subst hC
      clear hcell hy hyo hbl ht hok
      go_wp2_with fail
      go_at_call 42
      refine HLT.out.mono ?_
      rintro e w4 ⟨v4, rfl, ho4, hb4⟩
      obtain ⟨Ab, cb, rfl, hl4, _, _, hf4⟩ := ho4.lits2 HOK.out
      rw [← HTE.out] at hl4 ⊢
      have HL4 := Lib.hid hl4
      have HF4 := Lib.hid hf4
      have HP4 := Lib.hid (HP.out.below hb4)
      have HTL4 : Hid (∀ i, tF p gv At Am i → i < wr.heap.size) := Lib.hid HP.out.t.lt
      have ky := HKY.out w4 HP4.out.bel
      clear ho4 hl4 hf4 hb4 HLT HP
      cases hmp : mayP n L T y with
      | false =>
        have HPU := Lib.hid (Push_no p gv cl ct cm n Al At Am K L T M y HYO.out w4 HP4.out.t hmp)
        clear hmp
        go_wp2_with fail
        go_at_call 41
        refine HPU.out.mono ?_
        rintro e w5 ⟨rfl, hb5⟩
        have HP5 := Lib.hid (HP4.out.below hb5)
        have HL5 := Lib.hid (HL4.out.below hb5)
        have HLT := Lib.hid (TLits_any p gv cl ct cm n Al At Am K L T M w5 HP5.out.t)
        clear hb5 HPU HP4 HL4 HF4 HTL4
        go_wp2_with fail
        go_at_call 42
        refine HLT.out.mono ?_
        rintro e w6 ⟨v6, rfl, ho6, hb6⟩
        obtain ⟨A6, c6, rfl, hl6, _⟩ := ho6.lits HOK.out
        rw [← HTE.out] at hl6 ⊢
        have HP6 := Lib.hid (HP5.out.below hb6)
        have hsm := SameLits_any A6 Ab t t c6 cb T T w6 hl6 (HL5.out.below hb6) (by omega)
        rw [decide_eq_true rfl] at hsm
        have HSM := Lib.hid hsm
        clear ho6 hl6 hb6 hsm HLT HP5 HL5
        go_wp2_with fail
        go_at_call 25
        refine HSM.out.mono ?_
        rintro e w7 ⟨rfl, hb7⟩
        have HP7 := Lib.hid (HP6.out.below hb7)
        clear hb7 HP6
        go_wp2_with fail
        refine ⟨⟨i + 1, k, c, T, M, At, Am, A, ct, cm, xs, rfl, by go_num, by omega, by omega, HP7⟩, ?_⟩
        show 10 - ((i : Int) + 1).toNat < 10 - (i : Int).toNat
        omega
      | true =>
        have HPU := Lib.hid (Push_yes p gv cl ct cm n Al At Am K L T M y w4 HP4.out.t hmp (by have := HP4.out.klen; omega))
        have HUN : Hid (Un n (T ++ [y])) := Lib.hid (by
          unfold mayP at hmp
          simp at hmp
          exact Pr.un_snoc HP4.out.t.un ⟨hmp.1, hmp.2.1⟩ hmp.2.2.1)
        clear hmp
        go_wp2_with fail
        go_at_call 41
        refine HPU.out.mono ?_
        rintro e w5 ⟨rfl, R2, At5, ct5, Am5, cm5, hf5, hr5⟩
        have hpre := fol_pre hf5 HCL.out HUN.out
        have hRl : t < R2.length := by
          have := hpre.length_le
          rw [List.length_append, List.length_singleton] at this
          have := HTE.out
          omega
        have hph : PH w w3 w5 p gv Al At5 Am5 A Ab cl ct5 cm5 n k c cb t K L T R2 M xs := by
          refine ⟨hr5.tr, HP4.out.was.upd hr5.upd (fun i hi => hi) hr5.own, HL4.out.upd hr5.upd (fun g o e hT => ?_), fun g o e => ⟨(HF4.out g o e).2.upd hr5.upd (fun hT => ?_), fun hT => ?_⟩, HP4.out.mko.push hpre, begs_push HP4.out.mko hpre, HP4.out.bel.trans (hr5.upd.below HP4.out.lo HP4.out.bel.size), Nat.le_trans HP4.out.b3 hr5.upd.size, HP4.out.b0, fun i hi => ?_, HP4.out.kk⟩
          · have h1 := (HF4.out g o e).1
            have h2 := HTL4.out g hT
            omega
          · have h1 := (HF4.out g o e).1
            have h2 := HTL4.out g hT
            omega
          · have h1 := (HF4.out g o e)
            rcases hr5.own g hT with h9 | h9
            · have h2 := HTL4.out g h9
              omega
            · have := h1.2.lt
              omega
          · rcases hr5.own i hi with h9 | h9
            · exact HP4.out.lo i h9
            · exact Nat.le_trans HP4.out.bel.size h9
        have HPH := Lib.hid hph
        have HROW := Lib.hid hph.was.row
        have HBS := Lib.hid hph.b3
        clear hf5 hr5 hpre hph HPU HUN HP4 HL4 HF4 HTL4
        go_wp2_with (at_builtin; refine wpList_append_any _ rfl (.tmp 39) (.tmp 41) 28 rfl w3.heap.size 22 i0 (.slice none 0 0) 1 24 Try.underlying28 hi0 hz0 hz1 hz2 rfl (by decide) _ k xs rfl (HROW.out.alloc _) (w5.heap.size + 1) (some ⟨w5.heap.size, 0, none⟩) 1 1 [.slice Ab t cb] rfl (reads_one (Blk.new _ _ _) (by omega)) (slice_one _ _ _ _ rfl) (by unfold maxLen; omega) (by omega) (Nat.le_trans HBS.out (by simp)) ?_; intro v6 w6 hown6 hg6 hat6; have HU6 : Hid (Upd (fun j => (Value.slice A 0 0).ownBlock = some j) w5 w6) := Lib.hid (((Upd.refl _ w5).alloc _).grown hg6 (fun j hj => .inl (by rw [← hj]; exact ownB))); have HO6 : Hid (∀ j, v6.ownBlock = some j → (Value.slice A 0 0).ownBlock = some j ∨ w5.heap.size ≤ j) := Lib.hid (fun j hj => own_or A k c v6.ownBlock w5.heap.size j hj (by rcases hat6 with h | h; (· exact .inl h); (· exact .inr (h.trans (by rw [World.size_alloc]))))); have HOW6 := Lib.hid hown6; obtain ⟨A6, c6, rfl⟩ := ownL_shape hown6; clear hown6 hg6 hat6)
        have HP6 := Lib.hid (HPH.out.snoc HOW6.out HU6.out (fun i hi => HO6.out i (by rw [← hi]; exact ownB)))
        have HLT : Hid (Calls Try.prog 42 #[.pointer (some ⟨p, 0, none⟩)] w6 fun e w' => ∃ A8 c8, e = .returned (.slice A8 R2.length c8) ∧ Below w6.heap.size w6 w') := Lib.hid ((TLits_any p gv cl ct5 cm5 n Al At5 Am5 K L R2 (M ++ [T.length]) w6 HP6.out.t).mono fun e w' ⟨v, he, ho, hb⟩ => by
          obtain ⟨A8, c8, rfl⟩ := ownL_shape ho
          exact ⟨A8, c8, he, hb⟩)
        have hd9 : decide ((R2.length : Int) ≤ (t : Int)) = false := decide_eq_false (by omega)
        clear HPH HROW HOW6 HU6 HO6
        go_at_call 42
        refine HLT.out.mono ?_
        rintro e w7 ⟨A8, c8, rfl, hb7⟩
        have HP7 := Lib.hid (HP6.out.below hb7)
        clear hb7 HLT HP6
        go_wp2_with fail
        refine ⟨⟨i + 1, k + 1, c6, R2, M ++ [T.length], At5, Am5, A6, ct5, cm5, _, rfl, by go_num, by omega, by omega, HP7⟩, ?_⟩
        show 10 - ((i : Int) + 1).toNat < 10 - (i : Int).toNat
        omega
    · have hg : ¬ (i < lc) ∨ (i < lc ∧ ¬ (i < 10)) := by omega
      have hk10 : k ≤ 10 := by omega
      clear h1
      go_upto_region 5 with fail
      go_cut [28] (fun v wx => wx = wr ∧ v = .bool false)
      case first =>
        rcases hg with hd | ⟨hd, hd2⟩
        · go_wp2_with fail
          go_meet
          exact ⟨rfl, rfl⟩
        · have hd3 : decide ((i : Int) < 10) = false := decide_eq_false (by omega)
          go_wp2_with fail
          go_meet
          exact ⟨rfl, by first | rfl | rw [hd3]⟩
      case rest =>
        obtain ⟨rfl, rfl⟩ := hcut
        clear hg HC hi hk
        go_wp2_with fail
        go_loopw [10] (fun u wr => ∃ (k c : Nat) (T : List Int) (M : List Nat) (At Am A : Option Addr) (ct cm : Nat) (xs : List Value), u = .slice A k c ∧ k ≤ 10 ∧ Hid (PB w w3 wr p gv Al At Am A cl ct cm n k c K L T M xs)) (fun u _ => match u with | .slice _ k _ => k | _ => 0)
        case atStart => exact ⟨k, c, T, M, At, Am, A, ct, cm, xs, rfl, hk10, HP⟩
        case round =>
          obtain ⟨k, c, T, M, At, Am, A, ct, cm, xs, rfl, hk, HP⟩ := hrel
          clear hk10
          rcases List.eq_nil_or_concat M with rfl | ⟨M0, m, rfl⟩
          · have hk0 : k = 0 := HP.out.klen.symm
            subst hk0
            have HPO := Lib.hid (Pop_no p gv cl ct cm n Al At Am K L T wr HP.out.t)
            have HBW := Lib.hid HP.out.bel
            have HAW := Lib.hid (awakeP_any wr)
            go_wp2_with (first
              | (go_at_call 48; refine HPO.out.mono ?_; rintro e wa ⟨rfl, rfl⟩)
              | (go_at_call 45; refine HAW.out.mono ?_; rintro e wb ⟨rfl, hb6⟩))
            go_ret
            exact ⟨rfl, HBW.out.trans (hb6.mono HBW.out.size)⟩
          · rw [List.concat_eq_append] at *
            have hpop := HP.out.mko.pop
            have hwas := HP.out.was
            rw [begs_pop HP.out.mko] at hwas
            obtain ⟨g, Ab, cb, j, hkj, hA, kg, _, hw2⟩ := hwas.last
            subst hA
            subst hkj
            have hml : (M0 ++ [m]).length = j + 1 := HP.out.klen
            have hm0 : M0.length = j := by rw [List.length_append] at hml; simpa using hml
            obtain ⟨T', hT'⟩ : ∃ T', T' = T.take m := ⟨_, rfl⟩
            rw [← hT'] at kg hw2
            obtain ⟨l, hl⟩ : ∃ l, l = T'.length := ⟨_, rfl⟩
            rw [← hl] at kg
            have HLE := Lib.hid hl
            have htl := HP.out.t.tlen
            have hl2 : l ≤ 200 := by rw [hl, hT', List.length_take]; omega
            have HLV : Hid (∀ W, Below wr.heap.size wr W → Calls Try.prog 52 #[.pointer (some ⟨p, 0, none⟩)] W fun e w' => e = .returned (.int .i64 ((j : Int) + 1)) ∧ W = w') := Lib.hid (fun W hW => by
              have := Levels_any p gv cl ct cm n Al At Am K L T (M0 ++ [m]) W (HP.out.t.below hW)
              rw [hml] at this
              exact this)
            have HPO : Hid (∀ W, Below wr.heap.size wr W → Calls Try.prog 48 #[.pointer (some ⟨p, 0, none⟩)] W fun e w' => e = .returned (.bool true) ∧ PB w w3 w' p gv Al At Am (some ⟨g, 0, none⟩) cl ct cm n j c K L T' M0 (xs.take j) ∧ w'.cell? ⟨g, j, none⟩ = some (.slice Ab l cb) ∧ Lits w' Ab l T') := Lib.hid (fun W hW => (Pop_yes p gv cl ct cm n Al At Am K L T M0 m W (HP.out.t.below hW) hpop.1 (by omega)).mono fun e w' ⟨he, hr⟩ => by
              have hwW := hwas.below hW
              obtain ⟨g9, Ab9, cb9, j9, hj9, hg9, kg9, hl9, hw9⟩ := (hwW.upd hr.upd (fun i hi => hi) hr.own).last
              cases hg9
              obtain rfl : j9 = j := by omega
              have hbel : Below w.heap.size w w' := (HP.out.bel.trans (hW.mono HP.out.bel.size)).trans (hr.upd.below HP.out.lo (Nat.le_trans HP.out.bel.size hW.size))
              have hkeep : w'.cell? ⟨g, j9, none⟩ = some (.slice Ab l cb) := by
                have h1 : W.cell? ⟨g, j9, none⟩ = some (.slice Ab l cb) := (hW.cell (hwas.row.lt g rfl).2).trans kg
                exact (hr.upd.cell (p := ⟨g, j9, none⟩) (Nat.lt_of_lt_of_le (hwas.row.lt g rfl).2 hW.size) (hwW.own g rfl)).trans h1
              rw [hkeep] at kg9
              cases kg9
              rw [← hT'] at hl9 hw9 hr
              refine ⟨he, ⟨hr.tr, hw9, by rw [hT']; exact hpop.2, hbel, Nat.le_trans HP.out.b3 (Nat.le_trans hW.size hr.upd.size), HP.out.b0, HP.out.lo, HP.out.kk⟩, hkeep, ?_⟩
              rw [hl]; exact hl9)
            have HLI : Hid (∀ V, PB w w3 V p gv Al At Am (some ⟨g, 0, none⟩) cl ct cm n j c K L T' M0 (xs.take j) ∧ V.cell? ⟨g, j, none⟩ = some (.slice Ab l cb) ∧ Lits V Ab l T' → ∀ W, Below V.heap.size V W → Calls Try.prog 42 #[.pointer (some ⟨p, 0, none⟩)] W fun e w' => ∃ A8 c8, e = .returned (.slice A8 l c8) ∧ Lits w' A8 l T' ∧ PB w w3 w' p gv Al At Am (some ⟨g, 0, none⟩) cl ct cm n j c K L T' M0 (xs.take j) ∧ w'.cell? ⟨g, j, none⟩ = some (.slice Ab l cb) ∧ Lits w' Ab l T') := Lib.hid (fun V hV W hW => (TLits_any p gv cl ct cm n Al At Am K L T' M0 W (hV.1.t.below hW)).mono fun e w' ⟨v, he, ho, hb⟩ => by
              obtain ⟨A8, c8, hv, hl8, _⟩ := ho.lits hV.1.t.ok
              have hb2 : Below V.heap.size V w' := hW.trans (hb.mono hW.size)
              exact ⟨A8, c8, by rw [he, hv, hl], by rw [hl]; exact hl8, hV.1.below hb2, (hb2.cell (hV.1.was.row.lt g rfl).2).trans hV.2.1, hV.2.2.below hb2⟩)
            have hkk : ((j : Int) + 1 != (j : Int) + 1) = false := by simp
            have hjc : j + 1 ≤ c := by
              rcases hwas.row.2 with ⟨h0, _⟩ | ⟨g9, cap, cur, h0, _, _, hle, _⟩
              · cases h0
              · cases h0; exact hle
            have hj10 : j ≤ 9 := by omega
            have hb0 : Below wr.heap.size wr wr := Below.refl _ _
            have hb0' : Below wr.heap.size wr wr.drew := ⟨rfl, rfl, rfl, Nat.le_refl _, fun _ _ => rfl⟩
            have kg0 := kg
            clear hpop hwas kg hw2 hml hm0 hT' hl htl HP
            go_upto_region 15 with fail
            go_cut [78] (fun v wx => v = .bool false ∧ Hid (PB w w3 wx p gv Al At Am (some ⟨g, 0, none⟩) cl ct cm n j c K L T' M0 (xs.take j)))
            case first =>
              clear hi0 hz0 hz1 hz2 HLE hZ hlc hn
              have hw1 : IntKind.i64.wrap (j : Int) = (j : Int) := by rw [IntKind.wrap_i64]; omega
              have hw3 : IntKind.i64.wrap ((j : Int) + 1 - 1) = (j : Int) := by rw [IntKind.wrap_i64]; omega
              have hw0 : (0 : Int) ≤ (j : Int) := Int.natCast_nonneg j
              have hw2 : (j : Int) < (j : Int) + 1 := Int.lt_succ _
              go_region_held3 (fun W => W.cell? ⟨g, j, none⟩ = some (.slice Ab l cb))
                (first | exact hkg9 | exact hkg8 | exact hkg | exact kg0)
                (first
                | (go_at_call 52; refine (HLV.out _ (by assumption)).mono ?_; rintro e wb ⟨rfl, rfl⟩)
                | (go_at_call 48
                   refine (HPO.out _ (by assumption)).mono ?_
                   rintro e w5 ⟨rfl, hps⟩
                   have HPS := Lib.hid hps
                   have hba : Below w5.heap.size w5 w5 := Below.refl _ _
                   have hkg := hps.2.1
                   clear hps)
                | (go_at_call 42
                   refine (HLI.out w5 HPS.out _ (by assumption)).mono ?_
                   rintro e w8 ⟨A8, c8, rfl, hl8, hps8⟩
                   have hSM := SameLits_any A8 Ab l l c8 cb T' T' w8 hl8 hps8.2.2 (by omega)
                   rw [decide_eq_true rfl] at hSM
                   have HSM := Lib.hid hSM
                   have HPS8 := Lib.hid hps8.1
                   have HGL := Lib.hid (hps8.1.was.row.lt g rfl).2
                   have hkg8 := hps8.2.1
                   clear hl8 hps8 hSM)
                | (go_at_call 25
                   refine HSM.out.mono ?_
                   rintro e w9 ⟨rfl, hb9⟩
                   have HPS9 := Lib.hid (HPS8.out.below hb9)
                   have hkg9 : w9.cell? ⟨g, j, none⟩ = some (.slice Ab l cb) := (hb9.cell HGL.out).trans hkg8
                   clear hb9 HSM))
              all_goals
                go_wp2_with fail
                go_meet
                exact ⟨rfl, Lib.hid (by first | exact HPS9.out | exact HPS9.out.below ⟨rfl, rfl, rfl, Nat.le_refl _, fun _ _ => rfl⟩)⟩
            case rest =>
              obtain ⟨rfl, HP9⟩ := hcut
              clear HLV HPO HLI hkk hb0 hb0'
              go_wp2_with fail
              refine ⟨⟨j, c, T', M0, At, Am, some ⟨g, 0, none⟩, ct, cm, xs.take j, rfl, by omega, HP9⟩, ?_⟩
              show j < j + 1
              omega
open Go.ChangeShapes Go.WideShapes Go.ChangeAt in
set_option maxRecDepth 100000 in
theorem propBack_walk {H : Type} {enc : TypeId × Value → H} (W : World) {base : Nat} (v0 v1 v2 : Value) {d0 d1 d2 : DataW H} {p0 p1 p2 : List MemPlace}
    (h0 : DataW.Trod enc Try.prog W 0 (fun _ => true) true 3 v0 d0 p0) (o0 : Value.okWide Try.prog W .any base 3 v0)
    (h1 : DataW.Trod enc Try.prog W 0 (fun _ => true) true 28 v1 d1 p1) (o1 : Value.okWide Try.prog W .any base 28 v1)
    (h2 : DataW.Trod enc Try.prog W 0 (fun _ => true) true 22 v2 d2 p2) (o2 : Value.okWide Try.prog W .any base 22 v2)
    (hk : Rows.uptoBulkAll [d0, d1, d2] ≤ 1048576) :
    Calls Try.prog 13 #[v0, v1, v2] W fun e w' => e = .returned (.bool true) ∧ Below W.heap.size W w' := by
  obtain ⟨x, rfl, rfl, rfl, wx⟩ := open_int Try.underlying3 o0 h0
  obtain ⟨Z, hz, hZ, _⟩ := open_cls h1 o1
  obtain ⟨C, lc, cc, cs, rfl, hc, hcc, _, hlc⟩ := open_lits h2 o2
  simp only [Rows.uptoBulkAll] at hk
  exact propBack_any x v1 Z C lc cc cs W hz (by omega) hc (by omega)
end Go.Proofs.Ytghfelfljblkbaa
