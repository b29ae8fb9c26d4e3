/- The reference: Core. -/
import Derived.Test.YtghfelfljblkbaaCore1
namespace Go.Proofs.Ytghfelfljblkbaa
open Go.RowKit Go.Sort
set_option linter.unusedVariables false

theorem find_none {p : Int → Bool} : ∀ {zs : List Int}, zs.any p = false → zs.find? p = none
  | [], _ => rfl
  | z :: r, h => by
    rw [List.any_cons, Bool.or_eq_false_iff] at h
    rw [List.find?, h.1]
    exact find_none h.2
theorem find_at {p : Int → Bool} {zs : List Int} : ∀ {j : Nat}, j < zs.length → (zs.take j).any p = false → p (zs.getD j 0) = true → zs.find? p = some (zs.getD j 0) := by
  induction zs with
  | nil => intro j h; exact absurd h (by simp)
  | cons z r ih =>
    intro j h h1 h2
    cases j with
    | zero => simp only [List.getD_cons_zero] at h2 ⊢; rw [List.find?, h2]
    | succ j =>
      rw [List.take_succ_cons, List.any_cons, Bool.or_eq_false_iff] at h1
      simp only [List.getD_cons_succ] at h2 ⊢
      rw [List.find?, h1.1]
      exact ih (by simpa using h) h1.2 h2
theorem take_reads {w W : World} {A : Option Addr} {n : Nat} {zs : List Int} (h : Lits w A n zs) (hW : Below w.heap.size w W) (i : Nat) (hi : i ≤ n) : Reads W w.heap.size 1 A i ((zs.take i).map (Value.int .i64)) := (take_lits h i hi).reads.below hW
theorem drop_reads {w W : World} {b o n : Nat} {zs : List Int} (h : Lits w (some ⟨b, o, none⟩) n zs) (hW : Below w.heap.size w W) (i : Nat) (hi : i ≤ n) : Reads W w.heap.size 1 (some ⟨b, o + i, none⟩) (n - i) ((zs.drop i).map (Value.int .i64)) := by
  have := (h.cut i (n - i) (by omega)).reads.below hW
  rw [List.take_of_length_le (by rw [List.length_drop, h.1]; omega)] at this
  exact this
set_option maxRecDepth 100000 in
set_option maxHeartbeats 4000000 in
theorem RCore_any (qs cb n : Nat) (B : Option Addr) (K : Nat → Prop) (L : List (List Int)) (C : Option Addr) (lc cc : Nat) (cs : List Int) (w : World) (hsb : Blk w qs 42 #[.int .i64 (n : Int), .slice B L.length cb]) (hK : ClsK w K B L) (hlen : L.length ≤ 5000) (hL : ∀ r ∈ L, r.length ≤ 1048576) (hn : n ≤ 30) (hc : Lits w C lc cs) (hlc : lc ≤ 40) :
    Calls Try.prog 59 #[.pointer (some ⟨qs, 0, none⟩), .slice C lc cc] w fun e w' => Below w.heap.size w w' ∧ ∃ A' m c', e = .returned (.tuple #[.slice A' m c', .bool (coreR n L cs).isSome]) ∧ Lits w' A' m ((coreR n L cs).getD []) := by
  obtain ⟨i0, hi0, hz0, hz1, hz2⟩ := info_parts lit_row
  have k0 : w.cell? ⟨qs, 0, none⟩ = some (.int .i64 (n : Int)) := hsb.cell 0
  have HFI : Hid (∀ W, Below w.heap.size w W → ∀ (D : Option Addr) (ld cd : Nat) (ds : List Int), Lits W D ld ds → ld ≤ 1048576 → Calls Try.prog 44 #[.pointer (some ⟨qs, 0, none⟩), .slice D ld cd] W fun e w' => Below W.heap.size W w' ∧ ∃ E m c, e = .returned (.tuple #[.slice E m c, .bool (canS n L ds)])) := Lib.hid (fun W hW D ld cd ds hd hl => (First_any qs cb n B K L D ld cd ds W (hsb.below hW hsb.lt) (hK.below hW) hlen hL hn hd hl).mono fun e w' ⟨hb, r, hr, hres⟩ => by
    obtain ⟨E, m, c, he, _, _⟩ := first_out hres
    exact ⟨hb, E, m, c, by rw [← can_first hr]; exact he⟩)
  have HMY : Hid (∀ k x, Ok x → Calls Try.prog 77 #[.pointer (some ⟨qs, 0, none⟩), .int .i64 x] (w.drewN k) fun e w' => e = .returned (.bool (!offL n x)) ∧ ∃ m, w' = w.drewN m) := Lib.hid (fun k x hx => (RMayC_any qs n x (w.drewN k) k0 (by omega) hx).mono fun e w' ⟨he, m, hm⟩ => ⟨he, k + m, by rw [hm]; simp [World.drewN, Nat.add_assoc]⟩)
  have HC := Lib.hid hc
  have HCL := Lib.hid hc.1
  have HOK := Lib.hid hc.2.1
  have h40 : ¬ (40 : Int) < (lc : Int) := by omega
  clear hsb hK hL hc k0
  go_enter Try.func59, Try.ntmps59
  go_wp2_with fail
  go_loopw [20] (fun t wr => ∃ (j q : Nat), t = .int .i64 (j : Int) ∧ j ≤ lc ∧ Hid ((cs.take j).any (offL n) = false) ∧ wr = w.drewN q) (fun t _ => lc - (match t with | .int _ x => x.toNat | _ => 0))
  case atStart => exact ⟨0, 0, rfl, Nat.zero_le _, Lib.hid (by simp), rfl⟩
  case round =>
    obtain ⟨j, q, rfl, hj, HN, rfl⟩ := hrel
    by_cases hlt : j < lc
    · obtain ⟨b, o, hC, hbl, hcell⟩ := HC.out.2.2 (by omega)
      obtain ⟨x, hx⟩ : ∃ x, x = cs.getD j 0 := ⟨_, rfl⟩
      have kx := hcell j hlt
      rw [← hx] at kx
      have hjl : j < cs.length := by have := HCL.out; omega
      have hxo : Ok x := by rw [hx]; exact getD_ok HOK.out j
      have HXO := Lib.hid hxo
      have HMX := HMY.out q x hxo
      have hst : (cs.take (j + 1)).any (offL n) = ((cs.take j).any (offL n) || offL n x) := by rw [any_take _ _ _ hjl, hx]
      have HAT : Hid (offL n x = true → coreR n L cs = some [x]) := Lib.hid (fun h9 => by
        unfold coreR
        rw [find_at hjl HN.out (by rw [← hx]; exact h9), hx])
      obtain ⟨ob, hob⟩ : ∃ ob, ob = offL n x := ⟨_, rfl⟩
      rw [← hob] at HMX hst HAT
      have HM := Lib.hid HMX
      have HST := Lib.hid hst
      have i1 : (j : Int) < (lc : Int) := by omega
      subst hC
      clear hcell hx hjl hxo HMX hst hob hbl
      cases ob with
      | true =>
        have HR := Lib.hid (HAT.out rfl)
        clear HAT
        go_wp2_with (go_at_call 77; refine HM.out.mono ?_; rintro e w2 ⟨rfl, m, rfl⟩)
        go_ret2
        rw [HR.out]
        have hb0 : Below w.heap.size w (w.drewN m) := ⟨rfl, rfl, rfl, Nat.le_refl _, fun _ _ => rfl⟩
        exact ⟨hb0.alloc (Nat.le_refl _) _, _, 1, 1, rfl, one_lit (w.drewN m) x HXO.out⟩
      | false =>
        have HN2 : Hid ((cs.take (j + 1)).any (offL n) = false) := Lib.hid (by rw [HST.out, HN.out]; rfl)
        clear HAT
        go_wp2_with (go_at_call 77; refine HM.out.mono ?_; rintro e w2 ⟨rfl, m, rfl⟩)
        refine ⟨⟨j + 1, m, by go_num, by omega, HN2, rfl⟩, ?_⟩
        show lc - ((j : Int) + 1).toNat < lc - (j : Int).toNat
        omega
    · have hjl : ¬ (j : Int) < (lc : Int) := by omega
      have HNA : Hid (cs.find? (offL n) = none) := Lib.hid (by
        have := HN.out
        rw [List.take_of_length_le (by have := HCL.out; omega)] at this
        exact find_none this)
      obtain ⟨w1, hw1⟩ : ∃ w1, w1 = w.drewN q := ⟨_, rfl⟩
      have HB1 : Hid (Below w.heap.size w w1) := Lib.hid (by rw [hw1]; exact ⟨rfl, rfl, rfl, Nat.le_refl _, fun _ _ => rfl⟩)
      rw [← hw1]
      have HF1 := Lib.hid (HFI.out w1 HB1.out C lc cc cs (HC.out.below HB1.out) (by omega))
      obtain ⟨fb, hfb⟩ : ∃ fb, fb = canS n L cs := ⟨_, rfl⟩
      rw [← hfb] at HF1
      have HFB := Lib.hid hfb
      clear HN HMY hw1 hfb
      go_wp2_with fail
      go_at_call 44
      refine HF1.out.mono ?_
      rintro e w2 ⟨hb2, E2, m2, c2, rfl⟩
      have HB2 := Lib.hid (HB1.out.trans (hb2.mono HB1.out.size))
      clear hb2 hjl HF1 HB1
      cases fb with
      | true =>
        have HR : Hid (coreR n L cs = none) := Lib.hid (by unfold coreR; rw [HNA.out, ← HFB.out]; rfl)
        go_wp2_with fail
        go_ret2
        rw [HR.out]
        exact ⟨HB2.out, none, 0, 0, rfl, Lits.nil _ _⟩
      | false =>
        have HR : Hid (coreR n L cs = some (coreGo (canS n L) (cs.length - 0) cs 0)) := Lib.hid (by unfold coreR; rw [HNA.out, ← HFB.out]; rfl)
        have HSRC := Lib.hid (HC.out.below HB2.out)
        clear HNA HFB
        go_wp2_with (at_builtin; refine wpList_append_any _ rfl (.const (.slice none 0 0)) (.tmp 38) 22 rfl w2.heap.size 37 i0 _ 1 8 Try.underlying22 hi0 hz0 hz1 hz2 rfl (by decide) _ 0 [] rfl (World.ownsRow_nil _ _ _ _) w2.heap.size C lc cc (cs.map (Value.int .i64)) rfl HSRC.out.reads (ints_one cs) (by unfold maxLen; omega) (by omega) (Nat.le_refl _) ?_; intro v3 w3 hown3 hg3 hat3; have HB3 : Hid (Below w2.heap.size w2 w3) := Lib.hid ((Below.refl _ _).grown hg3 (Nat.le_refl _) (fun j hj => by cases hj)); rw [List.nil_append, Nat.zero_add] at hown3; have HOW3 := Lib.hid hown3; obtain ⟨A3, c3, rfl⟩ := ownL_shape hown3; clear hown3 hg3 hat3)
        have ho3 : OwnL w3 w2.heap.size (.slice A3 lc c3) cs := by unfold OwnL; rw [HCL.out]; exact HOW3.out
        obtain ⟨A3', c3', hv, hl3, hlc3, hcm3, _⟩ := ho3.lits HOK.out
        rw [HCL.out] at hv hl3 hlc3
        cases hv
        have HL3 := Lib.hid hl3
        obtain ⟨G, hG⟩ : ∃ G, G = coreGo (canS n L) (cs.length - 0) cs 0 := ⟨_, rfl⟩
        rw [← hG] at HR
        have HG := Lib.hid hG.symm
        have HB03 := Lib.hid (HB2.out.trans (HB3.out.mono HB2.out.size))
        have HB33 : Hid (Below w3.heap.size w3 w3) := Lib.hid (Below.refl _ _)
        clear ho3 hl3 hG HOW3 HSRC HB2 HB3
        go_loopw [10, 11] (fun u t wr => ∃ (i k ck : Nat) (Ak : Option Addr) (ks : List Int), u = .slice Ak k ck ∧ t = .int .i64 (i : Int) ∧ i ≤ k ∧ k ≤ 40 ∧ k ≤ ck ∧ ck ≤ maxLen ∧ Hid (k = ks.length) ∧ Hid (Lits wr Ak k ks) ∧ Hid (Below w3.heap.size w3 wr) ∧ Hid (coreGo (canS n L) (ks.length - i) ks i = G)) (fun u t _ => (match u with | .slice _ k _ => k | _ => 0) - (match t with | .int _ x => x.toNat | _ => 0))
        case atStart => exact ⟨0, lc, c3, A3, cs, rfl, rfl, Nat.zero_le _, hlc, hlc3, hcm3, Lib.hid HCL.out.symm, HL3, HB33, HG⟩
        case round =>
          obtain ⟨i, k, ck, Ak, ks, rfl, rfl, hi, hk40, hkc, hcm, HKL, HLK, HBK, HGK⟩ := hrel
          clear HL3 HG HB33 hlc3 hcm3
          by_cases hlt : i < k
          · have i1 : (i : Int) < (k : Int) := by omega
            obtain ⟨b, o, hAk, _, _⟩ := HLK.out.2.2 (by omega)
            subst hAk
            obtain ⟨X1, hX1⟩ : ∃ X1, X1 = (ks.take i).map (Value.int .i64) := ⟨_, rfl⟩
            obtain ⟨X3, hX3⟩ : ∃ X3, X3 = (ks.drop (i + 1)).map (Value.int .i64) := ⟨_, rfl⟩
            have HE1 := Lib.hid hX1
            have HE3 := Lib.hid hX3
            have HI1 : Hid (∀ u ∈ X1, u.oneCell' = true) := Lib.hid (by rw [hX1]; exact ints_one _)
            have HI3 : Hid (∀ u ∈ X3, u.oneCell' = true) := Lib.hid (by rw [hX3]; exact ints_one _)
            have HX1 : Hid (∀ W, Below wr.heap.size wr W → Reads W wr.heap.size 1 (some ⟨b, o, none⟩) i X1) := Lib.hid (fun W hW => by rw [hX1]; exact take_reads HLK.out hW i (by omega))
            obtain ⟨Ad, hAd⟩ : ∃ Ad : Option Addr, Ad = if ck = i + 1 then some ⟨b, o, none⟩ else some ⟨b, o + (i + 1), none⟩ := ⟨_, rfl⟩
            have HX3 : Hid (∀ W, Below wr.heap.size wr W → Reads W wr.heap.size 1 Ad (k - (i + 1)) X3) := Lib.hid (fun W hW => by
              rw [hX3, hAd]
              split
              · next h =>
                have e : k - (i + 1) = 0 := by omega
                rw [e, List.drop_of_length_le (by have := HKL.out; omega)]
                exact Reads.none_
              · exact drop_reads HLK.out hW (i + 1) (by omega))
            have hw1 : IntKind.i64.wrap ((i : Int) + 1) = (i : Int) + 1 := by rw [IntKind.wrap_i64]; omega
            have hik0 : (0 : Int) ≤ (i : Int) + 1 := by omega
            have hik : (i : Int) ≤ (ck : Int) := by omega
            have hik1 : (i : Int) + 1 ≤ (k : Int) := by omega
            have hkck : (k : Int) ≤ (ck : Int) := by omega
            have hb0 : Below wr.heap.size wr wr.drew := ⟨rfl, rfl, rfl, Nat.le_refl _, fun _ _ => rfl⟩
            clear hX1 hX3
            go_wp2_with fail
            go_region_law (first
              | (refine step_append_any _ (by rfl) (.const (.slice none 0 0)) (.tmp 46) 22 (by rfl) wr.heap.size 37 i0 _ 1 8 Try.underlying22 hi0 hz0 hz1 hz2 rfl (by omega) (.slice none 0 0) 0 [] (by rfl) (World.ownsRow_nil _ _ _ _) wr.heap.size (some ⟨b, o, none⟩) i ck X1 (by simp [Act.eval, Act.put]) ?_ HI1.out (by unfold maxLen; omega) (by omega) ?_ ?_
                 · exact HX1.out _ (by assumption)
                 · exact (show Below wr.heap.size wr _ from by assumption).size
                 intro v1 wa1 hown hgr hat
                 have hbw1 : Below wr.heap.size wr wa1 := (show Below wr.heap.size wr _ from by assumption).grown hgr (show Below wr.heap.size wr _ from by assumption).size (fun k hk => by cases hk)
                 rw [Nat.zero_add, List.nil_append] at hown
                 obtain ⟨A5, c5, rfl⟩ := ownL_shape hown
                 have HO1 := Lib.hid hown
                 clear hown hgr hat)
              | (refine step_append_any _ (by rfl) (.tmp 47) (.tmp 51) 22 (by rfl) wr.heap.size 37 i0 _ 1 8 Try.underlying22 hi0 hz0 hz1 hz2 rfl (by omega) (.slice A5 i c5) i X1 (by simp [Act.eval]) HO1.out wr.heap.size Ad (k - (i + 1)) (ck - (i + 1)) X3 (by simp [Act.eval, hAd]) ?_ HI3.out (by unfold maxLen; omega) (by omega) ?_ ?_
                 · exact HX3.out _ hbw1
                 · exact hbw1.size
                 intro v2 wa2 hown hgr hat
                 have hbw2 : Below wr.heap.size wr wa2 := hbw1.grown hgr hbw1.size (fun q hq => (HO1.out.lt q hq).1)
                 obtain ⟨A6, c6, rfl⟩ := ownL_shape hown
                 have HO2 := Lib.hid hown
                 clear hown hgr hat))
            all_goals
              obtain ⟨k6, hk6⟩ : ∃ k6, k6 = i + (k - (i + 1)) := ⟨_, rfl⟩
              rw [← hk6] at HO2 ⊢
              rw [← hAd]
              have ho6 : OwnL wa2 wr.heap.size (.slice A6 k6 c6) (ks.eraseIdx i) := by
                have h9 := HO2.out
                rw [HE1.out, HE3.out, ← List.map_append, ← List.eraseIdx_eq_take_drop_succ] at h9
                unfold OwnL
                have e : (ks.eraseIdx i).length = k6 := by rw [List.length_eraseIdx, if_pos (by have := HKL.out; omega), ← HKL.out]; omega
                rw [e]
                exact h9
              obtain ⟨A6', c6', hv, hl6, hlc6, hcm6, _⟩ := ho6.lits (erase_ok HLK.out.2.1)
              have HEL : Hid ((ks.eraseIdx i).length = k6) := Lib.hid (by rw [List.length_eraseIdx, if_pos (by have := HKL.out; omega), ← HKL.out]; omega)
              rw [HEL.out] at hv hl6 hlc6
              cases hv
              have HB6 : Hid (Below w3.heap.size w3 wa2) := Lib.hid (HBK.out.trans (hbw2.mono HBK.out.size))
              have HLK6 := Lib.hid (HLK.out.below hbw2)
              have HL6 := Lib.hid hl6
              have HF6 := Lib.hid (HFI.out wa2 (HB03.out.trans (HB6.out.mono HB03.out.size)) A6 k6 c6 _ hl6 (by omega))
              have HST := core_step (p := canS n L) (c := ks) (i := i) (by have := HKL.out; omega)
              rw [HGK.out] at HST
              obtain ⟨fb, hfb⟩ : ∃ fb, fb = canS n L (ks.eraseIdx i) := ⟨_, rfl⟩
              rw [← hfb] at HF6 HST
              have HSTP := Lib.hid HST
              have hkk1 : k6 + 1 ≤ k := by omega
              have hkk2 : k ≤ k6 + 1 := by omega
              clear ho6 hl6 hbw2 HST hfb HGK HBK HLK HX1 HX3 hAd HE1 HE3 HI1 HI3 HO1 HO2 hk6
              go_wp2_with fail
              go_at_call 44
              refine HF6.out.mono ?_
              rintro e w7 ⟨hb7, E7, m7, c7, rfl⟩
              have HB7 : Hid (Below w3.heap.size w3 w7) := Lib.hid (HB6.out.trans (hb7.mono HB6.out.size))
              have HLK7 := Lib.hid (HLK6.out.below hb7)
              have HL7 := Lib.hid (HL6.out.below hb7)
              clear hb7 HF6 HB6 HLK6 HL6
              cases fb with
              | true =>
                have HG7 : Hid (coreGo (canS n L) (ks.length - (i + 1)) ks (i + 1) = G) := Lib.hid (by have := HSTP.out; rw [if_pos rfl] at this; exact this.symm)
                go_wp2_with fail
                refine ⟨⟨i + 1, k, _, some ⟨b, o, none⟩, ks, rfl, by go_num, by omega, by omega, by omega, by omega, HKL, HLK7, HB7, HG7⟩, ?_⟩
                show k - ((i : Int) + 1).toNat < k - (i : Int).toNat
                omega
              | false =>
                have HG7 : Hid (coreGo (canS n L) ((ks.eraseIdx i).length - i) (ks.eraseIdx i) i = G) := Lib.hid (by have := HSTP.out; rw [if_neg Bool.false_ne_true] at this; exact this.symm)
                go_wp2_with fail
                refine ⟨⟨i, k6, c6, A6, ks.eraseIdx i, rfl, rfl, by omega, by omega, hlc6, hcm6, Lib.hid HEL.out.symm, HL7, HB7, HG7⟩, ?_⟩
                show k6 - (i : Int).toNat < k - (i : Int).toNat
                omega
          · have hnn : ¬ (i : Int) < (k : Int) := by omega
            have HGE : Hid (ks = G) := Lib.hid (by
              have := HGK.out
              rw [core_end (by have := HKL.out; omega)] at this
              exact this)
            have HB9 := Lib.hid (HB03.out.trans (HBK.out.mono HB03.out.size))
            go_wp2_with fail
            go_ret2
            rw [HR.out]
            refine ⟨HB9.out, Ak, k, ⟨ck, rfl⟩, ?_⟩
            rw [Option.getD_some, ← HGE.out]
            exact HLK.out
end Go.Proofs.Ytghfelfljblkbaa
