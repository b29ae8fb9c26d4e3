/- The reference's sets: New, may, Add, Holds. -/
import Derived.Test.YtghfelfljblkbaaHolds
import Derived.Deep.DeepCutAuto
import Derived.Deep.CutBlock
namespace Go.Proofs.Ytghfelfljblkbaa
open Go.RowKit Go.Sort
set_option linter.unusedVariables false

/-- The reference's set. -/
structure RSetAt (w : World) (p : Nat) (A : Option Addr) (cap n : Nat) (L : List (List Int)) : Prop where
  blk : Blk w p 42 #[.int .i64 (n : Int), .slice A L.length cap]
  row : ∃ xs, w.ownsRow 0 22 1 (.slice A L.length cap) L.length xs ∧ LIn w xs L
  n : n ≤ 200
  len : L.length ≤ 5000
theorem RSetAt.upd {T : Nat → Prop} {w w' : World} {p cap n : Nat} {A : Option Addr} {L : List (List Int)} (h : RSetAt w p A cap n L) (hu : Upd T w w') (h1 : ∀ k, sF p A k → ¬ T k) (h2 : ∀ k, T k → ¬ IsL w k) : RSetAt w' p A cap n L := by
  obtain ⟨xs, ho, hi⟩ := h.row
  exact ⟨h.blk.upd hu (h1 p (.inl rfl)), ⟨xs, own_upd ho hu (fun k hk => h1 k (.inr (by rw [← hk]; exact ownB))), hi.upd hu h2⟩, h.n, h.len⟩
theorem RSetAt.lt {w : World} {p cap n : Nat} {A : Option Addr} {L : List (List Int)} (h : RSetAt w p A cap n L) : ∀ k, sF p A k → k < w.heap.size := by
  rintro k (rfl | hk)
  · exact h.blk.lt
  · obtain ⟨xs, ho, _⟩ := h.row
    exact (ho.lt k (by rw [← hk]; exact ownB)).2
theorem RSetAt.below {w w' : World} {p cap n : Nat} {A : Option Addr} {L : List (List Int)} (h : RSetAt w p A cap n L) (hb : Below w.heap.size w w') : RSetAt w' p A cap n L :=
  h.upd (Upd.of_below hb (T := fun k => w.heap.size ≤ k) (fun _ _ h => h)) (fun k hk hT => by have := h.lt k hk; omega) (fun k hT hk => by have := hk.lt; omega)
theorem rrow_ne {w : World} {p base n : Nat} {v : Value} {xs : List Value} {C : Array Value} (ho : w.ownsRow base 22 1 v n xs) (hb : Blk w p 42 C) : ¬ v.ownBlock = some p := by
  intro hk
  rcases ho.2 with ⟨rfl, _⟩ | ⟨g, cap', cur, rfl, _, hg, _⟩
  · cases hk
  · have e : g = p := by simpa [Value.ownBlock] using hk
    subst e
    unfold Blk at hb
    rw [hg] at hb
    injection hb with h8
    injection h8 with _ ht
    exact absurd ht (by decide)
theorem rset_isL {w : World} {p : Nat} {C : Array Value} (hb : Blk w p 42 C) : ¬ IsL w p := by
  rintro ⟨cs, fr, h8⟩
  unfold Blk at hb
  rw [hb] at h8
  injection h8 with h8
  injection h8 with _ ht
  exact absurd ht (by decide)
theorem RSetAt.ne {w : World} {p cap n : Nat} {A : Option Addr} {L : List (List Int)} (h : RSetAt w p A cap n L) : ¬ (Value.slice A 0 0).ownBlock = some p := by
  obtain ⟨xs, ho, _⟩ := h.row
  intro hk
  exact rrow_ne ho h.blk (by rw [← hk]; exact ownB)
set_option maxRecDepth 100000 in
theorem RNew_any (x : Int) (w : World) : Calls Try.prog 34 #[.int .i64 x] w fun e w' => ∃ p, e = .returned (.pointer (some ⟨p, 0, none⟩)) ∧ RSetAt w' p none 0 (vars x) [] ∧ Below w.heap.size w w' ∧ w.heap.size ≤ p := by
  have hv : (vars x : Int) = max 0 (min x 200) := by unfold vars; omega
  have hv2 : vars x ≤ 200 := by unfold vars; omega
  have fin : ∀ y : Int, y = (vars x : Int) → ∀ W, W = w.alloc (.cells #[.int .i64 y, .slice none 0 0] 42) → RSetAt W w.heap.size none 0 (vars x) [] ∧ Below w.heap.size w W := fun y hy W hW => by
    subst hy hW
    exact ⟨⟨Blk.new _ _ _, ⟨[], World.ownsRow_nil _ _ _ _, LIn.nil _⟩, hv2, by simp⟩, (Below.refl _ _).alloc (Nat.le_refl _) _⟩
  have HF := Lib.hid fin
  have HV := Lib.hid hv
  clear fin hv hv2
  go_enter Try.func34, Try.ntmps34
  go_wp2_with fail
  go_ret
  obtain ⟨h1, h2⟩ := HF.out _ HV.out.symm _ rfl
  exact ⟨w.heap.size, rfl, h1, h2, Nat.le_refl _⟩
set_option maxRecDepth 100000 in
set_option maxHeartbeats 1000000 in
theorem RMay_any (p cap n : Nat) (A : Option Addr) (L : List (List Int)) (x : Int) (w : World) (h : RSetAt w p A cap n L) (hx : Ok x) :
    Calls Try.prog 77 #[.pointer (some ⟨p, 0, none⟩), .int .i64 x] w fun e w' => e = .returned (.bool (!offL n x)) ∧ ∃ m, w' = w.drewN m := by
  have k0 : w.cell? ⟨p, 0, none⟩ = some (.int .i64 (n : Int)) := h.blk.cell 0
  have hn := h.n
  have HV := Lib.hid (fun W => size_any x hx W)
  unfold offL
  rw [vw_ok hx]
  obtain ⟨v, hv⟩ : ∃ v, v = Cf.va x := ⟨_, rfl⟩
  rw [← hv] at HV ⊢
  clear h hv hx
  by_cases h0 : x = 0
  · subst h0
    go_enter Try.func77, Try.ntmps77
    go_wp2_with fail
    go_quiet ((go_at_call 99; exact ((HV.out _).mono fun e w' h => ⟨h.1, _, h.2.symm⟩)))
    go_wp2_with fail
    go_ret
    exact ⟨ret_bool (by simp), _, rfl⟩
  · have h0' : (x != 0) = true := by simpa using h0
    have h0'' : decide (x = 0) = false := decide_eq_false h0
    by_cases hv : n < v
    · have hd : decide ((n : Int) < (v : Int)) = true := decide_eq_true (by omega)
      have hd3 : decide (v ≤ n) = false := decide_eq_false (by omega)
      go_enter Try.func77, Try.ntmps77
      go_wp2_with fail
      go_quiet ((go_at_call 99; exact ((HV.out _).mono fun e w' h => ⟨h.1, _, h.2.symm⟩)))
      go_wp2_with fail
      go_ret
      exact ⟨ret_bool (by first | (rw [h0'', hd, hd3]; rfl) | (rw [h0'', hd]; rfl)), _, rfl⟩
    · have hd : decide ((n : Int) < (v : Int)) = false := decide_eq_false (by omega)
      have hd3 : decide (v ≤ n) = true := decide_eq_true (by omega)
      go_enter Try.func77, Try.ntmps77
      go_wp2_with fail
      go_quiet ((go_at_call 99; exact ((HV.out _).mono fun e w' h => ⟨h.1, _, h.2.symm⟩)))
      go_wp2_with fail
      go_ret
      exact ⟨ret_bool (by first | (rw [h0'', hd, hd3]; rfl) | (rw [h0'', hd]; rfl)), _, rfl⟩
set_option maxRecDepth 100000 in
set_option maxHeartbeats 1000000 in
theorem so_any (x : Int) (hx : Ok x) (A : Option Addr) (n c : Nat) (bs : List Bool) (w : World) (h : Bools w A n bs) (hn : n ≤ 9223372036854775807) :
    Calls Try.prog 75 #[.slice A n c, .int .i64 x] w fun e w' => e = .returned (.bool (hv bs x)) ∧ w = w' := by
  have HV := Lib.hid (fun W => size_any x hx W)
  have hl := h.1
  have hr := atw_range x
  have hat : atw x = IntKind.u64.wrap (vw x - 1) := rfl
  rw [vw_ok hx] at hat
  unfold hv
  rw [hl]
  generalize Cf.va x = v at *
  generalize atw x = a at *
  obtain ⟨N, rfl⟩ := Int.eq_ofNat_of_zero_le hr.1
  rw [Int.toNat_natCast]
  have hw : IntKind.u64.wrap ((v : Int) - 1) = (N : Int) := hat.symm
  by_cases hN : N < n
  · obtain ⟨b, o, rfl, hbl, hc⟩ := h.2 (by omega)
    have k1 := hc N hN
    have hd : decide ((N : Int) < (n : Int)) = true := decide_eq_true (by omega)
    have i1 : (N : Int) < (n : Int) := by omega
    rw [hd]
    generalize bs.getD N false = bb at *
    clear hc hat h hl hx
    go_enter Try.func75, Try.ntmps75
    go_wp2_with (go_at_call 99; refine (HV.out _).mono ?_; rintro e w' ⟨rfl, rfl⟩)
    go_ret
    exact ⟨ret_bool (by rw [Bool.true_and]), rfl⟩
  · have hd : decide ((N : Int) < (n : Int)) = false := decide_eq_false (by omega)
    rw [hd]
    clear hat h hl hx
    go_enter Try.func75, Try.ntmps75
    go_wp2_with (go_at_call 99; refine (HV.out _).mono ?_; rintro e w' ⟨rfl, rfl⟩)
    go_ret
    exact ⟨ret_bool (by rw [Bool.false_and]; cases decide (0 < x) <;> rfl), rfl⟩
set_option maxRecDepth 100000 in
set_option maxHeartbeats 1000000 in
theorem RAdd_any (p cap n : Nat) (A : Option Addr) (L : List (List Int)) (B : Option Addr) (m c : Nat) (zs : List Int) (w : World) (h : RSetAt w p A cap n L) (hz : Lits w B m zs) (hm : m ≤ 1048576) :
    Calls Try.prog 37 #[.pointer (some ⟨p, 0, none⟩), .slice B m c] w fun e w' => e = .returned (.bool (mayL n L zs)) ∧ Upd (sF p A) w w' ∧ ∃ A' cap', RSetAt w' p A' cap' n (addL n L zs) ∧ ∀ k, sF p A' k → sF p A k ∨ w.heap.size ≤ k := by
  obtain ⟨i0, hi0, hz0, hz1, hz2⟩ := info_parts slice_row
  have HS := Lib.hid h
  have HZ := Lib.hid hz
  have HZL := Lib.hid hz.1
  obtain ⟨bb, hbb⟩ : ∃ bb, bb = mayL n L zs := ⟨_, rfl⟩
  rw [← hbb]
  have HBB := Lib.hid hbb
  have HNO : Hid (bb = false → addL n L zs = L) := Lib.hid (fun h => by unfold addL; rw [← hbb, h]; rfl)
  clear h hz hbb
  go_enter Try.func37, Try.ntmps37
  go_wp2_with fail
  go_loopw [11] (fun t wr => ∃ i : Nat, t = .int .i64 (i : Int) ∧ i ≤ m ∧ Hid (∀ j, j < i → offL n (zs.getD j 0) = false) ∧ Hid (Below w.heap.size w wr)) (fun t _ => m - (match t with | .int _ x => x.toNat | _ => 0))
  case atStart => exact ⟨0, rfl, Nat.zero_le _, Lib.hid (fun j hj => by omega), Lib.hid (Below.refl _ _)⟩
  case round =>
    obtain ⟨i, rfl, hi, HI, HB⟩ := hrel
    by_cases hlt : i < m
    · obtain ⟨b, o, e, hbl, hc⟩ := HZ.out.2.2 (by omega)
      subst e
      obtain ⟨x, hx⟩ : ∃ x, x = zs.getD i 0 := ⟨_, rfl⟩
      have kx : wr.cell? ⟨b, o + i, none⟩ = some (.int .i64 x) := by rw [hx]; exact (HB.out.cell hbl).trans (hc i hlt)
      have hxo : Ok x := by rw [hx]; exact HZ.out.ok i
      have HM := RMay_any p cap n A L x wr (HS.out.below HB.out) hxo
      obtain ⟨ob, hob⟩ : ∃ ob, ob = offL n x := ⟨_, rfl⟩
      rw [← hob] at HM
      have HMY := Lib.hid HM
      have HOB := Lib.hid hob
      have HX := Lib.hid hx
      have i1 : (i : Int) < (m : Int) := by omega
      clear HM hob hx hc hbl hxo
      cases ob with
      | true =>
        have hbf : bb = false := by
          rw [HBB.out]
          unfold mayL
          have : zs.any (offL n) = true := by
            rw [List.any_eq_true]
            refine ⟨x, ?_, HOB.out.symm⟩
            rw [HX.out, List.getD_eq_getElem?_getD, List.getElem?_eq_getElem (by have := HZL.out; omega)]
            exact List.getElem_mem _
          rw [this]; simp
        have HBF := Lib.hid hbf
        clear hbf
        go_wp2_with (go_at_call 77; refine HMY.out.mono ?_; rintro e w2 ⟨rfl, q, rfl⟩)
        go_ret
        refine ⟨by rw [HBF.out]; rfl, ?_, A, cap, ?_, fun k hk => .inl hk⟩
        · have hb9 : Below w.heap.size w (wr.drewN q) := HB.out.trans ⟨rfl, rfl, rfl, Nat.le_refl _, fun _ _ => rfl⟩
          exact ⟨hb9.os, hb9.tape, hb9.output, hb9.size, fun k hk _ => hb9.block k hk⟩
        · rw [HNO.out HBF.out]
          exact HS.out.below (HB.out.trans ⟨rfl, rfl, rfl, Nat.le_refl _, fun _ _ => rfl⟩)
      | false =>
        go_wp2_with (go_at_call 77; refine HMY.out.mono ?_; rintro e w2 ⟨rfl, q, rfl⟩)
        refine ⟨⟨i + 1, by go_num, by omega, Lib.hid (fun j hj => ?_), Lib.hid (HB.out.trans ⟨rfl, rfl, rfl, Nat.le_refl _, fun _ _ => rfl⟩)⟩, ?_⟩
        · rcases Nat.lt_or_ge j i with h | h
          · exact HI.out j h
          · have e : j = i := by omega
            rw [e, ← HX.out]
            exact HOB.out.symm
        · show m - ((i : Int) + 1).toNat < m - (i : Int).toNat
          omega
    · have hil : i = m := by omega
      have HMAY : Hid (bb = decide (L.length < 5000)) := Lib.hid (by
        rw [HBB.out]
        unfold mayL
        have : zs.any (offL n) = false := by
          rw [List.any_eq_false]
          intro x hx
          obtain ⟨j, hj, rfl⟩ := List.mem_iff_getElem.1 hx
          have := HI.out j (by have := HZL.out; omega)
          rw [List.getD_eq_getElem?_getD, List.getElem?_eq_getElem hj] at this
          simpa using this
        rw [this]; simp)
      have HSW := Lib.hid (HS.out.below HB.out)
      have k0 : wr.cell? ⟨p, 1, none⟩ = some (.slice A L.length cap) := HSW.out.blk.cell 1
      have hlen := HSW.out.len
      by_cases h5 : L.length < 5000
      · have h5' : decide ((5000 : Int) ≤ (L.length : Int)) = false := decide_eq_false (by omega)
        have hbt : bb = true := by rw [HMAY.out]; exact decide_eq_true h5
        subst hbt
        have HT := Lib.hid (RefTidy_any B m c zs wr (HZ.out.below HB.out) hm)
        clear HMAY HNO hil
        go_wp2_with fail
        go_at_call 24
        refine HT.out.mono ?_
        rintro e w2 ⟨hb2, hres⟩
        have HB2 := Lib.hid (HB.out.trans (hb2.mono HB.out.size))
        have hu2 : Upd (sF p A) w w2 := ⟨HB2.out.os, HB2.out.tape, HB2.out.output, HB2.out.size, fun k hk _ => HB2.out.block k hk⟩
        have HU2 := Lib.hid hu2
        clear k0
        cases ht : Cf.tidy zs with
        | none =>
          rw [ht] at hres
          obtain rfl : e = .returned (.tuple #[.slice none 0 0, .bool false]) := hres
          have hadd : addL n L zs = L := by unfold addL; rw [← HBB.out, ht]; rfl
          have HADD := Lib.hid hadd
          clear hadd ht hb2 hu2 HT
          go_wp2_with fail
          go_ret
          exact ⟨rfl, HU2.out, A, cap, by rw [HADD.out]; exact HS.out.below HB2.out, fun k hk => .inl hk⟩
        | some r =>
          rw [ht] at hres
          obtain ⟨v2, rfl, ho2⟩ := hres
          have hadd : addL n L zs = L ++ [r] := by unfold addL; rw [← HBB.out, ht]; rfl
          have HADD := Lib.hid hadd
          have hrok := tidy_ok ht HZ.out.2.1
          obtain ⟨Ar, cr, rfl, hlr, _, _, hfr⟩ := ho2.lits2 hrok
          have HS2 := Lib.hid (HS.out.below HB2.out)
          obtain ⟨xs, hox, hix⟩ := HS2.out.row
          have HOX := Lib.hid hox
          have HIX := Lib.hid hix
          have HLR := Lib.hid hlr
          have HFR := Lib.hid hfr
          obtain ⟨k, hk⟩ : ∃ k, k = L.length := ⟨_, rfl⟩
          have HK := Lib.hid hk
          have hk5 : k < 5000 := by
            have h9 := HBB.out
            unfold mayL at h9
            have := (Bool.and_eq_true _ _).mp h9.symm
            rw [hk]; exact of_decide_eq_true this.1
          have k1 : w2.cell? ⟨p, 1, none⟩ = some (.slice A k cap) := by rw [hk]; exact HS2.out.blk.cell 1
          rw [← hk] at HOX
          have hlp := HS2.out.blk.lt
          clear hadd ht hb2 hu2 HT ho2 hrok hlr hfr hox hix hk
          go_wp2_with (at_builtin; refine wpList_append_any _ rfl (.tmp 36) (.tmp 38) 28 rfl 0 22 i0 (.slice none 0 0) 1 24 Try.underlying28 hi0 hz0 hz1 hz2 rfl (by decide) _ k xs rfl (HOX.out.alloc _) (w2.heap.size + 1) (some ⟨w2.heap.size, 0, none⟩) 1 1 [.slice Ar r.length cr] rfl (reads_one (Blk.new _ _ _) (by omega)) (slice_one _ _ _ _ rfl) (by unfold maxLen; omega) (by omega) (Nat.zero_le _) ?_; intro v5 w5 hown5 hg5 hat5; have HOW5 := Lib.hid hown5; have HU5 : Hid (Upd (fun k => (Value.slice A 0 0).ownBlock = some k) w2 w5) := Lib.hid (((Upd.refl _ w2).alloc _).grown hg5 (fun j hj => .inl (by rw [← hj]; exact ownB))); have HB5 : Hid (Blk w5 p 42 #[.int .i64 (n : Int), .slice A L.length cap]) := Lib.hid (HS2.out.blk.upd HU5.out HS2.out.ne); have f5 : w5.frozen? ⟨p, 1, none⟩ = false := HB5.out.frozen 1; have k5 : ∃ u, w5.cell? ⟨p, 1, none⟩ = some u := ⟨_, HB5.out.cell 1⟩; obtain ⟨u5, k5⟩ := k5; have HO5 : Hid (∀ j, v5.ownBlock = some j → (Value.slice A 0 0).ownBlock = some j ∨ w2.heap.size ≤ j) := Lib.hid (fun j hj => own_or A k cap v5.ownBlock w2.heap.size j hj (by rcases hat5 with h | h; (· exact .inl h); (· exact .inr (h.trans (by rw [World.size_alloc]))))); obtain ⟨A5, c5, rfl⟩ := ownL_shape hown5; clear hown5 hg5 hat5 k1)
          go_ret
          have hT5 : ∀ j, (Value.slice A 0 0).ownBlock = some j → ¬ IsL w2 j := fun j hj => not_isL HOX.out (by rw [← hj]; exact ownB)
          have hlin5 : LIn w5 (xs ++ [.slice Ar r.length cr]) (L ++ [r]) := (HIX.out.snoc HLR.out (fun g o e => (HFR.out g o e).2)).upd HU5.out hT5
          have huz : Upd (fun j => j = p) w5 (w5.setCell ⟨p, 1, none⟩ (.slice A5 (k + 1) c5)) := (Upd.refl (fun j => j = p) w5).setCell (p := ⟨p, 1, none⟩) (.inl rfl) _
          have hlen : (L ++ [r]).length = k + 1 := by rw [List.length_append, HK.out]; rfl
          refine ⟨rfl, ?_, A5, c5, ?_, ?_⟩
          · exact ⟨huz.os.trans (HU5.out.os.trans HU2.out.os), huz.tape.trans (HU5.out.tape.trans HU2.out.tape), huz.output.trans (HU5.out.output.trans HU2.out.output), Nat.le_trans HU2.out.size (Nat.le_trans HU5.out.size huz.size), fun j hj hT => by
              have h1 := HU2.out.block j hj hT
              have h2 := HU5.out.block j (Nat.lt_of_lt_of_le hj HU2.out.size) (fun h => hT (.inr h))
              have h3 := huz.block j (Nat.lt_of_lt_of_le hj (Nat.le_trans HU2.out.size HU5.out.size)) (fun h => hT (.inl h))
              exact h3.trans (h2.trans h1)⟩
          · rw [HADD.out]
            refine ⟨?_, ⟨xs ++ [.slice Ar r.length cr], ?_, ?_⟩, HS.out.n, by rw [hlen]; omega⟩
            · rw [hlen]
              exact (HB5.out.set_ 1 (.slice A5 (k + 1) c5)).cast (by simp)
            · rw [hlen]
              exact own_upd HOW5.out huz (fun j hj e => rrow_ne HOW5.out HB5.out (by rw [hj, e]))
            · exact hlin5.upd huz (fun j hj => by rw [hj]; exact rset_isL HB5.out)
          · rintro j (hj | hj)
            · exact .inl (.inl hj)
            · rcases HO5.out j (by rw [← hj]; exact ownB) with h | h
              · exact .inl (.inr h)
              · exact .inr (Nat.le_trans HU2.out.size h)
      · have h5' : decide ((5000 : Int) ≤ (L.length : Int)) = true := decide_eq_true (by omega)
        have hbf : bb = false := by rw [HMAY.out]; exact decide_eq_false h5
        have HBF := Lib.hid hbf
        clear hbf HMAY hil
        go_wp2_with fail
        go_ret
        refine ⟨by rw [HBF.out]; rfl, ⟨HB.out.os, HB.out.tape, HB.out.output, HB.out.size, fun k hk _ => HB.out.block k hk⟩, A, cap, ?_, fun k hk => .inl hk⟩
        rw [HNO.out HBF.out]
        exact HS.out.below HB.out
end Go.Proofs.Ytghfelfljblkbaa
