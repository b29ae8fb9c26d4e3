/- chandlerref4.Relation. -/
import Derived.Test.YtjkaigfpjebfbaaRy
import Derived.Test.YtjkaigfpjebfbaaRs
namespace Go.Proofs.Ytjkaigfpjebfbaa
open Go.RowKit
set_option linter.unusedVariables false

theorem atomR_len {l l' : Rl.Bs} {a : Rl.Atm} (h : Rl.atomR nmL verL l = some (a, l')) : l'.length ≤ l.length := by
  have s1 : ∀ x : Rl.Bs, (Rl.skw x).length ≤ x.length := fun x => List.IsSuffix.length_le (List.dropWhile_suffix _)
  have s2 : ∀ x : Rl.Bs, (x.dropWhile Rl.ink).length ≤ x.length := fun x => List.IsSuffix.length_le (List.dropWhile_suffix _)
  unfold Rl.atomR at h
  have h0 := s1 l
  have h1 := s2 (Rl.skw l)
  have h2 := s1 ((Rl.skw l).dropWhile Rl.ink)
  split at h
  · cases hz : Rl.skw ((Rl.skw l).dropWhile Rl.ink) with
    | nil =>
      rw [hz] at h
      injection h with h
      injection h with _ h
      rw [← h]; exact Nat.zero_le _
    | cons b r =>
      rw [hz] at h h2
      simp only at h
      have h3 : (b :: r).length = r.length + 1 := rfl
      split at h
      · unfold Rl.parR at h
        have h4 := s1 r
        have h5 : ((Rl.skw r).drop (Rl.sgn (Rl.relP (Rl.skw r))).length).length ≤ (Rl.skw r).length := by rw [List.length_drop]; omega
        have h6 := s1 ((Rl.skw r).drop (Rl.sgn (Rl.relP (Rl.skw r))).length)
        have h7 := s2 (Rl.skw ((Rl.skw r).drop (Rl.sgn (Rl.relP (Rl.skw r))).length))
        have h8 := s1 ((Rl.skw ((Rl.skw r).drop (Rl.sgn (Rl.relP (Rl.skw r))).length)).dropWhile Rl.ink)
        split at h
        · cases h
        · next o k v q he =>
          injection h with h
          injection h with _ h
          subst h
          split at he
          · cases he
          · cases hy : Rl.skw ((Rl.skw ((Rl.skw r).drop (Rl.sgn (Rl.relP (Rl.skw r))).length)).dropWhile Rl.ink) with
            | nil => rw [hy] at he; cases he
            | cons c q' =>
              rw [hy] at he h8
              simp only at he
              split at he
              · injection he with he
                injection he with _ he
                injection he with _ he
                subst he
                have : (c :: q').length = q'.length + 1 := rfl
                omega
              · cases he
      · injection h with h
        injection h with _ h
        rw [← h]
        omega
  · cases h
theorem allR_eq (mf : Rl.Atm → Bool) (one : Bool) (l : Rl.Bs) : Rl.allR nmL verL mf one l = if Rl.skw l = [] then .ok [] else Rl.parseR nmL verL mf one 12 (Rl.skw l) [] := by
  unfold Rl.allR
  cases Rl.skw l with
  | nil => rfl
  | cons b r => rw [if_neg (by simp)]
theorem hd0_is {l : Rl.Bs} {c : UInt8} (hc : c ≠ 0) : hd0 l = (c.toNat : Int) ↔ ∃ r, l = c :: r := by
  cases l with
  | nil =>
    have h0 : c.toNat ≠ 0 := fun e => hc (UInt8.toNat_inj.1 e)
    show (0 : Int) = (c.toNat : Int) ↔ _
    constructor
    · intro h; omega
    · rintro ⟨r, h⟩; cases h
  | cons b r =>
    show ((b.toNat : Nat) : Int) = (c.toNat : Int) ↔ _
    constructor
    · intro h; exact ⟨r, by rw [UInt8.toNat_inj.1 (show b.toNat = c.toNat by omega)]⟩
    · rintro ⟨r', h⟩; injection h with h _; rw [h]
theorem clauseR_step {mf : Rl.Atm → Bool} {d : Nat} {l l1 : Rl.Bs} {a : Rl.Atm} {c : List Rl.Atm} (h : Rl.atomR nmL verL l = some (a, l1)) (hm : mf a = true) : Rl.clauseR nmL verL mf false (d + 1) l c = if hd0 (Rl.skw l1) = 124 then Rl.clauseR nmL verL mf false d (Rl.skw l1).tail (c ++ [a]) else .ok (c ++ [a], Rl.skw l1) := by
  show (match Rl.atomR nmL verL l with | none => _ | some (a, l1) => _) = _
  rw [h]
  simp only [hm, if_true, Bool.false_eq_true, if_false]
  cases hz : Rl.skw l1 with
  | nil => rw [if_neg (by decide)]
  | cons b r =>
    by_cases hb : b = 124
    · subst hb; rw [if_pos (show hd0 (124 :: r) = 124 from rfl)]; rfl
    · simp only [if_neg hb]
      rw [if_neg (fun h9 => hb (by obtain ⟨r', e⟩ := (hd0_is (c := 124) (by decide)).1 h9; injection e))]
theorem parseR_step {mf : Rl.Atm → Bool} {one : Bool} {d : Nat} {l l1 : Rl.Bs} {c : List Rl.Atm} {L : List (List Rl.Atm)} (h : Rl.clauseR nmL verL mf one 6 l [] = .ok (c, l1)) : Rl.parseR nmL verL mf one (d + 1) l L = if Rl.skw l1 = [] then .ok (L ++ [c]) else if hd0 (Rl.skw l1) = 44 then Rl.parseR nmL verL mf one d (Rl.skw l1).tail (L ++ [c]) else .form := by
  show (match Rl.clauseR nmL verL mf one 6 l [] with | .many => _ | .form => _ | .ok (c, l1) => _) = _
  rw [h]
  simp only
  cases hz : Rl.skw l1 with
  | nil => rfl
  | cons b r =>
    rw [if_neg (by simp)]
    by_cases hb : b = 44
    · subst hb; rw [if_pos (show hd0 (44 :: r) = 44 from rfl)]; rfl
    · simp only [if_neg hb]
      rw [if_neg (fun h9 => hb (by obtain ⟨r', e⟩ := (hd0_is (c := 44) (by decide)).1 h9; injection e))]
theorem skw_len (x : Rl.Bs) : (Rl.skw x).length ≤ x.length := List.IsSuffix.length_le (List.dropWhile_suffix _)
theorem str_tob (l : Rl.Bs) : (Rl.tob l).toList.isEmpty = l.isEmpty := by
  rw [ByteArray.toList_eq]; rfl
set_option maxRecDepth 100000 in
set_option maxHeartbeats 16000000 in
theorem Relation_any (s : ByteArray) (w : World) (hs : s.size ≤ 1048576) :
    Calls Try.prog 57 #[.string s] w fun e w' => Below w.heap.size w w' ∧ ∃ v, e = .returned (.tuple #[v, .int .i64 (eno (Rl.allR nmL verL anyF false (bl s)))]) ∧ OwnC w' w.heap.size v (okv (Rl.allR nmL verL anyF false (bl s))) := by
  obtain ⟨i0, hi0, hz0, hz1, hz2⟩ := info_parts atom_row
  obtain ⟨j0, hj0, hy0, hy1, hy2⟩ := info_parts cl_row
  obtain ⟨RS, hRS⟩ : ∃ RS, RS = Rl.allR nmL verL anyF false (bl s) := ⟨_, rfl⟩
  rw [← hRS]
  suffices hmain : Calls Try.prog 57 #[.string s] w fun e w' => Below w.heap.size w w' ∧ ParRes w w' e RS from hmain.mono fun e w' ⟨hb, hr⟩ => ⟨hb, hr.out⟩
  obtain ⟨l0, hl0⟩ : ∃ l0, l0 = Rl.skw (bl s) := ⟨_, rfl⟩
  have HRS : Hid (RS = if l0 = [] then .ok [] else Rl.parseR nmL verL anyF false 12 l0 []) := Lib.hid (by rw [hRS, hl0]; exact allR_eq _ _ _)
  have hl0l : l0.length ≤ 1048576 := by rw [hl0]; exact Nat.le_trans (skw_len _) (by rw [bl_len]; exact hs)
  obtain ⟨q, hq⟩ : ∃ q, q = w.heap.size := ⟨_, rfl⟩
  obtain ⟨W1, hW1⟩ : ∃ W1, W1 = w.alloc (.cells #[.string s, .bool false] 110) := ⟨_, rfl⟩
  have hr1 : RR W1 q (bl s) false := by rw [hW1, hq]; exact Blk.new _ _ _
  have hb1 : Below w.heap.size w W1 := by rw [hW1]; exact (Below.refl _ _).alloc (Nat.le_refl _) _
  have hs1 : W1.heap.size = q + 1 := by rw [hW1, hq, World.size_alloc]
  have HPK : Hid (∀ (W : World) (l : Rl.Bs) (bad : Bool), RR W q l bad → l.length ≤ 1048576 → Calls Try.prog 77 #[.pointer (some ⟨q, 0, none⟩)] W fun e w' => e = .returned (.int .u8 (hd0 (Rl.skw l))) ∧ RR w' q (Rl.skw l) bad ∧ Upd (fun k => k = q) W w') := Lib.hid (fun W l bad h hl => peek_any q l bad W h hl)
  have HAT : Hid (∀ (W : World) (l : Rl.Bs), RR W q l false → l.length ≤ 1048576 → Calls Try.prog 78 #[.pointer (some ⟨q, 0, none⟩)] W fun e w' => Upd (fun k => k = q) W w' ∧ RAtomRes w' q e (Rl.atomR nmL verL l)) := Lib.hid (fun W l h hl => ratom_any q l W h hl)
  have hp1 := HPK.out W1 (bl s) false hr1 (by rw [bl_len]; exact hs)
  rw [← hl0] at hp1
  have HP1 := Lib.hid hp1
  have HB1 := Lib.hid hb1
  have HWQ := Lib.hid hq.symm
  clear hp1 hb1 hr1 hRS hl0
  go_enter Try.func57, Try.ntmps57
  go_upto_region 2 with fail
  rw [← hW1, ← hq]
  clear hW1 hq
  obtain ⟨M, hM⟩ : ∃ M, M = W1.heap.size := ⟨_, rfl⟩
  have hMq : M = q + 1 := by rw [hM]; exact hs1
  have HMW := Lib.hid hM
  have HMQ := Lib.hid hMq
  have hst := str_tob l0
  obtain ⟨S, hS⟩ : ∃ S, S = Rl.tob l0 := ⟨_, rfl⟩
  rw [← hS] at hst
  have HS := Lib.hid hS
  clear hM hs1 hS hMq
  cases l0 with
  | nil =>
    have hst1 : S.toList.isEmpty = true := hst
    have q00 : (hd0 ([] : Rl.Bs) == 0) = true := rfl
    have HR : Hid (RS = .ok []) := Lib.hid HRS.out
    clear hst
    go_wp2_with (go_at_call 77; refine HP1.out.mono ?_; rintro e w2 ⟨rfl, hr2, hu2⟩; have ks2 : w2.cell? ⟨q, 0, none⟩ = some (.string S) := by { rw [HS.out]; exact Blk.cell hr2 0 }; have hb2 := HB1.out.trans (hu2.below (fun k hk => by have e2 : k = q := hk; rw [e2, ← HWQ.out]; exact Nat.le_refl _) HB1.out.size); have HB2 := Lib.hid hb2; clear hu2 hr2 hb2)
    go_ret2
    rw [HR.out]
    exact ⟨HB2.out, ParRes.mk rfl rfl (World.ownsRow_nil _ _ _ _) (AIn.nil _)⟩
  | cons b0 r0 =>
    have hst1 : S.toList.isEmpty = false := hst
    have HPL : Hid (Rl.parseR nmL verL anyF false 12 (b0 :: r0) [] = RS) := Lib.hid (by rw [HRS.out, if_neg (by simp)])
    obtain ⟨h0, hh0⟩ : ∃ h0, h0 = hd0 (b0 :: r0) := ⟨_, rfl⟩
    rw [← hh0] at HP1
    obtain ⟨lx, hlx⟩ : ∃ lx, lx = b0 :: r0 := ⟨_, rfl⟩
    rw [← hlx] at HP1 HPL hl0l HS
    clear hst hh0 hlx
    go_cut [19] (fun v wx => v = .bool false ∧ Hid (RR wx q lx false) ∧ Hid (Below w.heap.size w wx ∧ M ≤ wx.heap.size))
    case first =>
      by_cases hz : h0 = 0
      · have q00 : (h0 == 0) = true := by rw [beq_iff_eq]; exact hz
        clear hz
        go_wp2_with (go_at_call 77; refine HP1.out.mono ?_; rintro e w2 ⟨rfl, hr2, hu2⟩; have ks2 : w2.cell? ⟨q, 0, none⟩ = some (.string S) := by { rw [HS.out]; exact Blk.cell hr2 0 }; have HB2 : Hid (Below w.heap.size w w2 ∧ M ≤ w2.heap.size) := Lib.hid ⟨HB1.out.trans (hu2.below (fun k hk => by have e2 : k = q := hk; rw [e2, ← HWQ.out]; exact Nat.le_refl _) HB1.out.size), by rw [HMW.out]; exact hu2.size⟩; have HR2 := Lib.hid hr2; clear hu2 hr2)
        go_meet
        exact ⟨rfl, HR2, HB2⟩
      · have q00 : (h0 == 0) = false := by rw [beq_eq_false_iff_ne]; exact hz
        clear hz
        go_wp2_with (go_at_call 77; refine HP1.out.mono ?_; rintro e w2 ⟨rfl, hr2, hu2⟩; have ks2 : w2.cell? ⟨q, 0, none⟩ = some (.string S) := by { rw [HS.out]; exact Blk.cell hr2 0 }; have HB2 : Hid (Below w.heap.size w w2 ∧ M ≤ w2.heap.size) := Lib.hid ⟨HB1.out.trans (hu2.below (fun k hk => by have e2 : k = q := hk; rw [e2, ← HWQ.out]; exact Nat.le_refl _) HB1.out.size), by rw [HMW.out]; exact hu2.size⟩; have HR2 := Lib.hid hr2; clear hu2 hr2)
        go_meet
        exact ⟨rfl, HR2, HB2⟩
    case rest =>
      obtain ⟨rfl, HR2, HB2⟩ := hcut
      clear HP1 HB1 hst1
      have hqM : q < M := by have := HMQ.out; omega
      go_wp2_with fail
      go_loopw [5] (fun v wr => ∃ (d m : Nat) (L : List (List Rl.Atm)) (xs : List Value) (Ao : Option Addr) (co : Nat) (l : Rl.Bs), v = .slice Ao m co ∧ m + d = 12 ∧ Hid (L.length = m) ∧ l.length ≤ 1048576 ∧ Hid (wr.ownsRow M 69 1 (.slice Ao m co) m xs) ∧ Hid (AIn wr xs L) ∧ Hid (RR wr q l false) ∧ Hid (Below w.heap.size w wr ∧ M ≤ wr.heap.size) ∧ Hid (Rl.parseR nmL verL anyF false d l L = RS)) (fun v _ => match v with | .slice _ m _ => 12 - m | _ => 0)
      case atStart => exact ⟨12, 0, [], [], none, 0, lx, rfl, rfl, Lib.hid rfl, hl0l, Lib.hid (World.ownsRow_nil _ _ _ _), Lib.hid (AIn.nil _), HR2, HB2, HPL⟩
      case round =>
        obtain ⟨d, m, L, xs, Ao, co, l, rfl, hmd, HLN, hll, HOW, HAI, HRR, HBM, HPP⟩ := hrel
        clear HR2 HB2 HPL hl0l
        obtain ⟨wo, rfl⟩ : ∃ wo : World, wo = wr := ⟨_, rfl⟩
        cases d with
        | zero =>
          have q12 : ((m : Int) == 12) = true := by rw [beq_iff_eq]; omega
          have HR : Hid (RS = .many) := Lib.hid HPP.out.symm
          go_wp2_with fail
          go_ret2
          rw [HR.out]
          exact ⟨HBM.out.1, rfl⟩
        | succ d =>
          have q12 : ((m : Int) == 12) = false := by rw [beq_eq_false_iff_ne]; omega
          obtain ⟨CL, hCL⟩ : ∃ CL, CL = Rl.clauseR nmL verL anyF false 6 l [] := ⟨_, rfl⟩
          have HCLE := Lib.hid hCL.symm
          have HMAN : Hid (CL = .many → RS = .many) := Lib.hid (fun e => by rw [← HPP.out]; unfold Rl.parseR; rw [HCLE.out, e])
          have HFOR : Hid (CL = .form → RS = .form) := Lib.hid (fun e => by rw [← HPP.out]; unfold Rl.parseR; rw [HCLE.out, e])
          have HOKC : Hid (∀ c l1, CL = .ok (c, l1) → RS = if Rl.skw l1 = [] then .ok (L ++ [c]) else if hd0 (Rl.skw l1) = 44 then Rl.parseR nmL verL anyF false d (Rl.skw l1).tail (L ++ [c]) else .form) := Lib.hid (fun c l1 e => by rw [← HPP.out]; exact parseR_step (HCLE.out.trans e))
          have hwos := HBM.out.2
          clear hCL
          go_wp2_with fail
          go_loopw [6] (fun v wx => ∃ (d2 mc : Nat) (c : List Rl.Atm) (Ac : Option Addr) (cc : Nat) (l' : Rl.Bs), v = .slice Ac mc cc ∧ mc + d2 = 6 ∧ Hid (c.length = mc) ∧ l'.length ≤ 1048576 ∧ Hid (wx.ownsRow wo.heap.size 79 3 (.slice Ac mc cc) mc (catA c)) ∧ Hid (RR wx q l' false) ∧ Hid (Upd (fun k => k = q) wo wx) ∧ Hid (Rl.clauseR nmL verL anyF false d2 l' c = CL)) (fun v _ => match v with | .slice _ m _ => 6 - m | _ => 0)
          case atStart => exact ⟨6, 0, [], none, 0, l, rfl, rfl, Lib.hid rfl, hll, Lib.hid (World.ownsRow_nil _ _ _ _), HRR, Lib.hid (Upd.refl _ _), HCLE⟩
          case round =>
            obtain ⟨d2, mc, c, Ac, cc, l', rfl, hmd2, HCN, hll', HOC, HRX, HU, HCX⟩ := hrel
            have HROO := HRR
            clear HRR hll
            cases d2 with
            | zero =>
              have q6 : ((mc : Int) == 6) = true := by rw [beq_iff_eq]; omega
              have HR := Lib.hid (HMAN.out HCX.out.symm)
              have HBX := Lib.hid (HBM.out.1.trans (HU.out.below (fun k hk => by have e2 : k = q := hk; rw [e2, ← HWQ.out]; exact Nat.le_refl _) HBM.out.1.size))
              go_wp2_with fail
              go_ret2
              rw [HR.out]
              exact ⟨HBX.out, rfl⟩
            | succ d2 =>
              have q6 : ((mc : Int) == 6) = false := by rw [beq_eq_false_iff_ne]; omega
              have hat := HAT.out wr l' HRX.out hll'
              obtain ⟨o, ho⟩ : ∃ o, o = Rl.atomR nmL verL l' := ⟨_, rfl⟩
              rw [← ho] at hat
              have HO := Lib.hid ho.symm
              have HA1 := Lib.hid hat
              clear hat ho
              cases o with
              | none =>
                have HR := Lib.hid (HFOR.out (by rw [← HCX.out]; unfold Rl.clauseR; rw [HO.out]))
                go_wp2_with (first
                  | (go_at_call 78; refine HA1.out.mono ?_; rintro e w3 ⟨hu3, X, kx, Y, l3, rfl, hr3⟩; unfold atV; have HU3 := Lib.hid (HU.out.trans hu3); have HOC3 := Lib.hid (own_upd HOC.out hu3 (fun k hk e => by have e2 : k = q := e; have := (own_is HOC.out hk).1; omega)); have HR3 := Lib.hid hr3; have hw3s := HU3.out.size; clear hu3 hr3)
                  | (at_builtin; refine wpList_append_any _ rfl (.tmp 26) (.tmp 29) 69 rfl wo.heap.size 79 i0 _ 3 40 Try.underlying69 hi0 hz0 hz1 hz2 rfl (by decide) _ mc (catA c) rfl (HOC3.out.alloc _) (w3.heap.size + 1) (some ⟨w3.heap.size, 0, none⟩) 1 1 [.string X, .int .i64 kx, .string Y] rfl (reads_three (Blk.new w3 _ _) (by simp)) (fun u hu => by simp at hu; rcases hu with rfl | rfl | rfl <;> rfl) (by unfold maxLen; omega) (by omega) (by simp; omega) ?_; intro v5 w5 hown5 hg5 hat5; have HU5 := Lib.hid ((HU3.out.alloc (.cells #[.string X, .int .i64 kx, .string Y] 79)).grown hg5 (fun j hj => .inr (own_is HOC3.out hj).1)); have hup5 : Upd (fun j => (Value.slice Ac mc cc).ownBlock = some j) w3 w5 := ((Upd.refl _ w3).alloc _).grown hg5 (fun j hj => .inl hj); have HR5 := Lib.hid (Blk.upd HR3.out hup5 (fun e => own_blk_ne HOC3.out HR3.out (by decide) e)); obtain ⟨A5, c5, rfl⟩ := own_shape hown5; have HOC5 := Lib.hid hown5; have kb5 : w5.cell? ⟨q, 1, none⟩ = some (.bool true) := Blk.cell HR5.out 1; clear hown5 hg5 hat5 hup5; have HB5 := Lib.hid (HBM.out.1.trans (HU5.out.below (fun k hk => by have e2 : k = q := hk; rw [e2, ← HWQ.out]; exact Nat.le_refl _) HBM.out.1.size))))
                go_ret2
                rw [HR.out]
                exact ⟨HB5.out, rfl⟩
              | some x =>
                obtain ⟨a, l1⟩ := x
                have hl1l : l1.length ≤ 1048576 := Nat.le_trans (atomR_len HO.out) hll'
                obtain ⟨l2, hl2⟩ : ∃ l2, l2 = Rl.skw l1 := ⟨_, rfl⟩
                have hl2l : l2.length ≤ 1048576 := by rw [hl2]; exact Nat.le_trans (skw_len _) hl1l
                have HSK2 : Hid (Rl.skw l2 = l2) := Lib.hid (by rw [hl2]; exact Rl.skw_skw l1)
                have HSTEP : Hid (CL = if hd0 l2 = 124 then Rl.clauseR nmL verL anyF false d2 l2.tail (c ++ [a]) else .ok (c ++ [a], l2)) := Lib.hid (by rw [← HCX.out, clauseR_step HO.out rfl, ← hl2])
                have HL2 := Lib.hid hl2
                obtain ⟨h1, hh1⟩ : ∃ h1, h1 = hd0 l2 := ⟨_, rfl⟩
                rw [← hh1] at HSTEP
                have HH1 := Lib.hid hh1
                obtain ⟨X, hX⟩ : ∃ X, X = Rl.tob a.name := ⟨_, rfl⟩
                obtain ⟨Y, hY⟩ : ∃ Y, Y = Rl.tob a.ver := ⟨_, rfl⟩
                obtain ⟨kx, hkx⟩ : ∃ kx : Int, kx = (a.rel : Int) := ⟨_, rfl⟩
                have HAC : Hid (atC a = [.string X, .int .i64 kx, .string Y]) := Lib.hid (by unfold atC; rw [hX, hY, hkx])
                have HA2 : Hid (Calls Try.prog 78 #[.pointer (some ⟨q, 0, none⟩)] wr fun e w' => Upd (fun k => k = q) wr w' ∧ e = .returned (.agg #[.string X, .int .i64 kx, .string Y]) ∧ RR w' q l1 false) := Lib.hid (by rw [hX, hY, hkx]; exact HA1.out)
                obtain ⟨S2, hS2⟩ : ∃ S2, S2 = Rl.tob l2 := ⟨_, rfl⟩
                have hst2 := str_tob l2
                rw [← hS2] at hst2
                have HS2 := Lib.hid hS2
                have HRO := Lib.hid HROO.out
                clear hl2 hh1 hX hY hkx hS2 HA1
                by_cases hp : h1 = 124
                · have q124 : (h1 != 124) = false := by rw [hp]; rfl
                  have HCL2 : Hid (CL = Rl.clauseR nmL verL anyF false d2 l2.tail (c ++ [a])) := Lib.hid (by rw [HSTEP.out, if_pos hp])
                  obtain ⟨r, hlr⟩ : ∃ r, l2 = 124 :: r := (hd0_is (c := 124) (by decide)).1 (by rw [← HH1.out]; exact hp)
                  have hst3 : S2.toList.isEmpty = false := by rw [hst2, hlr]; rfl
                  have hz3 : (1 : Int) ≤ (S2.size : Int) := by rw [HS2.out, tob_size, hlr]; have : (124 :: r : Rl.Bs).length = r.length + 1 := rfl; omega
                  have HTL : Hid (S2.extract 1 S2.size = Rl.tob r) := Lib.hid (by rw [HS2.out, hlr]; exact tob_drop (124 :: r) 1)
                  have HTLL : Hid (l2.tail = r) := Lib.hid (by rw [hlr]; rfl)
                  have hrl : r.length ≤ 1048576 := by rw [hlr] at hl2l; have : (124 :: r : Rl.Bs).length = r.length + 1 := rfl; omega
                  clear hp hlr hst2
                  go_wp2_with (first
                    | (go_at_call 78; refine HA2.out.mono ?_; rintro e w3 ⟨hu3, rfl, hr3⟩; have HU3 := Lib.hid (HU.out.trans hu3); have HOC3 := Lib.hid (own_upd HOC.out hu3 (fun k hk e => by have e2 : k = q := e; have := (own_is HOC.out hk).1; omega)); have HR3 := Lib.hid hr3; have hw3s := HU3.out.size; clear hu3 hr3)
                    | (at_builtin; refine wpList_append_any _ rfl (.tmp 26) (.tmp 29) 69 rfl wo.heap.size 79 i0 _ 3 40 Try.underlying69 hi0 hz0 hz1 hz2 rfl (by decide) _ mc (catA c) rfl (HOC3.out.alloc _) (w3.heap.size + 1) (some ⟨w3.heap.size, 0, none⟩) 1 1 [.string X, .int .i64 kx, .string Y] rfl (reads_three (Blk.new w3 _ _) (by simp)) (fun u hu => by simp at hu; rcases hu with rfl | rfl | rfl <;> rfl) (by unfold maxLen; omega) (by omega) (by simp; omega) ?_; intro v5 w5 hown5 hg5 hat5; have HU5 := Lib.hid ((HU3.out.alloc (.cells #[.string X, .int .i64 kx, .string Y] 79)).grown hg5 (fun j hj => .inr (own_is HOC3.out hj).1)); have hup5 : Upd (fun j => (Value.slice Ac mc cc).ownBlock = some j) w3 w5 := ((Upd.refl _ w3).alloc _).grown hg5 (fun j hj => .inl hj); have HR5 := Lib.hid (Blk.upd HR3.out hup5 (fun e => own_blk_ne HOC3.out HR3.out (by decide) e)); obtain ⟨A5, c5, rfl⟩ := own_shape hown5; have HOC5 := Lib.hid hown5; have kb5 : w5.cell? ⟨q, 1, none⟩ = some (.bool false) := Blk.cell HR5.out 1; clear hown5 hg5 hat5 hup5; have HCN2 : Hid ((c ++ [a]).length = mc + 1) := Lib.hid (by rw [List.length_append, HCN.out]; rfl); have HOC5 : Hid (w5.ownsRow wo.heap.size 79 3 (.slice A5 (mc + 1) c5) (mc + 1) (catA (c ++ [a]))) := Lib.hid (by rw [catA_snoc, HAC.out]; exact HOC5.out); have hpk := HPK.out w5 l1 false HR5.out hl1l; rw [← HL2.out, ← HH1.out] at hpk; have HPK5 := Lib.hid hpk; clear hpk)
                    | (go_at_call 77; refine HPK5.out.mono ?_; rintro e w6 ⟨rfl, hr6, hu6⟩; have HU6 := Lib.hid (HU5.out.trans hu6); have HOC6 := Lib.hid (own_upd HOC5.out hu6 (fun k hk e => by have e2 : k = q := e; have := (own_is HOC5.out hk).1; omega)); have ks6 : w6.cell? ⟨q, 0, none⟩ = some (.string S2) := by { rw [HS2.out]; exact Blk.cell hr6 0 }; have fs6 : w6.frozen? ⟨q, 0, none⟩ = false := Blk.frozen hr6 0; have HR6 := Lib.hid hr6; clear hu6 hr6 HPK5))
                  have hr7 : RR (w6.setCell ⟨q, 0, none⟩ (.string (S2.extract 1 S2.size))) q r false := by
                    have := Blk.set_ HR6.out 0 (.string (S2.extract 1 S2.size))
                    unfold RR
                    rw [← HTL.out]
                    simpa using this
                  have hu7 : Upd (fun k => k = q) w6 (w6.setCell ⟨q, 0, none⟩ (.string (S2.extract 1 S2.size))) := (Upd.refl (fun k => k = q) _).setCell (p := ⟨q, 0, none⟩) (.inl rfl) _
                  refine ⟨⟨d2, mc + 1, c ++ [a], A5, c5, r, rfl, by omega, HCN2, hrl, Lib.hid (own_upd HOC6.out hu7 (fun k hk e => by have e2 : k = q := e; have := (own_is HOC6.out hk).1; omega)), Lib.hid hr7, Lib.hid (HU6.out.trans hu7), Lib.hid (by rw [HCL2.out, HTLL.out])⟩, ?_⟩
                  show 6 - (mc + 1) < 6 - mc
                  omega
                · have q124 : (h1 != 124) = true := by rw [bne_iff_ne]; exact hp
                  have HRS2 := Lib.hid (HOKC.out (c ++ [a]) l2 (by rw [HSTEP.out, if_neg hp]))
                  rw [HSK2.out, ← HH1.out] at HRS2
                  clear hp
                  cases hl : l2 with
                  | nil =>
                    have hst3 : S2.toList.isEmpty = true := by rw [hst2, hl]; rfl
                    have HR : Hid (RS = .ok (L ++ [c ++ [a]])) := Lib.hid (by rw [HRS2.out, if_pos hl])
                    clear hl hst2
                    go_wp2_with (first
                      | (go_at_call 78; refine HA2.out.mono ?_; rintro e w3 ⟨hu3, rfl, hr3⟩; have HU3 := Lib.hid (HU.out.trans hu3); have HOC3 := Lib.hid (own_upd HOC.out hu3 (fun k hk e => by have e2 : k = q := e; have := (own_is HOC.out hk).1; omega)); have HR3 := Lib.hid hr3; have hw3s := HU3.out.size; clear hu3 hr3)
                      | (at_builtin; refine wpList_append_any _ rfl (.tmp 26) (.tmp 29) 69 rfl wo.heap.size 79 i0 _ 3 40 Try.underlying69 hi0 hz0 hz1 hz2 rfl (by decide) _ mc (catA c) rfl (HOC3.out.alloc _) (w3.heap.size + 1) (some ⟨w3.heap.size, 0, none⟩) 1 1 [.string X, .int .i64 kx, .string Y] rfl (reads_three (Blk.new w3 _ _) (by simp)) (fun u hu => by simp at hu; rcases hu with rfl | rfl | rfl <;> rfl) (by unfold maxLen; omega) (by omega) (by simp; omega) ?_; intro v5 w5 hown5 hg5 hat5; have HU5 := Lib.hid ((HU3.out.alloc (.cells #[.string X, .int .i64 kx, .string Y] 79)).grown hg5 (fun j hj => .inr (own_is HOC3.out hj).1)); have hup5 : Upd (fun j => (Value.slice Ac mc cc).ownBlock = some j) w3 w5 := ((Upd.refl _ w3).alloc _).grown hg5 (fun j hj => .inl hj); have HR5 := Lib.hid (Blk.upd HR3.out hup5 (fun e => own_blk_ne HOC3.out HR3.out (by decide) e)); obtain ⟨A5, c5, rfl⟩ := own_shape hown5; have HOC5 := Lib.hid hown5; have kb5 : w5.cell? ⟨q, 1, none⟩ = some (.bool false) := Blk.cell HR5.out 1; clear hown5 hg5 hat5 hup5; have HCN2 : Hid ((c ++ [a]).length = mc + 1) := Lib.hid (by rw [List.length_append, HCN.out]; rfl); have HOC5 : Hid (w5.ownsRow wo.heap.size 79 3 (.slice A5 (mc + 1) c5) (mc + 1) (catA (c ++ [a]))) := Lib.hid (by rw [catA_snoc, HAC.out]; exact HOC5.out); have hpk := HPK.out w5 l1 false HR5.out hl1l; rw [← HL2.out, ← HH1.out] at hpk; have HPK5 := Lib.hid hpk; clear hpk)
                      | (go_at_call 77; refine HPK5.out.mono ?_; rintro e w6 ⟨rfl, hr6, hu6⟩; have HU6 := Lib.hid (HU5.out.trans hu6); have HOC6 := Lib.hid (own_upd HOC5.out hu6 (fun k hk e => by have e2 : k = q := e; have := (own_is HOC5.out hk).1; omega)); have ks6 : w6.cell? ⟨q, 0, none⟩ = some (.string S2) := by { rw [HS2.out]; exact Blk.cell hr6 0 }; have fs6 : w6.frozen? ⟨q, 0, none⟩ = false := Blk.frozen hr6 0; have HR6 := Lib.hid hr6; clear hu6 hr6 HPK5; have HAI6 : Hid (AIn w6 (xs ++ [.slice A5 (mc + 1) c5]) (L ++ [c ++ [a]])) := Lib.hid (by have h9 := (HAI.out.upd HU6.out (fun j hj hA => by have e2 : j = q := hj; subst e2; exact hA.no HRO.out (by decide))).snoc (A := A5) (c := c5) (base := wo.heap.size) (l := c ++ [a]) (by rw [HCN2.out]; exact HOC6.out); rw [HCN2.out] at h9; exact h9); have HOW6 := Lib.hid (own_upd HOW.out HU6.out (fun k hk e => by have e2 : k = q := e; have := (own_is HOW.out hk).1; omega)); have HB6 : Hid (Below w.heap.size w w6 ∧ M ≤ w6.heap.size) := Lib.hid ⟨HBM.out.1.trans (HU6.out.below (fun k hk => by have e2 : k = q := hk; rw [e2, ← HWQ.out]; exact Nat.le_refl _) HBM.out.1.size), Nat.le_trans HBM.out.2 HU6.out.size⟩; have hm6 := HB6.out.2)
                      | (at_builtin; refine wpList_append_any _ rfl (.tmp 53) (.tmp 55) 28 rfl M 69 j0 _ 1 24 Try.underlying28 hj0 hy0 hy1 hy2 rfl (by decide) _ m xs rfl (HOW6.out.alloc _) (w6.heap.size + 1) (some ⟨w6.heap.size, 0, none⟩) 1 1 [.slice A5 (mc + 1) c5] rfl (reads_one (Blk.new w6 _ _) (by simp)) (fun u hu => by simp at hu; subst hu; rfl) (by unfold maxLen; omega) (by omega) (by simp; omega) ?_; intro v7 w7 hown7 hg7 hat7; have hup7 : Upd (fun j => (Value.slice Ao m co).ownBlock = some j) w6 w7 := ((Upd.refl _ w6).alloc _).grown hg7 (fun j hj => .inl hj); have HB7 : Hid (Below w.heap.size w w7 ∧ M ≤ w7.heap.size) := Lib.hid ⟨HB6.out.1.trans (hup7.below (fun j hj => by have h1 := (own_is HOW6.out hj).1; have h2 := HWQ.out; omega) HB6.out.1.size), Nat.le_trans hm6 hup7.size⟩; have HR7 := Lib.hid (Blk.upd HR6.out hup7 (fun e => own_blk_ne HOW6.out HR6.out (by decide) e)); have HAI7 := Lib.hid (HAI6.out.upd hup7 (fun j hj => own_noA HOW6.out (by decide) hj)); obtain ⟨A7, c7, rfl⟩ := own_shape hown7; have HOW7 := Lib.hid hown7; have HLN7 : Hid ((L ++ [c ++ [a]]).length = m + 1) := Lib.hid (by rw [List.length_append, HLN.out]; rfl); have hpk7 := HPK.out w7 l2 false HR7.out hl2l; rw [HSK2.out, ← HH1.out] at hpk7; have HPK7 := Lib.hid hpk7; clear hown7 hg7 hat7 hup7 hpk7)
                      | (go_at_call 77; refine HPK7.out.mono ?_; rintro e w8 ⟨rfl, hr8, hu8⟩; have HB8 : Hid (Below w.heap.size w w8 ∧ M ≤ w8.heap.size) := Lib.hid ⟨HB7.out.1.trans (hu8.below (fun k hk => by have e2 : k = q := hk; rw [e2, ← HWQ.out]; exact Nat.le_refl _) HB7.out.1.size), Nat.le_trans HB7.out.2 hu8.size⟩; have HAI8 := Lib.hid (HAI7.out.upd hu8 (fun j hj hA => by have e2 : j = q := hj; subst e2; exact hA.no HR7.out (by decide))); have HOW8 := Lib.hid (own_upd HOW7.out hu8 (fun k hk e => by have e2 : k = q := e; have := (own_is HOW7.out hk).1; omega)); have ks8 : w8.cell? ⟨q, 0, none⟩ = some (.string S2) := by { rw [HS2.out]; exact Blk.cell hr8 0 }; have fs8 : w8.frozen? ⟨q, 0, none⟩ = false := Blk.frozen hr8 0; have HR8 := Lib.hid hr8; clear hu8 hr8))
                    go_ret2
                    rw [HR.out]
                    exact ⟨HB8.out.1, ParRes.mk rfl HLN7.out (own_mono HOW8.out (by have := HWQ.out; omega)) HAI8.out⟩
                  | cons b r =>
                    have hst3 : S2.toList.isEmpty = false := by rw [hst2, hl]; rfl
                    have hszl : S2.size = r.length + 1 := by rw [HS2.out, tob_size, hl]; rfl
                    have hsz0 : 0 < S2.size := by omega
                    have hzp : (0 : Int) < (S2.size : Int) := by omega
                    have hz3 : (1 : Int) ≤ (S2.size : Int) := by omega
                    obtain ⟨cb, hcb⟩ : ∃ cb, cb = b.toNat := ⟨_, rfl⟩
                    have hx2 : ((S2[0]'hsz0).toNat : Nat) = cb := by
                      have h9 := HS2.out
                      rw [hl] at h9
                      subst h9
                      rw [hcb]; rfl
                    have HH2 : Hid (h1 = (cb : Int)) := Lib.hid (by rw [HH1.out, hl, hcb]; rfl)
                    have HTL : Hid (S2.extract 1 S2.size = Rl.tob r) := Lib.hid (by rw [HS2.out, hl]; exact tob_drop (b :: r) 1)
                    have HTLL : Hid (l2.tail = r) := Lib.hid (by rw [hl]; rfl)
                    have hrl : r.length ≤ 1048576 := by rw [hl] at hl2l; have : (b :: r).length = r.length + 1 := rfl; omega
                    have HNE : Hid (¬ l2 = []) := Lib.hid (by rw [hl]; simp)
                    clear hl hst2 hszl hcb
                    by_cases h44 : cb = 44
                    · have q44 : ((cb : Int) != 44) = false := by rw [h44]; rfl
                      have HR : Hid (RS = Rl.parseR nmL verL anyF false d r (L ++ [c ++ [a]])) := Lib.hid (by rw [HRS2.out, if_neg HNE.out, HH2.out, if_pos (by rw [h44]; rfl), HTLL.out])
                      clear h44
                      go_wp2_with (first
                        | (go_at_call 78; refine HA2.out.mono ?_; rintro e w3 ⟨hu3, rfl, hr3⟩; have HU3 := Lib.hid (HU.out.trans hu3); have HOC3 := Lib.hid (own_upd HOC.out hu3 (fun k hk e => by have e2 : k = q := e; have := (own_is HOC.out hk).1; omega)); have HR3 := Lib.hid hr3; have hw3s := HU3.out.size; clear hu3 hr3)
                        | (at_builtin; refine wpList_append_any _ rfl (.tmp 26) (.tmp 29) 69 rfl wo.heap.size 79 i0 _ 3 40 Try.underlying69 hi0 hz0 hz1 hz2 rfl (by decide) _ mc (catA c) rfl (HOC3.out.alloc _) (w3.heap.size + 1) (some ⟨w3.heap.size, 0, none⟩) 1 1 [.string X, .int .i64 kx, .string Y] rfl (reads_three (Blk.new w3 _ _) (by simp)) (fun u hu => by simp at hu; rcases hu with rfl | rfl | rfl <;> rfl) (by unfold maxLen; omega) (by omega) (by simp; omega) ?_; intro v5 w5 hown5 hg5 hat5; have HU5 := Lib.hid ((HU3.out.alloc (.cells #[.string X, .int .i64 kx, .string Y] 79)).grown hg5 (fun j hj => .inr (own_is HOC3.out hj).1)); have hup5 : Upd (fun j => (Value.slice Ac mc cc).ownBlock = some j) w3 w5 := ((Upd.refl _ w3).alloc _).grown hg5 (fun j hj => .inl hj); have HR5 := Lib.hid (Blk.upd HR3.out hup5 (fun e => own_blk_ne HOC3.out HR3.out (by decide) e)); obtain ⟨A5, c5, rfl⟩ := own_shape hown5; have HOC5 := Lib.hid hown5; have kb5 : w5.cell? ⟨q, 1, none⟩ = some (.bool false) := Blk.cell HR5.out 1; clear hown5 hg5 hat5 hup5; have HCN2 : Hid ((c ++ [a]).length = mc + 1) := Lib.hid (by rw [List.length_append, HCN.out]; rfl); have HOC5 : Hid (w5.ownsRow wo.heap.size 79 3 (.slice A5 (mc + 1) c5) (mc + 1) (catA (c ++ [a]))) := Lib.hid (by rw [catA_snoc, HAC.out]; exact HOC5.out); have hpk := HPK.out w5 l1 false HR5.out hl1l; rw [← HL2.out, ← HH1.out] at hpk; have HPK5 := Lib.hid hpk; clear hpk)
                        | (go_at_call 77; refine HPK5.out.mono ?_; rintro e w6 ⟨rfl, hr6, hu6⟩; have HU6 := Lib.hid (HU5.out.trans hu6); have HOC6 := Lib.hid (own_upd HOC5.out hu6 (fun k hk e => by have e2 : k = q := e; have := (own_is HOC5.out hk).1; omega)); have ks6 : w6.cell? ⟨q, 0, none⟩ = some (.string S2) := by { rw [HS2.out]; exact Blk.cell hr6 0 }; have fs6 : w6.frozen? ⟨q, 0, none⟩ = false := Blk.frozen hr6 0; have HR6 := Lib.hid hr6; clear hu6 hr6 HPK5; have HAI6 : Hid (AIn w6 (xs ++ [.slice A5 (mc + 1) c5]) (L ++ [c ++ [a]])) := Lib.hid (by have h9 := (HAI.out.upd HU6.out (fun j hj hA => by have e2 : j = q := hj; subst e2; exact hA.no HRO.out (by decide))).snoc (A := A5) (c := c5) (base := wo.heap.size) (l := c ++ [a]) (by rw [HCN2.out]; exact HOC6.out); rw [HCN2.out] at h9; exact h9); have HOW6 := Lib.hid (own_upd HOW.out HU6.out (fun k hk e => by have e2 : k = q := e; have := (own_is HOW.out hk).1; omega)); have HB6 : Hid (Below w.heap.size w w6 ∧ M ≤ w6.heap.size) := Lib.hid ⟨HBM.out.1.trans (HU6.out.below (fun k hk => by have e2 : k = q := hk; rw [e2, ← HWQ.out]; exact Nat.le_refl _) HBM.out.1.size), Nat.le_trans HBM.out.2 HU6.out.size⟩; have hm6 := HB6.out.2)
                        | (at_builtin; refine wpList_append_any _ rfl (.tmp 53) (.tmp 55) 28 rfl M 69 j0 _ 1 24 Try.underlying28 hj0 hy0 hy1 hy2 rfl (by decide) _ m xs rfl (HOW6.out.alloc _) (w6.heap.size + 1) (some ⟨w6.heap.size, 0, none⟩) 1 1 [.slice A5 (mc + 1) c5] rfl (reads_one (Blk.new w6 _ _) (by simp)) (fun u hu => by simp at hu; subst hu; rfl) (by unfold maxLen; omega) (by omega) (by simp; omega) ?_; intro v7 w7 hown7 hg7 hat7; have hup7 : Upd (fun j => (Value.slice Ao m co).ownBlock = some j) w6 w7 := ((Upd.refl _ w6).alloc _).grown hg7 (fun j hj => .inl hj); have HB7 : Hid (Below w.heap.size w w7 ∧ M ≤ w7.heap.size) := Lib.hid ⟨HB6.out.1.trans (hup7.below (fun j hj => by have h1 := (own_is HOW6.out hj).1; have h2 := HWQ.out; omega) HB6.out.1.size), Nat.le_trans hm6 hup7.size⟩; have HR7 := Lib.hid (Blk.upd HR6.out hup7 (fun e => own_blk_ne HOW6.out HR6.out (by decide) e)); have HAI7 := Lib.hid (HAI6.out.upd hup7 (fun j hj => own_noA HOW6.out (by decide) hj)); obtain ⟨A7, c7, rfl⟩ := own_shape hown7; have HOW7 := Lib.hid hown7; have HLN7 : Hid ((L ++ [c ++ [a]]).length = m + 1) := Lib.hid (by rw [List.length_append, HLN.out]; rfl); have hpk7 := HPK.out w7 l2 false HR7.out hl2l; rw [HSK2.out, ← HH1.out] at hpk7; have HPK7 := Lib.hid hpk7; clear hown7 hg7 hat7 hup7 hpk7)
                        | (go_at_call 77; refine HPK7.out.mono ?_; rintro e w8 ⟨rfl, hr8, hu8⟩; have HB8 : Hid (Below w.heap.size w w8 ∧ M ≤ w8.heap.size) := Lib.hid ⟨HB7.out.1.trans (hu8.below (fun k hk => by have e2 : k = q := hk; rw [e2, ← HWQ.out]; exact Nat.le_refl _) HB7.out.1.size), Nat.le_trans HB7.out.2 hu8.size⟩; have HAI8 := Lib.hid (HAI7.out.upd hu8 (fun j hj hA => by have e2 : j = q := hj; subst e2; exact hA.no HR7.out (by decide))); have HOW8 := Lib.hid (own_upd HOW7.out hu8 (fun k hk e => by have e2 : k = q := e; have := (own_is HOW7.out hk).1; omega)); have ks8 : w8.cell? ⟨q, 0, none⟩ = some (.string S2) := by { rw [HS2.out]; exact Blk.cell hr8 0 }; have fs8 : w8.frozen? ⟨q, 0, none⟩ = false := Blk.frozen hr8 0; have HR8 := Lib.hid hr8; clear hu8 hr8))
                      have hr9 : RR (w8.setCell ⟨q, 0, none⟩ (.string (S2.extract 1 S2.size))) q r false := by
                        have := Blk.set_ HR8.out 0 (.string (S2.extract 1 S2.size))
                        unfold RR
                        rw [← HTL.out]
                        simpa using this
                      have hu9 : Upd (fun k => k = q) w8 (w8.setCell ⟨q, 0, none⟩ (.string (S2.extract 1 S2.size))) := (Upd.refl (fun k => k = q) _).setCell (p := ⟨q, 0, none⟩) (.inl rfl) _
                      have hb9 := HB8.out.1.trans (hu9.below (fun k hk => by have e2 : k = q := hk; rw [e2, ← HWQ.out]; exact Nat.le_refl _) HB8.out.1.size)
                      refine ⟨⟨d, m + 1, L ++ [c ++ [a]], xs ++ [.slice A5 (mc + 1) c5], A7, c7, r, rfl, by omega, HLN7, hrl, Lib.hid (own_upd HOW8.out hu9 (fun k hk e => by have e2 : k = q := e; have := (own_is HOW8.out hk).1; omega)), Lib.hid (by have h9 := HAI8.out.upd hu9 (fun j hj hA => by have e2 : j = q := hj; subst e2; exact hA.no HR8.out (by decide)); exact h9), Lib.hid hr9, Lib.hid ⟨hb9, Nat.le_trans HB8.out.2 hu9.size⟩, Lib.hid HR.out.symm⟩, ?_⟩
                      show 12 - (m + 1) < 12 - m
                      omega
                    · have q44 : ((cb : Int) != 44) = true := by rw [bne_iff_ne]; omega
                      have HR : Hid (RS = .form) := Lib.hid (by rw [HRS2.out, if_neg HNE.out, HH2.out, if_neg (by omega)])
                      clear h44
                      go_wp2_with (first
                        | (go_at_call 78; refine HA2.out.mono ?_; rintro e w3 ⟨hu3, rfl, hr3⟩; have HU3 := Lib.hid (HU.out.trans hu3); have HOC3 := Lib.hid (own_upd HOC.out hu3 (fun k hk e => by have e2 : k = q := e; have := (own_is HOC.out hk).1; omega)); have HR3 := Lib.hid hr3; have hw3s := HU3.out.size; clear hu3 hr3)
                        | (at_builtin; refine wpList_append_any _ rfl (.tmp 26) (.tmp 29) 69 rfl wo.heap.size 79 i0 _ 3 40 Try.underlying69 hi0 hz0 hz1 hz2 rfl (by decide) _ mc (catA c) rfl (HOC3.out.alloc _) (w3.heap.size + 1) (some ⟨w3.heap.size, 0, none⟩) 1 1 [.string X, .int .i64 kx, .string Y] rfl (reads_three (Blk.new w3 _ _) (by simp)) (fun u hu => by simp at hu; rcases hu with rfl | rfl | rfl <;> rfl) (by unfold maxLen; omega) (by omega) (by simp; omega) ?_; intro v5 w5 hown5 hg5 hat5; have HU5 := Lib.hid ((HU3.out.alloc (.cells #[.string X, .int .i64 kx, .string Y] 79)).grown hg5 (fun j hj => .inr (own_is HOC3.out hj).1)); have hup5 : Upd (fun j => (Value.slice Ac mc cc).ownBlock = some j) w3 w5 := ((Upd.refl _ w3).alloc _).grown hg5 (fun j hj => .inl hj); have HR5 := Lib.hid (Blk.upd HR3.out hup5 (fun e => own_blk_ne HOC3.out HR3.out (by decide) e)); obtain ⟨A5, c5, rfl⟩ := own_shape hown5; have HOC5 := Lib.hid hown5; have kb5 : w5.cell? ⟨q, 1, none⟩ = some (.bool false) := Blk.cell HR5.out 1; clear hown5 hg5 hat5 hup5; have HCN2 : Hid ((c ++ [a]).length = mc + 1) := Lib.hid (by rw [List.length_append, HCN.out]; rfl); have HOC5 : Hid (w5.ownsRow wo.heap.size 79 3 (.slice A5 (mc + 1) c5) (mc + 1) (catA (c ++ [a]))) := Lib.hid (by rw [catA_snoc, HAC.out]; exact HOC5.out); have hpk := HPK.out w5 l1 false HR5.out hl1l; rw [← HL2.out, ← HH1.out] at hpk; have HPK5 := Lib.hid hpk; clear hpk)
                        | (go_at_call 77; refine HPK5.out.mono ?_; rintro e w6 ⟨rfl, hr6, hu6⟩; have HU6 := Lib.hid (HU5.out.trans hu6); have HOC6 := Lib.hid (own_upd HOC5.out hu6 (fun k hk e => by have e2 : k = q := e; have := (own_is HOC5.out hk).1; omega)); have ks6 : w6.cell? ⟨q, 0, none⟩ = some (.string S2) := by { rw [HS2.out]; exact Blk.cell hr6 0 }; have fs6 : w6.frozen? ⟨q, 0, none⟩ = false := Blk.frozen hr6 0; have HR6 := Lib.hid hr6; clear hu6 hr6 HPK5; have HAI6 : Hid (AIn w6 (xs ++ [.slice A5 (mc + 1) c5]) (L ++ [c ++ [a]])) := Lib.hid (by have h9 := (HAI.out.upd HU6.out (fun j hj hA => by have e2 : j = q := hj; subst e2; exact hA.no HRO.out (by decide))).snoc (A := A5) (c := c5) (base := wo.heap.size) (l := c ++ [a]) (by rw [HCN2.out]; exact HOC6.out); rw [HCN2.out] at h9; exact h9); have HOW6 := Lib.hid (own_upd HOW.out HU6.out (fun k hk e => by have e2 : k = q := e; have := (own_is HOW.out hk).1; omega)); have HB6 : Hid (Below w.heap.size w w6 ∧ M ≤ w6.heap.size) := Lib.hid ⟨HBM.out.1.trans (HU6.out.below (fun k hk => by have e2 : k = q := hk; rw [e2, ← HWQ.out]; exact Nat.le_refl _) HBM.out.1.size), Nat.le_trans HBM.out.2 HU6.out.size⟩; have hm6 := HB6.out.2)
                        | (at_builtin; refine wpList_append_any _ rfl (.tmp 53) (.tmp 55) 28 rfl M 69 j0 _ 1 24 Try.underlying28 hj0 hy0 hy1 hy2 rfl (by decide) _ m xs rfl (HOW6.out.alloc _) (w6.heap.size + 1) (some ⟨w6.heap.size, 0, none⟩) 1 1 [.slice A5 (mc + 1) c5] rfl (reads_one (Blk.new w6 _ _) (by simp)) (fun u hu => by simp at hu; subst hu; rfl) (by unfold maxLen; omega) (by omega) (by simp; omega) ?_; intro v7 w7 hown7 hg7 hat7; have hup7 : Upd (fun j => (Value.slice Ao m co).ownBlock = some j) w6 w7 := ((Upd.refl _ w6).alloc _).grown hg7 (fun j hj => .inl hj); have HB7 : Hid (Below w.heap.size w w7 ∧ M ≤ w7.heap.size) := Lib.hid ⟨HB6.out.1.trans (hup7.below (fun j hj => by have h1 := (own_is HOW6.out hj).1; have h2 := HWQ.out; omega) HB6.out.1.size), Nat.le_trans hm6 hup7.size⟩; have HR7 := Lib.hid (Blk.upd HR6.out hup7 (fun e => own_blk_ne HOW6.out HR6.out (by decide) e)); have HAI7 := Lib.hid (HAI6.out.upd hup7 (fun j hj => own_noA HOW6.out (by decide) hj)); obtain ⟨A7, c7, rfl⟩ := own_shape hown7; have HOW7 := Lib.hid hown7; have HLN7 : Hid ((L ++ [c ++ [a]]).length = m + 1) := Lib.hid (by rw [List.length_append, HLN.out]; rfl); have hpk7 := HPK.out w7 l2 false HR7.out hl2l; rw [HSK2.out, ← HH1.out] at hpk7; have HPK7 := Lib.hid hpk7; clear hown7 hg7 hat7 hup7 hpk7)
                        | (go_at_call 77; refine HPK7.out.mono ?_; rintro e w8 ⟨rfl, hr8, hu8⟩; have HB8 : Hid (Below w.heap.size w w8 ∧ M ≤ w8.heap.size) := Lib.hid ⟨HB7.out.1.trans (hu8.below (fun k hk => by have e2 : k = q := hk; rw [e2, ← HWQ.out]; exact Nat.le_refl _) HB7.out.1.size), Nat.le_trans HB7.out.2 hu8.size⟩; have HAI8 := Lib.hid (HAI7.out.upd hu8 (fun j hj hA => by have e2 : j = q := hj; subst e2; exact hA.no HR7.out (by decide))); have HOW8 := Lib.hid (own_upd HOW7.out hu8 (fun k hk e => by have e2 : k = q := e; have := (own_is HOW7.out hk).1; omega)); have ks8 : w8.cell? ⟨q, 0, none⟩ = some (.string S2) := by { rw [HS2.out]; exact Blk.cell hr8 0 }; have fs8 : w8.frozen? ⟨q, 0, none⟩ = false := Blk.frozen hr8 0; have HR8 := Lib.hid hr8; clear hu8 hr8))
                      go_ret2
                      rw [HR.out]
                      exact ⟨HB8.out.1, rfl⟩
end Go.Proofs.Ytjkaigfpjebfbaa
