/- chandlerref4.AtomList, ProvideList. -/
import Derived.Test.YtjkaigfpjebfbaaRz
namespace Go.Proofs.Ytjkaigfpjebfbaa
open Go.RowKit
set_option linter.unusedVariables false

theorem clauseR_one {mf : Rl.Atm → Bool} {l l1 : Rl.Bs} {a : Rl.Atm} (h : Rl.atomR nmL verL l = some (a, l1)) : Rl.clauseR nmL verL mf true 6 l [] = if mf a then .ok ([a], l1) else .form := by
  show (match Rl.atomR nmL verL l with | none => _ | some (a, l1) => _) = _
  rw [h]; rfl
theorem clauseR_none {mf : Rl.Atm → Bool} {one : Bool} {l : Rl.Bs} (h : Rl.atomR nmL verL l = none) : Rl.clauseR nmL verL mf one 6 l [] = .form := by
  show (match Rl.atomR nmL verL l with | none => _ | some (a, l1) => _) = _
  rw [h]
theorem parseR_form {mf : Rl.Atm → Bool} {one : Bool} {d : Nat} {l : Rl.Bs} {L : List (List Rl.Atm)} (h : Rl.clauseR nmL verL mf one 6 l [] = .form) : Rl.parseR nmL verL mf one (d + 1) l L = .form := by
  show (match Rl.clauseR nmL verL mf one 6 l [] with | .many => _ | .form => _ | .ok (c, l1) => _) = _
  rw [h]
theorem catA_add (L : List (List Rl.Atm)) (a : Rl.Atm) : catA (L ++ [[a]]).flatten = catA L.flatten ++ atC a := by
  unfold catA; simp
theorem catP_add (L : List (List Rl.Atm)) (a : Rl.Atm) : catP (L ++ [[a]]).flatten = catP L.flatten ++ prC a := by
  unfold catP; simp
/-- What a list's reading hands back: t the cells' type, k how many cells an element has, f an atom's cells. -/
def LstRes (t : TypeId) (k : Nat) (f : List Rl.Atm → List Value) (w w' : World) (e : Ending) : Rl.Rd (List (List Rl.Atm)) → Prop
  | .many => e = .returned (.tuple #[.slice none 0 0, .int .i64 12])
  | .form => e = .returned (.tuple #[.slice none 0 0, .int .i64 3])
  | .ok L => ∃ A c, e = .returned (.tuple #[.slice A L.length c, .int .i64 0]) ∧ w'.ownsRow w.heap.size t k (.slice A L.length c) L.length (f L.flatten)
theorem LstRes.mk {t : TypeId} {k : Nat} {f : List Rl.Atm → List Value} {w w' : World} {m c : Nat} {A : Option Addr} {e : Ending} {L : List (List Rl.Atm)} (he : e = .returned (.tuple #[.slice A m c, .int .i64 0])) (hm : L.length = m) (ho : w'.ownsRow w.heap.size t k (.slice A m c) m (f L.flatten)) : LstRes t k f w w' e (.ok L) := by
  subst hm
  exact ⟨A, c, he, ho⟩
theorem LstRes.out {t : TypeId} {k : Nat} {f : List Rl.Atm → List Value} {w w' : World} {e : Ending} {r : Rl.Rd (List (List Rl.Atm))} (h0 : f [] = []) (h : LstRes t k f w w' e r) : ∃ A c, e = .returned (.tuple #[.slice A (okv r).length c, .int .i64 (eno r)]) ∧ w'.ownsRow w.heap.size t k (.slice A (okv r).length c) (okv r).length (f (okv r).flatten) := by
  cases r with
  | many => exact ⟨none, 0, h, by show World.ownsRow _ _ _ _ _ 0 (f []); rw [h0]; exact World.ownsRow_nil _ _ _ _⟩
  | form => exact ⟨none, 0, h, by show World.ownsRow _ _ _ _ _ 0 (f []); rw [h0]; exact World.ownsRow_nil _ _ _ _⟩
  | ok L => exact h
set_option maxRecDepth 100000 in
set_option maxHeartbeats 16000000 in
theorem AtomList_any (s : ByteArray) (w : World) (hs : s.size ≤ 1048576) :
    Calls Try.prog 58 #[.string s] w fun e w' => Below w.heap.size w w' ∧ LstRes 79 3 catA w w' e (Rl.allR nmL verL anyF true (bl s)) := by
  obtain ⟨i0, hi0, hz0, hz1, hz2⟩ := info_parts atom_row
  obtain ⟨RS, hRS⟩ : ∃ RS, RS = Rl.allR nmL verL anyF true (bl s) := ⟨_, rfl⟩
  rw [← hRS]
  obtain ⟨l0, hl0⟩ : ∃ l0, l0 = Rl.skw (bl s) := ⟨_, rfl⟩
  have HRS : Hid (RS = if l0 = [] then .ok [] else Rl.parseR nmL verL anyF true 12 l0 []) := Lib.hid (by rw [hRS, hl0]; exact allR_eq _ _ _)
  have hl0l : l0.length ≤ 1048576 := by rw [hl0]; exact Nat.le_trans (skw_len _) (by rw [bl_len]; exact hs)
  obtain ⟨q, hq⟩ : ∃ q, q = w.heap.size := ⟨_, rfl⟩
  obtain ⟨W1, hW1⟩ : ∃ W1, W1 = w.alloc (.cells #[.string s, .bool false] 110) := ⟨_, rfl⟩
  have hr1 : RR W1 q (bl s) false := by rw [hW1, hq]; exact Blk.new _ _ _
  have hb1 : Below w.heap.size w W1 := by rw [hW1]; exact (Below.refl _ _).alloc (Nat.le_refl _) _
  have hs1 : W1.heap.size = q + 1 := by rw [hW1, hq, World.size_alloc]
  have HPK : Hid (∀ (W : World) (l : Rl.Bs) (bad : Bool), RR W q l bad → l.length ≤ 1048576 → Calls Try.prog 77 #[.pointer (some ⟨q, 0, none⟩)] W fun e w' => e = .returned (.int .u8 (hd0 (Rl.skw l))) ∧ RR w' q (Rl.skw l) bad ∧ Upd (fun k => k = q) W w') := Lib.hid (fun W l bad h hl => peek_any q l bad W h hl)
  have HAT : Hid (∀ (W : World) (l : Rl.Bs), RR W q l false → l.length ≤ 1048576 → Calls Try.prog 78 #[.pointer (some ⟨q, 0, none⟩)] W fun e w' => Upd (fun k => k = q) W w' ∧ RAtomRes w' q e (Rl.atomR nmL verL l)) := Lib.hid (fun W l h hl => ratom_any q l W h hl)
  have hp1 := HPK.out W1 (bl s) false hr1 (by rw [bl_len]; exact hs)
  rw [← hl0] at hp1
  have HP1 := Lib.hid hp1
  have HB1 := Lib.hid hb1
  have HWQ := Lib.hid hq.symm
  obtain ⟨M, hM⟩ : ∃ M, M = W1.heap.size := ⟨_, rfl⟩
  have hMq : M = q + 1 := by rw [hM]; exact hs1
  have HMW := Lib.hid hM
  have HMQ := Lib.hid hMq
  have hst := str_tob l0
  obtain ⟨S, hS⟩ : ∃ S, S = Rl.tob l0 := ⟨_, rfl⟩
  rw [← hS] at hst
  have HS := Lib.hid hS
  clear hp1 hb1 hr1 hRS hl0 hM hs1 hS hMq
  go_enter Try.func58, Try.ntmps58
  go_upto_region 2 with fail
  rw [← hW1, ← hq]
  clear hW1 hq
  cases l0 with
  | nil =>
    have hst1 : S.toList.isEmpty = true := hst
    have HR : Hid (RS = .ok []) := Lib.hid HRS.out
    clear hst
    go_wp2_with (go_at_call 77; refine HP1.out.mono ?_; rintro e w2 ⟨rfl, hr2, hu2⟩; have ks2 : w2.cell? ⟨q, 0, none⟩ = some (.string S) := by { rw [HS.out]; exact Blk.cell hr2 0 }; have HB2 : Hid (Below w.heap.size w w2 ∧ M ≤ w2.heap.size) := Lib.hid ⟨HB1.out.trans (hu2.below (fun k hk => by have e2 : k = q := hk; rw [e2, ← HWQ.out]; exact Nat.le_refl _) HB1.out.size), by rw [HMW.out]; exact hu2.size⟩; have HR2 := Lib.hid hr2; clear hu2 hr2)
    go_ret2
    rw [HR.out]
    exact ⟨HB2.out.1, LstRes.mk rfl rfl (World.ownsRow_nil _ _ _ _)⟩
  | cons b0 r0 =>
    have hst1 : S.toList.isEmpty = false := hst
    have HPL : Hid (Rl.parseR nmL verL anyF true 12 (b0 :: r0) [] = RS) := Lib.hid (by rw [HRS.out, if_neg (by simp)])
    obtain ⟨lx, hlx⟩ : ∃ lx, lx = b0 :: r0 := ⟨_, rfl⟩
    rw [← hlx] at HP1 HPL hl0l HS
    clear hst hlx
    go_wp2_with (go_at_call 77; refine HP1.out.mono ?_; rintro e w2 ⟨rfl, hr2, hu2⟩; have ks2 : w2.cell? ⟨q, 0, none⟩ = some (.string S) := by { rw [HS.out]; exact Blk.cell hr2 0 }; have HB2 : Hid (Below w.heap.size w w2 ∧ M ≤ w2.heap.size) := Lib.hid ⟨HB1.out.trans (hu2.below (fun k hk => by have e2 : k = q := hk; rw [e2, ← HWQ.out]; exact Nat.le_refl _) HB1.out.size), by rw [HMW.out]; exact hu2.size⟩; have HR2 := Lib.hid hr2; clear hu2 hr2)
    clear HP1 HB1 hst1 ks2
    go_loopw [5] (fun v wr => ∃ (d m : Nat) (Ls : List (List Rl.Atm)) (Ao : Option Addr) (co : Nat) (l : Rl.Bs), v = .slice Ao m co ∧ m + d = 12 ∧ Hid (Ls.length = m) ∧ l.length ≤ 1048576 ∧ Hid (wr.ownsRow M 79 3 (.slice Ao m co) m (catA Ls.flatten)) ∧ Hid (RR wr q l false) ∧ Hid (Below w.heap.size w wr ∧ M ≤ wr.heap.size) ∧ Hid (Rl.parseR nmL verL anyF true d l Ls = RS)) (fun v _ => match v with | .slice _ m _ => 12 - m | _ => 0)
    case atStart => exact ⟨12, 0, [], none, 0, lx, rfl, rfl, Lib.hid rfl, hl0l, Lib.hid (World.ownsRow_nil _ _ _ _), HR2, HB2, HPL⟩
    case round =>
      obtain ⟨d, m, Ls, Ao, co, l, rfl, hmd, HLN, hll, HOW, HRR, HBM, HPP⟩ := hrel
      clear HR2 HB2 HPL hl0l
      cases d with
      | zero =>
        have q12 : ((m : Int) == 12) = true := by rw [beq_iff_eq]; omega
        have HR : Hid (RS = .many) := Lib.hid HPP.out.symm
        go_wp2_with fail
        go_ret2
        rw [HR.out]
        exact ⟨HBM.out.1, rfl⟩
      | succ d =>
        have q12 : ((m : Int) == 12) = false := by rw [beq_eq_false_iff_ne]; omega
        have hat := HAT.out wr l HRR.out hll
        obtain ⟨o, ho⟩ : ∃ o, o = Rl.atomR nmL verL l := ⟨_, rfl⟩
        rw [← ho] at hat
        have HO := Lib.hid ho.symm
        have HA1 := Lib.hid hat
        clear hat ho
        cases o with
        | none =>
          have HR : Hid (RS = .form) := Lib.hid (by rw [← HPP.out]; exact parseR_form (clauseR_none HO.out))
          go_wp2_with (first
            | (go_at_call 78; refine HA1.out.mono ?_; rintro e w3 ⟨hu3, X, kx, Y, l3, rfl, hr3⟩; unfold atV; have HB3 : Hid (Below w.heap.size w w3 ∧ M ≤ w3.heap.size) := Lib.hid ⟨HBM.out.1.trans (hu3.below (fun k hk => by have e2 : k = q := hk; rw [e2, ← HWQ.out]; exact Nat.le_refl _) HBM.out.1.size), Nat.le_trans HBM.out.2 hu3.size⟩; have HOW3 := Lib.hid (own_upd HOW.out hu3 (fun k hk e => by have e2 : k = q := e; have h1 := (own_is HOW.out hk).1; have h2 := HMQ.out; omega)); have HR3 := Lib.hid hr3; have hm3 := HB3.out.2; have kb3 : w3.cell? ⟨q, 1, none⟩ = some (.bool true) := Blk.cell hr3 1; clear hu3 hr3)
            | (at_builtin; refine wpList_append_any _ rfl (.tmp 19) (.tmp 22) 29 rfl M 79 i0 _ 3 40 Try.underlying29 hi0 hz0 hz1 hz2 rfl (by decide) _ m (catA Ls.flatten) rfl (HOW3.out.alloc _) (w3.heap.size + 1) (some ⟨w3.heap.size, 0, none⟩) 1 1 [.string X, .int .i64 kx, .string Y] rfl (reads_three (Blk.new w3 _ _) (by simp)) (fun u hu => by simp at hu; rcases hu with rfl | rfl | rfl <;> rfl) (by unfold maxLen; omega) (by omega) (by simp; omega) ?_; intro v5 w5 hown5 hg5 hat5; have hup5 : Upd (fun j => (Value.slice Ao m co).ownBlock = some j) w3 w5 := ((Upd.refl _ w3).alloc _).grown hg5 (fun j hj => .inl hj); have HB5 : Hid (Below w.heap.size w w5 ∧ M ≤ w5.heap.size) := Lib.hid ⟨HB3.out.1.trans (hup5.below (fun j hj => by have h1 := (own_is HOW3.out hj).1; have h2 := HWQ.out; have h3 := HMQ.out; omega) HB3.out.1.size), Nat.le_trans hm3 hup5.size⟩; have HR5 := Lib.hid (Blk.upd HR3.out hup5 (fun e => own_blk_ne HOW3.out HR3.out (by decide) e)); obtain ⟨A5, c5, rfl⟩ := own_shape hown5; have HOW5 := Lib.hid hown5; have kb5 : w5.cell? ⟨q, 1, none⟩ = some (.bool true) := Blk.cell HR5.out 1; clear hown5 hg5 hat5 hup5))
          go_ret2
          rw [HR.out]
          exact ⟨HB5.out.1, rfl⟩
        | some x =>
          obtain ⟨a, l1⟩ := x
          have hl1l : l1.length ≤ 1048576 := Nat.le_trans (atomR_len HO.out) hll
          obtain ⟨l2, hl2⟩ : ∃ l2, l2 = Rl.skw l1 := ⟨_, rfl⟩
          have hl2l : l2.length ≤ 1048576 := by rw [hl2]; exact Nat.le_trans (skw_len _) hl1l
          have HSTEP : Hid (anyF a = true → RS = if l2 = [] then .ok (Ls ++ [[a]]) else if hd0 l2 = 44 then Rl.parseR nmL verL anyF true d l2.tail (Ls ++ [[a]]) else .form) := Lib.hid (fun hm => by rw [← HPP.out, parseR_step (by rw [clauseR_one HO.out, if_pos hm]), ← hl2])
          have HL2 := Lib.hid hl2
          obtain ⟨h1, hh1⟩ : ∃ h1, h1 = hd0 l2 := ⟨_, rfl⟩
          rw [← hh1] at HSTEP
          have HH1 := Lib.hid hh1
          obtain ⟨X, hX⟩ : ∃ X, X = Rl.tob a.name := ⟨_, rfl⟩
          obtain ⟨Y, hY⟩ : ∃ Y, Y = Rl.tob a.ver := ⟨_, rfl⟩
          obtain ⟨kx, hkx⟩ : ∃ kx : Int, kx = (a.rel : Int) := ⟨_, rfl⟩
          have HKX := Lib.hid hkx
          have HAC : Hid (atC a = [.string X, .int .i64 kx, .string Y]) := Lib.hid (by unfold atC; rw [hX, hY, hkx])
          have HA2 : Hid (Calls Try.prog 78 #[.pointer (some ⟨q, 0, none⟩)] wr fun e w' => Upd (fun k => k = q) wr w' ∧ e = .returned (.agg #[.string X, .int .i64 kx, .string Y]) ∧ RR w' q l1 false) := Lib.hid (by rw [hX, hY, hkx]; exact HA1.out)
          obtain ⟨S2, hS2⟩ : ∃ S2, S2 = Rl.tob l2 := ⟨_, rfl⟩
          have hst2 := str_tob l2
          rw [← hS2] at hst2
          have HS2 := Lib.hid hS2
          clear hl2 hh1 hX hY hkx hS2 HA1
          have HSTP := Lib.hid (HSTEP.out rfl)
          cases hl : l2 with
          | nil =>
            have hst3 : S2.toList.isEmpty = true := by rw [hst2, hl]; rfl
            have HR : Hid (RS = .ok (Ls ++ [[a]])) := Lib.hid (by rw [HSTP.out, if_pos hl])
            clear hl hst2
            go_wp2_with (first
              | (go_at_call 78; refine HA2.out.mono ?_; rintro e w3 ⟨hu3, rfl, hr3⟩;  have HB3 : Hid (Below w.heap.size w w3 ∧ M ≤ w3.heap.size) := Lib.hid ⟨HBM.out.1.trans (hu3.below (fun k hk => by have e2 : k = q := hk; rw [e2, ← HWQ.out]; exact Nat.le_refl _) HBM.out.1.size), Nat.le_trans HBM.out.2 hu3.size⟩; have HOW3 := Lib.hid (own_upd HOW.out hu3 (fun k hk e => by have e2 : k = q := e; have h1 := (own_is HOW.out hk).1; have h2 := HMQ.out; omega)); have HR3 := Lib.hid hr3; have hm3 := HB3.out.2; have kb3 : w3.cell? ⟨q, 1, none⟩ = some (.bool false) := Blk.cell hr3 1; clear hu3 hr3)
              | (at_builtin; refine wpList_append_any _ rfl (.tmp 19) (.tmp 22) 29 rfl M 79 i0 _ 3 40 Try.underlying29 hi0 hz0 hz1 hz2 rfl (by decide) _ m (catA Ls.flatten) rfl (HOW3.out.alloc _) (w3.heap.size + 1) (some ⟨w3.heap.size, 0, none⟩) 1 1 [.string X, .int .i64 kx, .string Y] rfl (reads_three (Blk.new w3 _ _) (by simp)) (fun u hu => by simp at hu; rcases hu with rfl | rfl | rfl <;> rfl) (by unfold maxLen; omega) (by omega) (by simp; omega) ?_; intro v5 w5 hown5 hg5 hat5; have hup5 : Upd (fun j => (Value.slice Ao m co).ownBlock = some j) w3 w5 := ((Upd.refl _ w3).alloc _).grown hg5 (fun j hj => .inl hj); have HB5 : Hid (Below w.heap.size w w5 ∧ M ≤ w5.heap.size) := Lib.hid ⟨HB3.out.1.trans (hup5.below (fun j hj => by have h1 := (own_is HOW3.out hj).1; have h2 := HWQ.out; have h3 := HMQ.out; omega) HB3.out.1.size), Nat.le_trans hm3 hup5.size⟩; have HR5 := Lib.hid (Blk.upd HR3.out hup5 (fun e => own_blk_ne HOW3.out HR3.out (by decide) e)); obtain ⟨A5, c5, rfl⟩ := own_shape hown5; have HOW5 := Lib.hid hown5; have kb5 : w5.cell? ⟨q, 1, none⟩ = some (.bool false) := Blk.cell HR5.out 1; clear hown5 hg5 hat5 hup5; have HOW5 : Hid (w5.ownsRow M 79 3 (.slice A5 (m + 1) c5) (m + 1) (catA (Ls ++ [[a]]).flatten)) := Lib.hid (by rw [catA_add, HAC.out]; exact HOW5.out); have hpk := HPK.out w5 l1 false HR5.out hl1l; rw [← HL2.out, ← HH1.out] at hpk; have HPK5 := Lib.hid hpk; clear hpk; have HLN5 : Hid ((Ls ++ [[a]]).length = m + 1) := Lib.hid (by rw [List.length_append, HLN.out]; rfl))
              | (go_at_call 77; refine HPK5.out.mono ?_; rintro e w6 ⟨rfl, hr6, hu6⟩; have HB6 : Hid (Below w.heap.size w w6 ∧ M ≤ w6.heap.size) := Lib.hid ⟨HB5.out.1.trans (hu6.below (fun k hk => by have e2 : k = q := hk; rw [e2, ← HWQ.out]; exact Nat.le_refl _) HB5.out.1.size), Nat.le_trans HB5.out.2 hu6.size⟩; have HOW6 := Lib.hid (own_upd HOW5.out hu6 (fun k hk e => by have e2 : k = q := e; have h1 := (own_is HOW5.out hk).1; have h2 := HMQ.out; omega)); have ks6 : w6.cell? ⟨q, 0, none⟩ = some (.string S2) := by { rw [HS2.out]; exact Blk.cell hr6 0 }; have fs6 : w6.frozen? ⟨q, 0, none⟩ = false := Blk.frozen hr6 0; have HR6 := Lib.hid hr6; clear hu6 hr6))
            go_ret2
            rw [HR.out]
            exact ⟨HB6.out.1, LstRes.mk rfl HLN5.out (own_mono HOW6.out (by have h1 := HWQ.out; have h2 := HMQ.out; omega))⟩
          | cons b r =>
            have hst3 : S2.toList.isEmpty = false := by rw [hst2, hl]; rfl
            have hszl : S2.size = r.length + 1 := by rw [HS2.out, tob_size, hl]; rfl
            have hsz0 : 0 < S2.size := by omega
            have hzp : (0 : Int) < (S2.size : Int) := by omega
            have hz3 : (1 : Int) ≤ (S2.size : Int) := by omega
            obtain ⟨cb, hcb⟩ : ∃ cb, cb = b.toNat := ⟨_, rfl⟩
            have hx2 : ((S2[0]'hsz0).toNat : Nat) = cb := by
              have h9 := HS2.out
              rw [hl] at h9
              subst h9
              rw [hcb]; rfl
            have HH2 : Hid (h1 = (cb : Int)) := Lib.hid (by rw [HH1.out, hl, hcb]; rfl)
            have HTL : Hid (S2.extract 1 S2.size = Rl.tob r) := Lib.hid (by rw [HS2.out, hl]; exact tob_drop (b :: r) 1)
            have HTLL : Hid (l2.tail = r) := Lib.hid (by rw [hl]; rfl)
            have hrl : r.length ≤ 1048576 := by rw [hl] at hl2l; have : (b :: r).length = r.length + 1 := rfl; omega
            have HNE : Hid (¬ l2 = []) := Lib.hid (by rw [hl]; simp)
            clear hl hst2 hszl hcb
            by_cases h44 : cb = 44
            · have q44 : ((cb : Int) != 44) = false := by rw [h44]; rfl
              have HR : Hid (RS = Rl.parseR nmL verL anyF true d r (Ls ++ [[a]])) := Lib.hid (by rw [HSTP.out, if_neg HNE.out, HH2.out, if_pos (by rw [h44]; rfl), HTLL.out])
              clear h44
              go_wp2_with (first
                | (go_at_call 78; refine HA2.out.mono ?_; rintro e w3 ⟨hu3, rfl, hr3⟩;  have HB3 : Hid (Below w.heap.size w w3 ∧ M ≤ w3.heap.size) := Lib.hid ⟨HBM.out.1.trans (hu3.below (fun k hk => by have e2 : k = q := hk; rw [e2, ← HWQ.out]; exact Nat.le_refl _) HBM.out.1.size), Nat.le_trans HBM.out.2 hu3.size⟩; have HOW3 := Lib.hid (own_upd HOW.out hu3 (fun k hk e => by have e2 : k = q := e; have h1 := (own_is HOW.out hk).1; have h2 := HMQ.out; omega)); have HR3 := Lib.hid hr3; have hm3 := HB3.out.2; have kb3 : w3.cell? ⟨q, 1, none⟩ = some (.bool false) := Blk.cell hr3 1; clear hu3 hr3)
                | (at_builtin; refine wpList_append_any _ rfl (.tmp 19) (.tmp 22) 29 rfl M 79 i0 _ 3 40 Try.underlying29 hi0 hz0 hz1 hz2 rfl (by decide) _ m (catA Ls.flatten) rfl (HOW3.out.alloc _) (w3.heap.size + 1) (some ⟨w3.heap.size, 0, none⟩) 1 1 [.string X, .int .i64 kx, .string Y] rfl (reads_three (Blk.new w3 _ _) (by simp)) (fun u hu => by simp at hu; rcases hu with rfl | rfl | rfl <;> rfl) (by unfold maxLen; omega) (by omega) (by simp; omega) ?_; intro v5 w5 hown5 hg5 hat5; have hup5 : Upd (fun j => (Value.slice Ao m co).ownBlock = some j) w3 w5 := ((Upd.refl _ w3).alloc _).grown hg5 (fun j hj => .inl hj); have HB5 : Hid (Below w.heap.size w w5 ∧ M ≤ w5.heap.size) := Lib.hid ⟨HB3.out.1.trans (hup5.below (fun j hj => by have h1 := (own_is HOW3.out hj).1; have h2 := HWQ.out; have h3 := HMQ.out; omega) HB3.out.1.size), Nat.le_trans hm3 hup5.size⟩; have HR5 := Lib.hid (Blk.upd HR3.out hup5 (fun e => own_blk_ne HOW3.out HR3.out (by decide) e)); obtain ⟨A5, c5, rfl⟩ := own_shape hown5; have HOW5 := Lib.hid hown5; have kb5 : w5.cell? ⟨q, 1, none⟩ = some (.bool false) := Blk.cell HR5.out 1; clear hown5 hg5 hat5 hup5; have HOW5 : Hid (w5.ownsRow M 79 3 (.slice A5 (m + 1) c5) (m + 1) (catA (Ls ++ [[a]]).flatten)) := Lib.hid (by rw [catA_add, HAC.out]; exact HOW5.out); have hpk := HPK.out w5 l1 false HR5.out hl1l; rw [← HL2.out, ← HH1.out] at hpk; have HPK5 := Lib.hid hpk; clear hpk; have HLN5 : Hid ((Ls ++ [[a]]).length = m + 1) := Lib.hid (by rw [List.length_append, HLN.out]; rfl))
                | (go_at_call 77; refine HPK5.out.mono ?_; rintro e w6 ⟨rfl, hr6, hu6⟩; have HB6 : Hid (Below w.heap.size w w6 ∧ M ≤ w6.heap.size) := Lib.hid ⟨HB5.out.1.trans (hu6.below (fun k hk => by have e2 : k = q := hk; rw [e2, ← HWQ.out]; exact Nat.le_refl _) HB5.out.1.size), Nat.le_trans HB5.out.2 hu6.size⟩; have HOW6 := Lib.hid (own_upd HOW5.out hu6 (fun k hk e => by have e2 : k = q := e; have h1 := (own_is HOW5.out hk).1; have h2 := HMQ.out; omega)); have ks6 : w6.cell? ⟨q, 0, none⟩ = some (.string S2) := by { rw [HS2.out]; exact Blk.cell hr6 0 }; have fs6 : w6.frozen? ⟨q, 0, none⟩ = false := Blk.frozen hr6 0; have HR6 := Lib.hid hr6; clear hu6 hr6))
              have hr9 : RR (w6.setCell ⟨q, 0, none⟩ (.string (S2.extract 1 S2.size))) q r false := by
                have := Blk.set_ HR6.out 0 (.string (S2.extract 1 S2.size))
                unfold RR
                rw [← HTL.out]
                simpa using this
              have hu9 : Upd (fun k => k = q) w6 (w6.setCell ⟨q, 0, none⟩ (.string (S2.extract 1 S2.size))) := (Upd.refl (fun k => k = q) _).setCell (p := ⟨q, 0, none⟩) (.inl rfl) _
              have hb9 := HB6.out.1.trans (hu9.below (fun k hk => by have e2 : k = q := hk; rw [e2, ← HWQ.out]; exact Nat.le_refl _) HB6.out.1.size)
              refine ⟨⟨d, m + 1, Ls ++ [[a]], A5, c5, r, rfl, by omega, HLN5, hrl, Lib.hid (own_upd HOW6.out hu9 (fun k hk e => by have e2 : k = q := e; have h1 := (own_is HOW6.out hk).1; have h2 := HMQ.out; omega)), Lib.hid hr9, Lib.hid ⟨hb9, Nat.le_trans HB6.out.2 hu9.size⟩, Lib.hid HR.out.symm⟩, ?_⟩
              show 12 - (m + 1) < 12 - m
              omega
            · have q44 : ((cb : Int) != 44) = true := by rw [bne_iff_ne]; omega
              have HR : Hid (RS = .form) := Lib.hid (by rw [HSTP.out, if_neg HNE.out, HH2.out, if_neg (by omega)])
              clear h44
              go_wp2_with (first
                | (go_at_call 78; refine HA2.out.mono ?_; rintro e w3 ⟨hu3, rfl, hr3⟩;  have HB3 : Hid (Below w.heap.size w w3 ∧ M ≤ w3.heap.size) := Lib.hid ⟨HBM.out.1.trans (hu3.below (fun k hk => by have e2 : k = q := hk; rw [e2, ← HWQ.out]; exact Nat.le_refl _) HBM.out.1.size), Nat.le_trans HBM.out.2 hu3.size⟩; have HOW3 := Lib.hid (own_upd HOW.out hu3 (fun k hk e => by have e2 : k = q := e; have h1 := (own_is HOW.out hk).1; have h2 := HMQ.out; omega)); have HR3 := Lib.hid hr3; have hm3 := HB3.out.2; have kb3 : w3.cell? ⟨q, 1, none⟩ = some (.bool false) := Blk.cell hr3 1; clear hu3 hr3)
                | (at_builtin; refine wpList_append_any _ rfl (.tmp 19) (.tmp 22) 29 rfl M 79 i0 _ 3 40 Try.underlying29 hi0 hz0 hz1 hz2 rfl (by decide) _ m (catA Ls.flatten) rfl (HOW3.out.alloc _) (w3.heap.size + 1) (some ⟨w3.heap.size, 0, none⟩) 1 1 [.string X, .int .i64 kx, .string Y] rfl (reads_three (Blk.new w3 _ _) (by simp)) (fun u hu => by simp at hu; rcases hu with rfl | rfl | rfl <;> rfl) (by unfold maxLen; omega) (by omega) (by simp; omega) ?_; intro v5 w5 hown5 hg5 hat5; have hup5 : Upd (fun j => (Value.slice Ao m co).ownBlock = some j) w3 w5 := ((Upd.refl _ w3).alloc _).grown hg5 (fun j hj => .inl hj); have HB5 : Hid (Below w.heap.size w w5 ∧ M ≤ w5.heap.size) := Lib.hid ⟨HB3.out.1.trans (hup5.below (fun j hj => by have h1 := (own_is HOW3.out hj).1; have h2 := HWQ.out; have h3 := HMQ.out; omega) HB3.out.1.size), Nat.le_trans hm3 hup5.size⟩; have HR5 := Lib.hid (Blk.upd HR3.out hup5 (fun e => own_blk_ne HOW3.out HR3.out (by decide) e)); obtain ⟨A5, c5, rfl⟩ := own_shape hown5; have HOW5 := Lib.hid hown5; have kb5 : w5.cell? ⟨q, 1, none⟩ = some (.bool false) := Blk.cell HR5.out 1; clear hown5 hg5 hat5 hup5; have HOW5 : Hid (w5.ownsRow M 79 3 (.slice A5 (m + 1) c5) (m + 1) (catA (Ls ++ [[a]]).flatten)) := Lib.hid (by rw [catA_add, HAC.out]; exact HOW5.out); have hpk := HPK.out w5 l1 false HR5.out hl1l; rw [← HL2.out, ← HH1.out] at hpk; have HPK5 := Lib.hid hpk; clear hpk; have HLN5 : Hid ((Ls ++ [[a]]).length = m + 1) := Lib.hid (by rw [List.length_append, HLN.out]; rfl))
                | (go_at_call 77; refine HPK5.out.mono ?_; rintro e w6 ⟨rfl, hr6, hu6⟩; have HB6 : Hid (Below w.heap.size w w6 ∧ M ≤ w6.heap.size) := Lib.hid ⟨HB5.out.1.trans (hu6.below (fun k hk => by have e2 : k = q := hk; rw [e2, ← HWQ.out]; exact Nat.le_refl _) HB5.out.1.size), Nat.le_trans HB5.out.2 hu6.size⟩; have HOW6 := Lib.hid (own_upd HOW5.out hu6 (fun k hk e => by have e2 : k = q := e; have h1 := (own_is HOW5.out hk).1; have h2 := HMQ.out; omega)); have ks6 : w6.cell? ⟨q, 0, none⟩ = some (.string S2) := by { rw [HS2.out]; exact Blk.cell hr6 0 }; have fs6 : w6.frozen? ⟨q, 0, none⟩ = false := Blk.frozen hr6 0; have HR6 := Lib.hid hr6; clear hu6 hr6))
              go_ret2
              rw [HR.out]
              exact ⟨HB6.out.1, rfl⟩
set_option maxRecDepth 100000 in
set_option maxHeartbeats 16000000 in
theorem ProvideList_any (s : ByteArray) (w : World) (hs : s.size ≤ 1048576) :
    Calls Try.prog 59 #[.string s] w fun e w' => Below w.heap.size w w' ∧ LstRes 82 2 catP w w' e (Rl.allR nmL verL provF true (bl s)) := by
  obtain ⟨i0, hi0, hz0, hz1, hz2⟩ := info_parts prov_row
  obtain ⟨RS, hRS⟩ : ∃ RS, RS = Rl.allR nmL verL provF true (bl s) := ⟨_, rfl⟩
  rw [← hRS]
  obtain ⟨l0, hl0⟩ : ∃ l0, l0 = Rl.skw (bl s) := ⟨_, rfl⟩
  have HRS : Hid (RS = if l0 = [] then .ok [] else Rl.parseR nmL verL provF true 12 l0 []) := Lib.hid (by rw [hRS, hl0]; exact allR_eq _ _ _)
  have hl0l : l0.length ≤ 1048576 := by rw [hl0]; exact Nat.le_trans (skw_len _) (by rw [bl_len]; exact hs)
  obtain ⟨q, hq⟩ : ∃ q, q = w.heap.size := ⟨_, rfl⟩
  obtain ⟨W1, hW1⟩ : ∃ W1, W1 = w.alloc (.cells #[.string s, .bool false] 110) := ⟨_, rfl⟩
  have hr1 : RR W1 q (bl s) false := by rw [hW1, hq]; exact Blk.new _ _ _
  have hb1 : Below w.heap.size w W1 := by rw [hW1]; exact (Below.refl _ _).alloc (Nat.le_refl _) _
  have hs1 : W1.heap.size = q + 1 := by rw [hW1, hq, World.size_alloc]
  have HPK : Hid (∀ (W : World) (l : Rl.Bs) (bad : Bool), RR W q l bad → l.length ≤ 1048576 → Calls Try.prog 77 #[.pointer (some ⟨q, 0, none⟩)] W fun e w' => e = .returned (.int .u8 (hd0 (Rl.skw l))) ∧ RR w' q (Rl.skw l) bad ∧ Upd (fun k => k = q) W w') := Lib.hid (fun W l bad h hl => peek_any q l bad W h hl)
  have HAT : Hid (∀ (W : World) (l : Rl.Bs), RR W q l false → l.length ≤ 1048576 → Calls Try.prog 78 #[.pointer (some ⟨q, 0, none⟩)] W fun e w' => Upd (fun k => k = q) W w' ∧ RAtomRes w' q e (Rl.atomR nmL verL l)) := Lib.hid (fun W l h hl => ratom_any q l W h hl)
  have hp1 := HPK.out W1 (bl s) false hr1 (by rw [bl_len]; exact hs)
  rw [← hl0] at hp1
  have HP1 := Lib.hid hp1
  have HB1 := Lib.hid hb1
  have HWQ := Lib.hid hq.symm
  obtain ⟨M, hM⟩ : ∃ M, M = W1.heap.size := ⟨_, rfl⟩
  have hMq : M = q + 1 := by rw [hM]; exact hs1
  have HMW := Lib.hid hM
  have HMQ := Lib.hid hMq
  have hst := str_tob l0
  obtain ⟨S, hS⟩ : ∃ S, S = Rl.tob l0 := ⟨_, rfl⟩
  rw [← hS] at hst
  have HS := Lib.hid hS
  clear hp1 hb1 hr1 hRS hl0 hM hs1 hS hMq
  go_enter Try.func59, Try.ntmps59
  go_upto_region 2 with fail
  rw [← hW1, ← hq]
  clear hW1 hq
  cases l0 with
  | nil =>
    have hst1 : S.toList.isEmpty = true := hst
    have HR : Hid (RS = .ok []) := Lib.hid HRS.out
    clear hst
    go_wp2_with (go_at_call 77; refine HP1.out.mono ?_; rintro e w2 ⟨rfl, hr2, hu2⟩; have ks2 : w2.cell? ⟨q, 0, none⟩ = some (.string S) := by { rw [HS.out]; exact Blk.cell hr2 0 }; have HB2 : Hid (Below w.heap.size w w2 ∧ M ≤ w2.heap.size) := Lib.hid ⟨HB1.out.trans (hu2.below (fun k hk => by have e2 : k = q := hk; rw [e2, ← HWQ.out]; exact Nat.le_refl _) HB1.out.size), by rw [HMW.out]; exact hu2.size⟩; have HR2 := Lib.hid hr2; clear hu2 hr2)
    go_ret2
    rw [HR.out]
    exact ⟨HB2.out.1, LstRes.mk rfl rfl (World.ownsRow_nil _ _ _ _)⟩
  | cons b0 r0 =>
    have hst1 : S.toList.isEmpty = false := hst
    have HPL : Hid (Rl.parseR nmL verL provF true 12 (b0 :: r0) [] = RS) := Lib.hid (by rw [HRS.out, if_neg (by simp)])
    obtain ⟨lx, hlx⟩ : ∃ lx, lx = b0 :: r0 := ⟨_, rfl⟩
    rw [← hlx] at HP1 HPL hl0l HS
    clear hst hlx
    go_wp2_with (go_at_call 77; refine HP1.out.mono ?_; rintro e w2 ⟨rfl, hr2, hu2⟩; have ks2 : w2.cell? ⟨q, 0, none⟩ = some (.string S) := by { rw [HS.out]; exact Blk.cell hr2 0 }; have HB2 : Hid (Below w.heap.size w w2 ∧ M ≤ w2.heap.size) := Lib.hid ⟨HB1.out.trans (hu2.below (fun k hk => by have e2 : k = q := hk; rw [e2, ← HWQ.out]; exact Nat.le_refl _) HB1.out.size), by rw [HMW.out]; exact hu2.size⟩; have HR2 := Lib.hid hr2; clear hu2 hr2)
    clear HP1 HB1 hst1 ks2
    go_loopw [5] (fun v wr => ∃ (d m : Nat) (Ls : List (List Rl.Atm)) (Ao : Option Addr) (co : Nat) (l : Rl.Bs), v = .slice Ao m co ∧ m + d = 12 ∧ Hid (Ls.length = m) ∧ l.length ≤ 1048576 ∧ Hid (wr.ownsRow M 82 2 (.slice Ao m co) m (catP Ls.flatten)) ∧ Hid (RR wr q l false) ∧ Hid (Below w.heap.size w wr ∧ M ≤ wr.heap.size) ∧ Hid (Rl.parseR nmL verL provF true d l Ls = RS)) (fun v _ => match v with | .slice _ m _ => 12 - m | _ => 0)
    case atStart => exact ⟨12, 0, [], none, 0, lx, rfl, rfl, Lib.hid rfl, hl0l, Lib.hid (World.ownsRow_nil _ _ _ _), HR2, HB2, HPL⟩
    case round =>
      obtain ⟨d, m, Ls, Ao, co, l, rfl, hmd, HLN, hll, HOW, HRR, HBM, HPP⟩ := hrel
      clear HR2 HB2 HPL hl0l
      cases d with
      | zero =>
        have q12 : ((m : Int) == 12) = true := by rw [beq_iff_eq]; omega
        have HR : Hid (RS = .many) := Lib.hid HPP.out.symm
        go_wp2_with fail
        go_ret2
        rw [HR.out]
        exact ⟨HBM.out.1, rfl⟩
      | succ d =>
        have q12 : ((m : Int) == 12) = false := by rw [beq_eq_false_iff_ne]; omega
        have hat := HAT.out wr l HRR.out hll
        obtain ⟨o, ho⟩ : ∃ o, o = Rl.atomR nmL verL l := ⟨_, rfl⟩
        rw [← ho] at hat
        have HO := Lib.hid ho.symm
        have HA1 := Lib.hid hat
        clear hat ho
        cases o with
        | none =>
          have HR : Hid (RS = .form) := Lib.hid (by rw [← HPP.out]; exact parseR_form (clauseR_none HO.out))
          go_upto_region 9 with (go_at_call 78; refine HA1.out.mono ?_; rintro e w3 ⟨hu3, X, kx, Y, l3, rfl, hr3⟩; unfold atV; have HB3 : Hid (Below w.heap.size w w3 ∧ M ≤ w3.heap.size) := Lib.hid ⟨HBM.out.1.trans (hu3.below (fun k hk => by have e2 : k = q := hk; rw [e2, ← HWQ.out]; exact Nat.le_refl _) HBM.out.1.size), Nat.le_trans HBM.out.2 hu3.size⟩; have HOW3 := Lib.hid (own_upd HOW.out hu3 (fun k hk e => by have e2 : k = q := e; have h1 := (own_is HOW.out hk).1; have h2 := HMQ.out; omega)); have HR3 := Lib.hid hr3; have hm3 := HB3.out.2; have kb3 : w3.cell? ⟨q, 1, none⟩ = some (.bool true) := Blk.cell hr3 1)
          obtain ⟨b4, hb4⟩ : ∃ b4, b4 = w3.heap.size := ⟨_, rfl⟩
          obtain ⟨w4, hw4⟩ : ∃ w4, w4 = w3.alloc (.cells #[.string X, .int .i64 kx, .string Y] 79) := ⟨_, rfl⟩
          have HB4 : Hid (Below w.heap.size w w4 ∧ M ≤ w4.heap.size) := Lib.hid (by rw [hw4]; exact ⟨HB3.out.1.alloc HB3.out.1.size _, Nat.le_trans hm3 (by rw [World.size_alloc]; omega)⟩)
          have HOW4 : Hid (w4.ownsRow M 82 2 (.slice Ao m co) m (catP Ls.flatten)) := Lib.hid (by rw [hw4]; exact HOW3.out.alloc _)
          have hr4 : RR w4 q l3 true := by rw [hw4]; exact Blk.alloc hr3 _
          have hbb4 : Blk w4 b4 79 #[.string X, .int .i64 kx, .string Y] := by rw [hw4, hb4]; exact Blk.new w3 _ _
          have HR4 := Lib.hid hr4
          have kb4 : w4.cell? ⟨q, 1, none⟩ = some (.bool true) := hr4.cell 1
          have kn4 : w4.cell? ⟨b4, 0, none⟩ = some (.string X) := hbb4.cell 0
          have kk4 : w4.cell? ⟨b4, 1, none⟩ = some (.int .i64 kx) := hbb4.cell 1
          have kv4 : w4.cell? ⟨b4, 2, none⟩ = some (.string Y) := hbb4.cell 2
          have hm4 := HB4.out.2
          rw [← hw4, ← hb4]
          clear hu3 hr3 hw4 hb4 hr4 hbb4 kb3 hm3
          go_wp2_with fail
          go_ret2
          rw [HR.out]
          exact ⟨HB4.out.1, rfl⟩
        | some x =>
          obtain ⟨a, l1⟩ := x
          have hl1l : l1.length ≤ 1048576 := Nat.le_trans (atomR_len HO.out) hll
          obtain ⟨l2, hl2⟩ : ∃ l2, l2 = Rl.skw l1 := ⟨_, rfl⟩
          have hl2l : l2.length ≤ 1048576 := by rw [hl2]; exact Nat.le_trans (skw_len _) hl1l
          have HSTEP : Hid (provF a = true → RS = if l2 = [] then .ok (Ls ++ [[a]]) else if hd0 l2 = 44 then Rl.parseR nmL verL provF true d l2.tail (Ls ++ [[a]]) else .form) := Lib.hid (fun hm => by rw [← HPP.out, parseR_step (by rw [clauseR_one HO.out, if_pos hm]), ← hl2])
          have HL2 := Lib.hid hl2
          obtain ⟨h1, hh1⟩ : ∃ h1, h1 = hd0 l2 := ⟨_, rfl⟩
          rw [← hh1] at HSTEP
          have HH1 := Lib.hid hh1
          obtain ⟨X, hX⟩ : ∃ X, X = Rl.tob a.name := ⟨_, rfl⟩
          obtain ⟨Y, hY⟩ : ∃ Y, Y = Rl.tob a.ver := ⟨_, rfl⟩
          obtain ⟨kx, hkx⟩ : ∃ kx : Int, kx = (a.rel : Int) := ⟨_, rfl⟩
          have HKX := Lib.hid hkx
          have HAC : Hid (prC a = [.string X, .string Y]) := Lib.hid (by unfold prC; rw [hX, hY])
          have HA2 : Hid (Calls Try.prog 78 #[.pointer (some ⟨q, 0, none⟩)] wr fun e w' => Upd (fun k => k = q) wr w' ∧ e = .returned (.agg #[.string X, .int .i64 kx, .string Y]) ∧ RR w' q l1 false) := Lib.hid (by rw [hX, hY, hkx]; exact HA1.out)
          obtain ⟨S2, hS2⟩ : ∃ S2, S2 = Rl.tob l2 := ⟨_, rfl⟩
          have hst2 := str_tob l2
          rw [← hS2] at hst2
          have HS2 := Lib.hid hS2
          clear hl2 hh1 hX hY hkx hS2 HA1
          by_cases hpr : kx = 0 ∨ kx = 3
          case neg =>
            have qa : (kx != 0) = true := by rw [bne_iff_ne]; exact fun e => hpr (.inl e)
            have qb : (kx != 3) = true := by rw [bne_iff_ne]; exact fun e => hpr (.inr e)
            have hpf : provF a = false := by unfold provF; rw [decide_eq_false (fun e => hpr (.inl (by rw [HKX.out, e]; rfl))), decide_eq_false (fun e => hpr (.inr (by rw [HKX.out, e]; rfl)))]; rfl
            have HR : Hid (RS = .form) := Lib.hid (by rw [← HPP.out]; exact parseR_form (by rw [clauseR_one HO.out, if_neg (by rw [hpf]; simp)]))
            clear hpr hpf
            go_upto_region 9 with (go_at_call 78; refine HA2.out.mono ?_; rintro e w3 ⟨hu3, rfl, hr3⟩;  have HB3 : Hid (Below w.heap.size w w3 ∧ M ≤ w3.heap.size) := Lib.hid ⟨HBM.out.1.trans (hu3.below (fun k hk => by have e2 : k = q := hk; rw [e2, ← HWQ.out]; exact Nat.le_refl _) HBM.out.1.size), Nat.le_trans HBM.out.2 hu3.size⟩; have HOW3 := Lib.hid (own_upd HOW.out hu3 (fun k hk e => by have e2 : k = q := e; have h1 := (own_is HOW.out hk).1; have h2 := HMQ.out; omega)); have HR3 := Lib.hid hr3; have hm3 := HB3.out.2; have kb3 : w3.cell? ⟨q, 1, none⟩ = some (.bool false) := Blk.cell hr3 1)
            obtain ⟨b4, hb4⟩ : ∃ b4, b4 = w3.heap.size := ⟨_, rfl⟩
            obtain ⟨w4, hw4⟩ : ∃ w4, w4 = w3.alloc (.cells #[.string X, .int .i64 kx, .string Y] 79) := ⟨_, rfl⟩
            have HB4 : Hid (Below w.heap.size w w4 ∧ M ≤ w4.heap.size) := Lib.hid (by rw [hw4]; exact ⟨HB3.out.1.alloc HB3.out.1.size _, Nat.le_trans hm3 (by rw [World.size_alloc]; omega)⟩)
            have HOW4 : Hid (w4.ownsRow M 82 2 (.slice Ao m co) m (catP Ls.flatten)) := Lib.hid (by rw [hw4]; exact HOW3.out.alloc _)
            have hr4 : RR w4 q l1 false := by rw [hw4]; exact Blk.alloc hr3 _
            have hbb4 : Blk w4 b4 79 #[.string X, .int .i64 kx, .string Y] := by rw [hw4, hb4]; exact Blk.new w3 _ _
            have HR4 := Lib.hid hr4
            have kb4 : w4.cell? ⟨q, 1, none⟩ = some (.bool false) := hr4.cell 1
            have kn4 : w4.cell? ⟨b4, 0, none⟩ = some (.string X) := hbb4.cell 0
            have kk4 : w4.cell? ⟨b4, 1, none⟩ = some (.int .i64 kx) := hbb4.cell 1
            have kv4 : w4.cell? ⟨b4, 2, none⟩ = some (.string Y) := hbb4.cell 2
            have hm4 := HB4.out.2
            rw [← hw4, ← hb4]
            clear hu3 hr3 hw4 hb4 hr4 hbb4 kb3 hm3
            go_wp2_with fail
            go_ret2
            rw [HR.out]
            exact ⟨HB4.out.1, rfl⟩
          have HSTP := Lib.hid (HSTEP.out (by unfold provF; rcases hpr with h9 | h9; { rw [decide_eq_true (show a.rel = 0 by have := HKX.out; omega)]; rfl }; { rw [decide_eq_true (show a.rel = 3 by have := HKX.out; omega), Bool.or_true] }))
          rcases hpr with rfl | rfl
          · have qz : 0 = 0 := rfl
            go_upto_region 9 with (go_at_call 78; refine HA2.out.mono ?_; rintro e w3 ⟨hu3, rfl, hr3⟩;  have HB3 : Hid (Below w.heap.size w w3 ∧ M ≤ w3.heap.size) := Lib.hid ⟨HBM.out.1.trans (hu3.below (fun k hk => by have e2 : k = q := hk; rw [e2, ← HWQ.out]; exact Nat.le_refl _) HBM.out.1.size), Nat.le_trans HBM.out.2 hu3.size⟩; have HOW3 := Lib.hid (own_upd HOW.out hu3 (fun k hk e => by have e2 : k = q := e; have h1 := (own_is HOW.out hk).1; have h2 := HMQ.out; omega)); have HR3 := Lib.hid hr3; have hm3 := HB3.out.2; have kb3 : w3.cell? ⟨q, 1, none⟩ = some (.bool false) := Blk.cell hr3 1)
            obtain ⟨b4, hb4⟩ : ∃ b4, b4 = w3.heap.size := ⟨_, rfl⟩
            obtain ⟨w4, hw4⟩ : ∃ w4, w4 = w3.alloc (.cells #[.string X, .int .i64 0, .string Y] 79) := ⟨_, rfl⟩
            have HB4 : Hid (Below w.heap.size w w4 ∧ M ≤ w4.heap.size) := Lib.hid (by rw [hw4]; exact ⟨HB3.out.1.alloc HB3.out.1.size _, Nat.le_trans hm3 (by rw [World.size_alloc]; omega)⟩)
            have HOW4 : Hid (w4.ownsRow M 82 2 (.slice Ao m co) m (catP Ls.flatten)) := Lib.hid (by rw [hw4]; exact HOW3.out.alloc _)
            have hr4 : RR w4 q l1 false := by rw [hw4]; exact Blk.alloc hr3 _
            have hbb4 : Blk w4 b4 79 #[.string X, .int .i64 0, .string Y] := by rw [hw4, hb4]; exact Blk.new w3 _ _
            have HR4 := Lib.hid hr4
            have kb4 : w4.cell? ⟨q, 1, none⟩ = some (.bool false) := hr4.cell 1
            have kn4 : w4.cell? ⟨b4, 0, none⟩ = some (.string X) := hbb4.cell 0
            have kk4 : w4.cell? ⟨b4, 1, none⟩ = some (.int .i64 0) := hbb4.cell 1
            have kv4 : w4.cell? ⟨b4, 2, none⟩ = some (.string Y) := hbb4.cell 2
            have hm4 := HB4.out.2
            rw [← hw4, ← hb4]
            clear hu3 hr3 hw4 hb4 hr4 hbb4 kb3 hm3
            cases hl : l2 with
            | nil =>
              have hst3 : S2.toList.isEmpty = true := by rw [hst2, hl]; rfl
              have HR : Hid (RS = .ok (Ls ++ [[a]])) := Lib.hid (by rw [HSTP.out, if_pos hl])
              clear hl hst2
              go_wp2_with (first
                | (at_builtin; refine wpList_append_any _ rfl (.tmp 36) (.tmp 42) 30 rfl M 82 i0 _ 2 32 Try.underlying30 hi0 hz0 hz1 hz2 rfl (by decide) _ m (catP Ls.flatten) rfl (HOW4.out.alloc _) (w4.heap.size + 1) (some ⟨w4.heap.size, 0, none⟩) 1 1 [.string X, .string Y] rfl (reads_two (Blk.new w4 _ _) (by simp)) (fun u hu => by simp at hu; rcases hu with rfl | rfl <;> rfl) (by unfold maxLen; omega) (by omega) (by simp; omega) ?_; intro v5 w5 hown5 hg5 hat5; have hup5 : Upd (fun j => (Value.slice Ao m co).ownBlock = some j) w4 w5 := ((Upd.refl _ w4).alloc _).grown hg5 (fun j hj => .inl hj); have HB5 : Hid (Below w.heap.size w w5 ∧ M ≤ w5.heap.size) := Lib.hid ⟨HB4.out.1.trans (hup5.below (fun j hj => by have h1 := (own_is HOW4.out hj).1; have h2 := HWQ.out; have h3 := HMQ.out; omega) HB4.out.1.size), Nat.le_trans hm4 hup5.size⟩; have HR5 := Lib.hid (Blk.upd HR4.out hup5 (fun e => own_blk_ne HOW4.out HR4.out (by decide) e)); obtain ⟨A5, c5, rfl⟩ := own_shape hown5; have HOW5 := Lib.hid hown5; have kb5 : w5.cell? ⟨q, 1, none⟩ = some (.bool false) := Blk.cell HR5.out 1; clear hown5 hg5 hat5 hup5; have HOW5 : Hid (w5.ownsRow M 82 2 (.slice A5 (m + 1) c5) (m + 1) (catP (Ls ++ [[a]]).flatten)) := Lib.hid (by rw [catP_add, HAC.out]; exact HOW5.out); have hpk := HPK.out w5 l1 false HR5.out hl1l; rw [← HL2.out, ← HH1.out] at hpk; have HPK5 := Lib.hid hpk; clear hpk; have HLN5 : Hid ((Ls ++ [[a]]).length = m + 1) := Lib.hid (by rw [List.length_append, HLN.out]; rfl))
                | (go_at_call 77; refine HPK5.out.mono ?_; rintro e w6 ⟨rfl, hr6, hu6⟩; have HB6 : Hid (Below w.heap.size w w6 ∧ M ≤ w6.heap.size) := Lib.hid ⟨HB5.out.1.trans (hu6.below (fun k hk => by have e2 : k = q := hk; rw [e2, ← HWQ.out]; exact Nat.le_refl _) HB5.out.1.size), Nat.le_trans HB5.out.2 hu6.size⟩; have HOW6 := Lib.hid (own_upd HOW5.out hu6 (fun k hk e => by have e2 : k = q := e; have h1 := (own_is HOW5.out hk).1; have h2 := HMQ.out; omega)); have ks6 : w6.cell? ⟨q, 0, none⟩ = some (.string S2) := by { rw [HS2.out]; exact Blk.cell hr6 0 }; have fs6 : w6.frozen? ⟨q, 0, none⟩ = false := Blk.frozen hr6 0; have HR6 := Lib.hid hr6; clear hu6 hr6))
              go_ret2
              rw [HR.out]
              exact ⟨HB6.out.1, LstRes.mk rfl HLN5.out (own_mono HOW6.out (by have h1 := HWQ.out; have h2 := HMQ.out; omega))⟩
            | cons b r =>
              have hst3 : S2.toList.isEmpty = false := by rw [hst2, hl]; rfl
              have hszl : S2.size = r.length + 1 := by rw [HS2.out, tob_size, hl]; rfl
              have hsz0 : 0 < S2.size := by omega
              have hzp : (0 : Int) < (S2.size : Int) := by omega
              have hz3 : (1 : Int) ≤ (S2.size : Int) := by omega
              obtain ⟨cb, hcb⟩ : ∃ cb, cb = b.toNat := ⟨_, rfl⟩
              have hx2 : ((S2[0]'hsz0).toNat : Nat) = cb := by
                have h9 := HS2.out
                rw [hl] at h9
                subst h9
                rw [hcb]; rfl
              have HH2 : Hid (h1 = (cb : Int)) := Lib.hid (by rw [HH1.out, hl, hcb]; rfl)
              have HTL : Hid (S2.extract 1 S2.size = Rl.tob r) := Lib.hid (by rw [HS2.out, hl]; exact tob_drop (b :: r) 1)
              have HTLL : Hid (l2.tail = r) := Lib.hid (by rw [hl]; rfl)
              have hrl : r.length ≤ 1048576 := by rw [hl] at hl2l; have : (b :: r).length = r.length + 1 := rfl; omega
              have HNE : Hid (¬ l2 = []) := Lib.hid (by rw [hl]; simp)
              clear hl hst2 hszl hcb
              by_cases h44 : cb = 44
              · have q44 : ((cb : Int) != 44) = false := by rw [h44]; rfl
                have HR : Hid (RS = Rl.parseR nmL verL provF true d r (Ls ++ [[a]])) := Lib.hid (by rw [HSTP.out, if_neg HNE.out, HH2.out, if_pos (by rw [h44]; rfl), HTLL.out])
                clear h44
                go_wp2_with (first
                  | (at_builtin; refine wpList_append_any _ rfl (.tmp 36) (.tmp 42) 30 rfl M 82 i0 _ 2 32 Try.underlying30 hi0 hz0 hz1 hz2 rfl (by decide) _ m (catP Ls.flatten) rfl (HOW4.out.alloc _) (w4.heap.size + 1) (some ⟨w4.heap.size, 0, none⟩) 1 1 [.string X, .string Y] rfl (reads_two (Blk.new w4 _ _) (by simp)) (fun u hu => by simp at hu; rcases hu with rfl | rfl <;> rfl) (by unfold maxLen; omega) (by omega) (by simp; omega) ?_; intro v5 w5 hown5 hg5 hat5; have hup5 : Upd (fun j => (Value.slice Ao m co).ownBlock = some j) w4 w5 := ((Upd.refl _ w4).alloc _).grown hg5 (fun j hj => .inl hj); have HB5 : Hid (Below w.heap.size w w5 ∧ M ≤ w5.heap.size) := Lib.hid ⟨HB4.out.1.trans (hup5.below (fun j hj => by have h1 := (own_is HOW4.out hj).1; have h2 := HWQ.out; have h3 := HMQ.out; omega) HB4.out.1.size), Nat.le_trans hm4 hup5.size⟩; have HR5 := Lib.hid (Blk.upd HR4.out hup5 (fun e => own_blk_ne HOW4.out HR4.out (by decide) e)); obtain ⟨A5, c5, rfl⟩ := own_shape hown5; have HOW5 := Lib.hid hown5; have kb5 : w5.cell? ⟨q, 1, none⟩ = some (.bool false) := Blk.cell HR5.out 1; clear hown5 hg5 hat5 hup5; have HOW5 : Hid (w5.ownsRow M 82 2 (.slice A5 (m + 1) c5) (m + 1) (catP (Ls ++ [[a]]).flatten)) := Lib.hid (by rw [catP_add, HAC.out]; exact HOW5.out); have hpk := HPK.out w5 l1 false HR5.out hl1l; rw [← HL2.out, ← HH1.out] at hpk; have HPK5 := Lib.hid hpk; clear hpk; have HLN5 : Hid ((Ls ++ [[a]]).length = m + 1) := Lib.hid (by rw [List.length_append, HLN.out]; rfl))
                  | (go_at_call 77; refine HPK5.out.mono ?_; rintro e w6 ⟨rfl, hr6, hu6⟩; have HB6 : Hid (Below w.heap.size w w6 ∧ M ≤ w6.heap.size) := Lib.hid ⟨HB5.out.1.trans (hu6.below (fun k hk => by have e2 : k = q := hk; rw [e2, ← HWQ.out]; exact Nat.le_refl _) HB5.out.1.size), Nat.le_trans HB5.out.2 hu6.size⟩; have HOW6 := Lib.hid (own_upd HOW5.out hu6 (fun k hk e => by have e2 : k = q := e; have h1 := (own_is HOW5.out hk).1; have h2 := HMQ.out; omega)); have ks6 : w6.cell? ⟨q, 0, none⟩ = some (.string S2) := by { rw [HS2.out]; exact Blk.cell hr6 0 }; have fs6 : w6.frozen? ⟨q, 0, none⟩ = false := Blk.frozen hr6 0; have HR6 := Lib.hid hr6; clear hu6 hr6))
                have hr9 : RR (w6.setCell ⟨q, 0, none⟩ (.string (S2.extract 1 S2.size))) q r false := by
                  have := Blk.set_ HR6.out 0 (.string (S2.extract 1 S2.size))
                  unfold RR
                  rw [← HTL.out]
                  simpa using this
                have hu9 : Upd (fun k => k = q) w6 (w6.setCell ⟨q, 0, none⟩ (.string (S2.extract 1 S2.size))) := (Upd.refl (fun k => k = q) _).setCell (p := ⟨q, 0, none⟩) (.inl rfl) _
                have hb9 := HB6.out.1.trans (hu9.below (fun k hk => by have e2 : k = q := hk; rw [e2, ← HWQ.out]; exact Nat.le_refl _) HB6.out.1.size)
                refine ⟨⟨d, m + 1, Ls ++ [[a]], A5, c5, r, rfl, by omega, HLN5, hrl, Lib.hid (own_upd HOW6.out hu9 (fun k hk e => by have e2 : k = q := e; have h1 := (own_is HOW6.out hk).1; have h2 := HMQ.out; omega)), Lib.hid hr9, Lib.hid ⟨hb9, Nat.le_trans HB6.out.2 hu9.size⟩, Lib.hid HR.out.symm⟩, ?_⟩
                show 12 - (m + 1) < 12 - m
                omega
              · have q44 : ((cb : Int) != 44) = true := by rw [bne_iff_ne]; omega
                have HR : Hid (RS = .form) := Lib.hid (by rw [HSTP.out, if_neg HNE.out, HH2.out, if_neg (by omega)])
                clear h44
                go_wp2_with (first
                  | (at_builtin; refine wpList_append_any _ rfl (.tmp 36) (.tmp 42) 30 rfl M 82 i0 _ 2 32 Try.underlying30 hi0 hz0 hz1 hz2 rfl (by decide) _ m (catP Ls.flatten) rfl (HOW4.out.alloc _) (w4.heap.size + 1) (some ⟨w4.heap.size, 0, none⟩) 1 1 [.string X, .string Y] rfl (reads_two (Blk.new w4 _ _) (by simp)) (fun u hu => by simp at hu; rcases hu with rfl | rfl <;> rfl) (by unfold maxLen; omega) (by omega) (by simp; omega) ?_; intro v5 w5 hown5 hg5 hat5; have hup5 : Upd (fun j => (Value.slice Ao m co).ownBlock = some j) w4 w5 := ((Upd.refl _ w4).alloc _).grown hg5 (fun j hj => .inl hj); have HB5 : Hid (Below w.heap.size w w5 ∧ M ≤ w5.heap.size) := Lib.hid ⟨HB4.out.1.trans (hup5.below (fun j hj => by have h1 := (own_is HOW4.out hj).1; have h2 := HWQ.out; have h3 := HMQ.out; omega) HB4.out.1.size), Nat.le_trans hm4 hup5.size⟩; have HR5 := Lib.hid (Blk.upd HR4.out hup5 (fun e => own_blk_ne HOW4.out HR4.out (by decide) e)); obtain ⟨A5, c5, rfl⟩ := own_shape hown5; have HOW5 := Lib.hid hown5; have kb5 : w5.cell? ⟨q, 1, none⟩ = some (.bool false) := Blk.cell HR5.out 1; clear hown5 hg5 hat5 hup5; have HOW5 : Hid (w5.ownsRow M 82 2 (.slice A5 (m + 1) c5) (m + 1) (catP (Ls ++ [[a]]).flatten)) := Lib.hid (by rw [catP_add, HAC.out]; exact HOW5.out); have hpk := HPK.out w5 l1 false HR5.out hl1l; rw [← HL2.out, ← HH1.out] at hpk; have HPK5 := Lib.hid hpk; clear hpk; have HLN5 : Hid ((Ls ++ [[a]]).length = m + 1) := Lib.hid (by rw [List.length_append, HLN.out]; rfl))
                  | (go_at_call 77; refine HPK5.out.mono ?_; rintro e w6 ⟨rfl, hr6, hu6⟩; have HB6 : Hid (Below w.heap.size w w6 ∧ M ≤ w6.heap.size) := Lib.hid ⟨HB5.out.1.trans (hu6.below (fun k hk => by have e2 : k = q := hk; rw [e2, ← HWQ.out]; exact Nat.le_refl _) HB5.out.1.size), Nat.le_trans HB5.out.2 hu6.size⟩; have HOW6 := Lib.hid (own_upd HOW5.out hu6 (fun k hk e => by have e2 : k = q := e; have h1 := (own_is HOW5.out hk).1; have h2 := HMQ.out; omega)); have ks6 : w6.cell? ⟨q, 0, none⟩ = some (.string S2) := by { rw [HS2.out]; exact Blk.cell hr6 0 }; have fs6 : w6.frozen? ⟨q, 0, none⟩ = false := Blk.frozen hr6 0; have HR6 := Lib.hid hr6; clear hu6 hr6))
                go_ret2
                rw [HR.out]
                exact ⟨HB6.out.1, rfl⟩
          · have qz : 3 = 3 := rfl
            go_upto_region 9 with (go_at_call 78; refine HA2.out.mono ?_; rintro e w3 ⟨hu3, rfl, hr3⟩;  have HB3 : Hid (Below w.heap.size w w3 ∧ M ≤ w3.heap.size) := Lib.hid ⟨HBM.out.1.trans (hu3.below (fun k hk => by have e2 : k = q := hk; rw [e2, ← HWQ.out]; exact Nat.le_refl _) HBM.out.1.size), Nat.le_trans HBM.out.2 hu3.size⟩; have HOW3 := Lib.hid (own_upd HOW.out hu3 (fun k hk e => by have e2 : k = q := e; have h1 := (own_is HOW.out hk).1; have h2 := HMQ.out; omega)); have HR3 := Lib.hid hr3; have hm3 := HB3.out.2; have kb3 : w3.cell? ⟨q, 1, none⟩ = some (.bool false) := Blk.cell hr3 1)
            obtain ⟨b4, hb4⟩ : ∃ b4, b4 = w3.heap.size := ⟨_, rfl⟩
            obtain ⟨w4, hw4⟩ : ∃ w4, w4 = w3.alloc (.cells #[.string X, .int .i64 3, .string Y] 79) := ⟨_, rfl⟩
            have HB4 : Hid (Below w.heap.size w w4 ∧ M ≤ w4.heap.size) := Lib.hid (by rw [hw4]; exact ⟨HB3.out.1.alloc HB3.out.1.size _, Nat.le_trans hm3 (by rw [World.size_alloc]; omega)⟩)
            have HOW4 : Hid (w4.ownsRow M 82 2 (.slice Ao m co) m (catP Ls.flatten)) := Lib.hid (by rw [hw4]; exact HOW3.out.alloc _)
            have hr4 : RR w4 q l1 false := by rw [hw4]; exact Blk.alloc hr3 _
            have hbb4 : Blk w4 b4 79 #[.string X, .int .i64 3, .string Y] := by rw [hw4, hb4]; exact Blk.new w3 _ _
            have HR4 := Lib.hid hr4
            have kb4 : w4.cell? ⟨q, 1, none⟩ = some (.bool false) := hr4.cell 1
            have kn4 : w4.cell? ⟨b4, 0, none⟩ = some (.string X) := hbb4.cell 0
            have kk4 : w4.cell? ⟨b4, 1, none⟩ = some (.int .i64 3) := hbb4.cell 1
            have kv4 : w4.cell? ⟨b4, 2, none⟩ = some (.string Y) := hbb4.cell 2
            have hm4 := HB4.out.2
            rw [← hw4, ← hb4]
            clear hu3 hr3 hw4 hb4 hr4 hbb4 kb3 hm3
            cases hl : l2 with
            | nil =>
              have hst3 : S2.toList.isEmpty = true := by rw [hst2, hl]; rfl
              have HR : Hid (RS = .ok (Ls ++ [[a]])) := Lib.hid (by rw [HSTP.out, if_pos hl])
              clear hl hst2
              go_wp2_with (first
                | (at_builtin; refine wpList_append_any _ rfl (.tmp 36) (.tmp 42) 30 rfl M 82 i0 _ 2 32 Try.underlying30 hi0 hz0 hz1 hz2 rfl (by decide) _ m (catP Ls.flatten) rfl (HOW4.out.alloc _) (w4.heap.size + 1) (some ⟨w4.heap.size, 0, none⟩) 1 1 [.string X, .string Y] rfl (reads_two (Blk.new w4 _ _) (by simp)) (fun u hu => by simp at hu; rcases hu with rfl | rfl <;> rfl) (by unfold maxLen; omega) (by omega) (by simp; omega) ?_; intro v5 w5 hown5 hg5 hat5; have hup5 : Upd (fun j => (Value.slice Ao m co).ownBlock = some j) w4 w5 := ((Upd.refl _ w4).alloc _).grown hg5 (fun j hj => .inl hj); have HB5 : Hid (Below w.heap.size w w5 ∧ M ≤ w5.heap.size) := Lib.hid ⟨HB4.out.1.trans (hup5.below (fun j hj => by have h1 := (own_is HOW4.out hj).1; have h2 := HWQ.out; have h3 := HMQ.out; omega) HB4.out.1.size), Nat.le_trans hm4 hup5.size⟩; have HR5 := Lib.hid (Blk.upd HR4.out hup5 (fun e => own_blk_ne HOW4.out HR4.out (by decide) e)); obtain ⟨A5, c5, rfl⟩ := own_shape hown5; have HOW5 := Lib.hid hown5; have kb5 : w5.cell? ⟨q, 1, none⟩ = some (.bool false) := Blk.cell HR5.out 1; clear hown5 hg5 hat5 hup5; have HOW5 : Hid (w5.ownsRow M 82 2 (.slice A5 (m + 1) c5) (m + 1) (catP (Ls ++ [[a]]).flatten)) := Lib.hid (by rw [catP_add, HAC.out]; exact HOW5.out); have hpk := HPK.out w5 l1 false HR5.out hl1l; rw [← HL2.out, ← HH1.out] at hpk; have HPK5 := Lib.hid hpk; clear hpk; have HLN5 : Hid ((Ls ++ [[a]]).length = m + 1) := Lib.hid (by rw [List.length_append, HLN.out]; rfl))
                | (go_at_call 77; refine HPK5.out.mono ?_; rintro e w6 ⟨rfl, hr6, hu6⟩; have HB6 : Hid (Below w.heap.size w w6 ∧ M ≤ w6.heap.size) := Lib.hid ⟨HB5.out.1.trans (hu6.below (fun k hk => by have e2 : k = q := hk; rw [e2, ← HWQ.out]; exact Nat.le_refl _) HB5.out.1.size), Nat.le_trans HB5.out.2 hu6.size⟩; have HOW6 := Lib.hid (own_upd HOW5.out hu6 (fun k hk e => by have e2 : k = q := e; have h1 := (own_is HOW5.out hk).1; have h2 := HMQ.out; omega)); have ks6 : w6.cell? ⟨q, 0, none⟩ = some (.string S2) := by { rw [HS2.out]; exact Blk.cell hr6 0 }; have fs6 : w6.frozen? ⟨q, 0, none⟩ = false := Blk.frozen hr6 0; have HR6 := Lib.hid hr6; clear hu6 hr6))
              go_ret2
              rw [HR.out]
              exact ⟨HB6.out.1, LstRes.mk rfl HLN5.out (own_mono HOW6.out (by have h1 := HWQ.out; have h2 := HMQ.out; omega))⟩
            | cons b r =>
              have hst3 : S2.toList.isEmpty = false := by rw [hst2, hl]; rfl
              have hszl : S2.size = r.length + 1 := by rw [HS2.out, tob_size, hl]; rfl
              have hsz0 : 0 < S2.size := by omega
              have hzp : (0 : Int) < (S2.size : Int) := by omega
              have hz3 : (1 : Int) ≤ (S2.size : Int) := by omega
              obtain ⟨cb, hcb⟩ : ∃ cb, cb = b.toNat := ⟨_, rfl⟩
              have hx2 : ((S2[0]'hsz0).toNat : Nat) = cb := by
                have h9 := HS2.out
                rw [hl] at h9
                subst h9
                rw [hcb]; rfl
              have HH2 : Hid (h1 = (cb : Int)) := Lib.hid (by rw [HH1.out, hl, hcb]; rfl)
              have HTL : Hid (S2.extract 1 S2.size = Rl.tob r) := Lib.hid (by rw [HS2.out, hl]; exact tob_drop (b :: r) 1)
              have HTLL : Hid (l2.tail = r) := Lib.hid (by rw [hl]; rfl)
              have hrl : r.length ≤ 1048576 := by rw [hl] at hl2l; have : (b :: r).length = r.length + 1 := rfl; omega
              have HNE : Hid (¬ l2 = []) := Lib.hid (by rw [hl]; simp)
              clear hl hst2 hszl hcb
              by_cases h44 : cb = 44
              · have q44 : ((cb : Int) != 44) = false := by rw [h44]; rfl
                have HR : Hid (RS = Rl.parseR nmL verL provF true d r (Ls ++ [[a]])) := Lib.hid (by rw [HSTP.out, if_neg HNE.out, HH2.out, if_pos (by rw [h44]; rfl), HTLL.out])
                clear h44
                go_wp2_with (first
                  | (at_builtin; refine wpList_append_any _ rfl (.tmp 36) (.tmp 42) 30 rfl M 82 i0 _ 2 32 Try.underlying30 hi0 hz0 hz1 hz2 rfl (by decide) _ m (catP Ls.flatten) rfl (HOW4.out.alloc _) (w4.heap.size + 1) (some ⟨w4.heap.size, 0, none⟩) 1 1 [.string X, .string Y] rfl (reads_two (Blk.new w4 _ _) (by simp)) (fun u hu => by simp at hu; rcases hu with rfl | rfl <;> rfl) (by unfold maxLen; omega) (by omega) (by simp; omega) ?_; intro v5 w5 hown5 hg5 hat5; have hup5 : Upd (fun j => (Value.slice Ao m co).ownBlock = some j) w4 w5 := ((Upd.refl _ w4).alloc _).grown hg5 (fun j hj => .inl hj); have HB5 : Hid (Below w.heap.size w w5 ∧ M ≤ w5.heap.size) := Lib.hid ⟨HB4.out.1.trans (hup5.below (fun j hj => by have h1 := (own_is HOW4.out hj).1; have h2 := HWQ.out; have h3 := HMQ.out; omega) HB4.out.1.size), Nat.le_trans hm4 hup5.size⟩; have HR5 := Lib.hid (Blk.upd HR4.out hup5 (fun e => own_blk_ne HOW4.out HR4.out (by decide) e)); obtain ⟨A5, c5, rfl⟩ := own_shape hown5; have HOW5 := Lib.hid hown5; have kb5 : w5.cell? ⟨q, 1, none⟩ = some (.bool false) := Blk.cell HR5.out 1; clear hown5 hg5 hat5 hup5; have HOW5 : Hid (w5.ownsRow M 82 2 (.slice A5 (m + 1) c5) (m + 1) (catP (Ls ++ [[a]]).flatten)) := Lib.hid (by rw [catP_add, HAC.out]; exact HOW5.out); have hpk := HPK.out w5 l1 false HR5.out hl1l; rw [← HL2.out, ← HH1.out] at hpk; have HPK5 := Lib.hid hpk; clear hpk; have HLN5 : Hid ((Ls ++ [[a]]).length = m + 1) := Lib.hid (by rw [List.length_append, HLN.out]; rfl))
                  | (go_at_call 77; refine HPK5.out.mono ?_; rintro e w6 ⟨rfl, hr6, hu6⟩; have HB6 : Hid (Below w.heap.size w w6 ∧ M ≤ w6.heap.size) := Lib.hid ⟨HB5.out.1.trans (hu6.below (fun k hk => by have e2 : k = q := hk; rw [e2, ← HWQ.out]; exact Nat.le_refl _) HB5.out.1.size), Nat.le_trans HB5.out.2 hu6.size⟩; have HOW6 := Lib.hid (own_upd HOW5.out hu6 (fun k hk e => by have e2 : k = q := e; have h1 := (own_is HOW5.out hk).1; have h2 := HMQ.out; omega)); have ks6 : w6.cell? ⟨q, 0, none⟩ = some (.string S2) := by { rw [HS2.out]; exact Blk.cell hr6 0 }; have fs6 : w6.frozen? ⟨q, 0, none⟩ = false := Blk.frozen hr6 0; have HR6 := Lib.hid hr6; clear hu6 hr6))
                have hr9 : RR (w6.setCell ⟨q, 0, none⟩ (.string (S2.extract 1 S2.size))) q r false := by
                  have := Blk.set_ HR6.out 0 (.string (S2.extract 1 S2.size))
                  unfold RR
                  rw [← HTL.out]
                  simpa using this
                have hu9 : Upd (fun k => k = q) w6 (w6.setCell ⟨q, 0, none⟩ (.string (S2.extract 1 S2.size))) := (Upd.refl (fun k => k = q) _).setCell (p := ⟨q, 0, none⟩) (.inl rfl) _
                have hb9 := HB6.out.1.trans (hu9.below (fun k hk => by have e2 : k = q := hk; rw [e2, ← HWQ.out]; exact Nat.le_refl _) HB6.out.1.size)
                refine ⟨⟨d, m + 1, Ls ++ [[a]], A5, c5, r, rfl, by omega, HLN5, hrl, Lib.hid (own_upd HOW6.out hu9 (fun k hk e => by have e2 : k = q := e; have h1 := (own_is HOW6.out hk).1; have h2 := HMQ.out; omega)), Lib.hid hr9, Lib.hid ⟨hb9, Nat.le_trans HB6.out.2 hu9.size⟩, Lib.hid HR.out.symm⟩, ?_⟩
                show 12 - (m + 1) < 12 - m
                omega
              · have q44 : ((cb : Int) != 44) = true := by rw [bne_iff_ne]; omega
                have HR : Hid (RS = .form) := Lib.hid (by rw [HSTP.out, if_neg HNE.out, HH2.out, if_neg (by omega)])
                clear h44
                go_wp2_with (first
                  | (at_builtin; refine wpList_append_any _ rfl (.tmp 36) (.tmp 42) 30 rfl M 82 i0 _ 2 32 Try.underlying30 hi0 hz0 hz1 hz2 rfl (by decide) _ m (catP Ls.flatten) rfl (HOW4.out.alloc _) (w4.heap.size + 1) (some ⟨w4.heap.size, 0, none⟩) 1 1 [.string X, .string Y] rfl (reads_two (Blk.new w4 _ _) (by simp)) (fun u hu => by simp at hu; rcases hu with rfl | rfl <;> rfl) (by unfold maxLen; omega) (by omega) (by simp; omega) ?_; intro v5 w5 hown5 hg5 hat5; have hup5 : Upd (fun j => (Value.slice Ao m co).ownBlock = some j) w4 w5 := ((Upd.refl _ w4).alloc _).grown hg5 (fun j hj => .inl hj); have HB5 : Hid (Below w.heap.size w w5 ∧ M ≤ w5.heap.size) := Lib.hid ⟨HB4.out.1.trans (hup5.below (fun j hj => by have h1 := (own_is HOW4.out hj).1; have h2 := HWQ.out; have h3 := HMQ.out; omega) HB4.out.1.size), Nat.le_trans hm4 hup5.size⟩; have HR5 := Lib.hid (Blk.upd HR4.out hup5 (fun e => own_blk_ne HOW4.out HR4.out (by decide) e)); obtain ⟨A5, c5, rfl⟩ := own_shape hown5; have HOW5 := Lib.hid hown5; have kb5 : w5.cell? ⟨q, 1, none⟩ = some (.bool false) := Blk.cell HR5.out 1; clear hown5 hg5 hat5 hup5; have HOW5 : Hid (w5.ownsRow M 82 2 (.slice A5 (m + 1) c5) (m + 1) (catP (Ls ++ [[a]]).flatten)) := Lib.hid (by rw [catP_add, HAC.out]; exact HOW5.out); have hpk := HPK.out w5 l1 false HR5.out hl1l; rw [← HL2.out, ← HH1.out] at hpk; have HPK5 := Lib.hid hpk; clear hpk; have HLN5 : Hid ((Ls ++ [[a]]).length = m + 1) := Lib.hid (by rw [List.length_append, HLN.out]; rfl))
                  | (go_at_call 77; refine HPK5.out.mono ?_; rintro e w6 ⟨rfl, hr6, hu6⟩; have HB6 : Hid (Below w.heap.size w w6 ∧ M ≤ w6.heap.size) := Lib.hid ⟨HB5.out.1.trans (hu6.below (fun k hk => by have e2 : k = q := hk; rw [e2, ← HWQ.out]; exact Nat.le_refl _) HB5.out.1.size), Nat.le_trans HB5.out.2 hu6.size⟩; have HOW6 := Lib.hid (own_upd HOW5.out hu6 (fun k hk e => by have e2 : k = q := e; have h1 := (own_is HOW5.out hk).1; have h2 := HMQ.out; omega)); have ks6 : w6.cell? ⟨q, 0, none⟩ = some (.string S2) := by { rw [HS2.out]; exact Blk.cell hr6 0 }; have fs6 : w6.frozen? ⟨q, 0, none⟩ = false := Blk.frozen hr6 0; have HR6 := Lib.hid hr6; clear hu6 hr6))
                go_ret2
                rw [HR.out]
                exact ⟨HB6.out.1, rfl⟩
end Go.Proofs.Ytjkaigfpjebfbaa
