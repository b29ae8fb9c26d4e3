/- chandlerref4's reader: white, peek, word. -/
import Derived.Test.YtjkaigfpjebfbaaRk
namespace Go.Proofs.Ytjkaigfpjebfbaa
open Go.RowKit
set_option linter.unusedVariables false

theorem wh_N (b : UInt8) : Rl.wh b = (decide (b.toNat = 32) || decide (b.toNat = 9)) := by
  unfold Rl.wh
  rw [Rl.cls_N]
  unfold clsN
  by_cases h : b.toNat = 32 ∨ b.toNat = 9
  · rw [if_pos h]
    rcases h with h | h <;> simp [h]
  · rw [if_neg h]
    have h1 : ¬ b.toNat = 32 := fun e => h (.inl e)
    have h2 : ¬ b.toNat = 9 := fun e => h (.inr e)
    rw [decide_eq_false h1, decide_eq_false h2]
    split
    · rfl
    · split <;> rfl
set_option maxRecDepth 100000 in
theorem white_any (c : Nat) (d : Bool) (hd : d = (decide (c = 32) || decide (c = 9))) (w : World) : Calls Try.prog 92 #[.int .u8 (c : Int)] w fun e w' => e = .returned (.bool d) ∧ w = w' := by
  by_cases h1 : c = 32
  · have q1 : ((c : Int) == 32) = true := by rw [beq_iff_eq]; omega
    have HD : Hid (d = true) := Lib.hid (by rw [hd, decide_eq_true h1]; rfl)
    clear h1 hd
    go_enter Try.func92, Try.ntmps92
    go_wp2
    go_ret
    exact ⟨ret_bool HD.out.symm, rfl⟩
  · have q1 : ((c : Int) == 32) = false := by rw [beq_eq_false_iff_ne]; omega
    by_cases h2 : c = 9
    · have q2 : ((c : Int) == 9) = true := by rw [beq_iff_eq]; omega
      have HD : Hid (d = true) := Lib.hid (by rw [hd, decide_eq_true h2, Bool.or_true])
      clear h1 h2 hd
      go_enter Try.func92, Try.ntmps92
      go_wp2
      go_ret
      exact ⟨ret_bool HD.out.symm, rfl⟩
    · have q2 : ((c : Int) == 9) = false := by rw [beq_eq_false_iff_ne]; omega
      have HD : Hid (d = false) := Lib.hid (by rw [hd, decide_eq_false h1, decide_eq_false h2]; rfl)
      clear h1 h2 hd
      go_enter Try.func92, Try.ntmps92
      go_wp2
      go_ret
      exact ⟨ret_bool HD.out.symm, rfl⟩
theorem tob_size (l : Rl.Bs) : (Rl.tob l).size = l.length := rfl
theorem tob_drop (l : Rl.Bs) (i : Nat) : (Rl.tob l).extract i (Rl.tob l).size = Rl.tob (l.drop i) := by
  rw [Rl.ext_cur]
  unfold Rl.cur
  rw [Rl.bl_tob, tob_size, List.take_length]
theorem tob_take (l : Rl.Bs) (i : Nat) : (Rl.tob l).extract 0 i = Rl.tob (l.take i) := by
  rw [Rl.ext_cur]
  unfold Rl.cur
  rw [Rl.bl_tob, List.drop_zero]
theorem tob_at (l : Rl.Bs) (i : Nat) (h : i < l.length) : ((Rl.tob l)[i]'h) = l[i] := rfl
/-- The reference's reader: what is still to read, whether it went wrong. -/
def RR (w : World) (q : Nat) (l : Rl.Bs) (bad : Bool) : Prop := Blk w q 110 #[.string (Rl.tob l), .bool bad]
def hd0 : Rl.Bs → Int
  | [] => 0
  | b :: _ => (b.toNat : Int)
def restLen (w : World) (q : Nat) : Nat := match w.cell? ⟨q, 0, none⟩ with
  | some (.string s) => s.size
  | _ => 0
theorem restLen_of {w : World} {q : Nat} {l : Rl.Bs} {bad : Bool} (h : RR w q l bad) : restLen w q = l.length := by
  have : w.cell? ⟨q, 0, none⟩ = some (.string (Rl.tob l)) := Blk.cell h 0
  unfold restLen
  rw [this]; rfl
set_option maxRecDepth 100000 in
set_option maxHeartbeats 2000000 in
theorem peek_any (q : Nat) (l : Rl.Bs) (bad : Bool) (w : World) (h : RR w q l bad) (hl : l.length ≤ 1048576) :
    Calls Try.prog 77 #[.pointer (some ⟨q, 0, none⟩)] w fun e w' => e = .returned (.int .u8 (hd0 (Rl.skw l))) ∧ RR w' q (Rl.skw l) bad ∧ Upd (fun k => k = q) w w' := by
  have H0 := Lib.hid h
  clear h
  go_enter Try.func77, Try.ntmps77
  go_wp2_with fail
  go_loopw [3] (fun _ wr => ∃ m : Rl.Bs, Hid (RR wr q m bad) ∧ Hid (Rl.skw m = Rl.skw l) ∧ Hid (Upd (fun k => k = q) w wr) ∧ m.length ≤ 1048576) (fun _ wr => restLen wr q)
  case atStart => exact ⟨l, H0, Lib.hid rfl, Lib.hid (Upd.refl _ _), hl⟩
  case round =>
    obtain ⟨m, HR, HS, HU, hml⟩ := hrel
    have k0 : wr.cell? ⟨q, 0, none⟩ = some (.string (Rl.tob m)) := Blk.cell HR.out 0
    have f0 : wr.frozen? ⟨q, 0, none⟩ = false := Blk.frozen HR.out 0
    have HRL := Lib.hid (restLen_of HR.out)
    cases m with
    | nil =>
      obtain ⟨S, hS⟩ : ∃ S, S = Rl.tob [] := ⟨_, rfl⟩
      rw [← hS] at k0
      have hz : ¬ (0 : Int) < (S.size : Int) := by rw [hS]; decide
      have hz2 : ((S.size : Int) == 0) = true := by rw [hS]; rfl
      have HSK : Hid (Rl.skw l = []) := Lib.hid HS.out.symm
      clear hS
      go_wp2_with fail
      go_ret
      rw [HSK.out]
      exact ⟨rfl, HR.out, HU.out⟩
    | cons b r =>
      obtain ⟨S, hS⟩ : ∃ S, S = Rl.tob (b :: r) := ⟨_, rfl⟩
      rw [← hS] at k0
      have hsz : 0 < S.size := by rw [hS]; exact Nat.zero_lt_succ _
      have hz : (0 : Int) < (S.size : Int) := by omega
      have hz2 : ((S.size : Int) == 0) = false := by rw [beq_eq_false_iff_ne]; omega
      have hz3 : (1 : Int) ≤ (S.size : Int) := by omega
      obtain ⟨c, hc⟩ : ∃ c, c = b.toNat := ⟨_, rfl⟩
      have hx2 : ((S[0]'hsz).toNat : Nat) = c := by subst hS; rw [hc]; rfl
      have HTL : Hid (S.extract 1 S.size = Rl.tob r) := Lib.hid (by rw [hS]; exact tob_drop (b :: r) 1)
      have HW := Lib.hid (fun W => white_any c (Rl.wh b) (by rw [wh_N, hc]) W)
      have HC := Lib.hid hc
      have HHD : Hid (hd0 (b :: r) = (c : Int)) := Lib.hid (by rw [hc]; rfl)
      obtain ⟨d, hd⟩ : ∃ d, d = Rl.wh b := ⟨_, rfl⟩
      rw [← hd] at HW
      have HD := Lib.hid hd
      clear hS hc hd
      cases d with
      | true =>
        have hset : RR (wr.setCell ⟨q, 0, none⟩ (.string (S.extract 1 S.size))) q r bad := by
          have := Blk.set_ HR.out 0 (.string (S.extract 1 S.size))
          unfold RR
          rw [← HTL.out]
          simpa using this
        have HR2 := Lib.hid hset
        have HS2 : Hid (Rl.skw r = Rl.skw l) := Lib.hid (by rw [← HS.out]; unfold Rl.skw; rw [List.dropWhile_cons, ← HD.out, if_pos rfl])
        have HU2 := Lib.hid (HU.out.setCell (p := ⟨q, 0, none⟩) (.inl rfl) (.string (S.extract 1 S.size)))
        clear hset
        go_wp2_with (go_at_call 92; refine (HW.out _).mono ?_; rintro e w2 ⟨rfl, rfl⟩)
        refine ⟨⟨r, HR2, HS2, HU2, by have : (b :: r).length = r.length + 1 := rfl; omega⟩, ?_⟩
        show restLen _ q < restLen wr q
        rw [HRL.out, restLen_of HR2.out]
        exact Nat.lt_succ_self _
      | false =>
        have HSK : Hid (Rl.skw l = b :: r) := Lib.hid (by rw [← HS.out]; unfold Rl.skw; rw [List.dropWhile_cons, ← HD.out]; simp)
        go_wp2_with (go_at_call 92; refine (HW.out _).mono ?_; rintro e w2 ⟨rfl, rfl⟩)
        go_ret
        rw [HSK.out, HHD.out]
        exact ⟨rfl, HR.out, HU.out⟩
def marksS : ByteArray := ⟨#[44, 124, 40, 41]⟩
theorem ink_N (b : UInt8) : Rl.ink b = (!Rl.wh b && decide (idx marksS b.toNat < 0)) := by
  have h1 : decide (idx marksS b.toNat < 0) = !(decide (0 ≤ idx marksS b.toNat)) := by
    by_cases h : 0 ≤ idx marksS b.toNat
    · rw [decide_eq_true h, decide_eq_false (by omega)]; rfl
    · rw [decide_eq_false h, decide_eq_true (by omega)]; rfl
  have h2 : decide (0 ≤ idx marksS b.toNat) = (decide (b.toNat = 44) || decide (b.toNat = 124) || decide (b.toNat = 40) || decide (b.toNat = 41)) := by
    rw [idx_dec, Bool.eq_iff_iff, List.any_eq_true]
    simp only [Bool.or_eq_true, decide_eq_true_eq, List.mem_range, beq_iff_eq]
    constructor
    · rintro ⟨j, hj, he⟩
      have : j = 0 ∨ j = 1 ∨ j = 2 ∨ j = 3 := by have : marksS.size = 4 := rfl; omega
      rw [← he]
      rcases this with rfl | rfl | rfl | rfl <;> decide
    · rintro (((h | h) | h) | h) <;> rw [h]
      · exact ⟨0, by decide, rfl⟩
      · exact ⟨1, by decide, rfl⟩
      · exact ⟨2, by decide, rfl⟩
      · exact ⟨3, by decide, rfl⟩
  rw [h1, h2, wh_N]
  unfold Rl.ink
  rw [Rl.cls_N]
  unfold clsN
  generalize b.toNat = c
  by_cases a : c = 32 ∨ c = 9
  · rw [if_pos a]; rcases a with rfl | rfl <;> rfl
  · rw [if_neg a]
    by_cases a2 : c = 40 ∨ c = 41 ∨ c = 44 ∨ c = 124
    · rw [if_pos a2]; rcases a2 with rfl | rfl | rfl | rfl <;> rfl
    · rw [if_neg a2, decide_eq_false (show ¬ c = 32 by omega), decide_eq_false (show ¬ c = 9 by omega), decide_eq_false (show ¬ c = 44 by omega), decide_eq_false (show ¬ c = 124 by omega), decide_eq_false (show ¬ c = 40 by omega), decide_eq_false (show ¬ c = 41 by omega)]
      split <;> rfl
set_option maxRecDepth 100000 in
set_option maxHeartbeats 4000000 in
theorem rword_any (q : Nat) (l : Rl.Bs) (bad : Bool) (w : World) (h : RR w q l bad) (hl : l.length ≤ 1048576) :
    Calls Try.prog 93 #[.pointer (some ⟨q, 0, none⟩)] w fun e w' => e = .returned (.string (Rl.tob ((Rl.skw l).takeWhile Rl.ink))) ∧ RR w' q ((Rl.skw l).dropWhile Rl.ink) bad ∧ Upd (fun k => k = q) w w' := by
  have HP := Lib.hid (peek_any q l bad w h hl)
  have HSL : Hid ((Rl.skw l).length ≤ 1048576) := Lib.hid (Nat.le_trans (List.IsSuffix.length_le (List.dropWhile_suffix _)) hl)
  obtain ⟨m, hm⟩ : ∃ m, m = Rl.skw l := ⟨_, rfl⟩
  rw [← hm] at HP HSL ⊢
  have hml := HSL.out
  clear h hm hl
  go_enter Try.func93, Try.ntmps93
  go_wp2_with fail
  go_at_call 77
  refine HP.out.mono ?_
  rintro e w1 ⟨rfl, hr1, hu1⟩
  have k0 : w1.cell? ⟨q, 0, none⟩ = some (.string (Rl.tob m)) := Blk.cell hr1 0
  have f0 : w1.frozen? ⟨q, 0, none⟩ = false := Blk.frozen hr1 0
  have HR1 := Lib.hid hr1
  have HU1 := Lib.hid hu1
  obtain ⟨S, hS⟩ : ∃ S, S = Rl.tob m := ⟨_, rfl⟩
  rw [← hS] at k0
  have hsz : S.size = m.length := by rw [hS]; rfl
  have HS := Lib.hid hS
  have HSZ := Lib.hid hsz
  have hs2 : S.size ≤ 1048576 := by rw [hsz]; exact hml
  clear hr1 hu1 hS hsz HP
  go_wp2_with fail
  go_loopw [3] (fun t wr => ∃ i : Nat, t = .int .i64 (i : Int) ∧ i ≤ S.size ∧ wr = w1 ∧ Hid (m.takeWhile Rl.ink = m.take i ++ (m.drop i).takeWhile Rl.ink ∧ m.dropWhile Rl.ink = (m.drop i).dropWhile Rl.ink)) (fun t _ => S.size - (match t with | .int _ x => x.toNat | _ => 0))
  case atStart => exact ⟨0, rfl, Nat.zero_le _, rfl, Lib.hid ⟨by simp, by simp⟩⟩
  case round =>
    obtain ⟨i, rfl, hi, rfl, HI⟩ := hrel
    by_cases hlt : i < S.size
    · have i1 : (i : Int) < (S.size : Int) := by omega
      have him : i < m.length := by have := HSZ.out; omega
      obtain ⟨b, hb⟩ : ∃ b, b = m[i] := ⟨_, rfl⟩
      obtain ⟨c, hc⟩ : ∃ c, c = b.toNat := ⟨_, rfl⟩
      have hx2 : ((S[i]'hlt).toNat : Nat) = c := by
        rw [hc, hb]
        have hS := HS.out
        subst hS
        rfl
      have hdr : m.drop i = b :: m.drop (i + 1) := by rw [hb]; exact List.drop_eq_getElem_cons him
      have htk : m.take (i + 1) = m.take i ++ [b] := by rw [hb]; exact List.take_succ_eq_append_getElem him
      have HW := Lib.hid (fun W => white_any c (Rl.wh b) (by rw [wh_N, hc]) W)
      have hfi := fun W => first_any marksS c W (by decide)
      have hink := ink_N b
      rw [← hc] at hink
      obtain ⟨dw, hdw⟩ : ∃ dw, dw = Rl.wh b := ⟨_, rfl⟩
      obtain ⟨ix, hix⟩ : ∃ ix, ix = idx marksS c := ⟨_, rfl⟩
      rw [← hdw] at HW hink
      rw [← hix] at hfi hink
      have HFI : Hid (∀ W, Calls Try.prog 95 #[.string ⟨#[44, 124, 40, 41]⟩, .int .u8 (c : Int)] W fun e w' => e = .returned (.int .i64 ix) ∧ W = w') := Lib.hid hfi
      have HINK := Lib.hid hink
      have HNEXT : Hid (Rl.ink b = true → m.takeWhile Rl.ink = m.take (i + 1) ++ (m.drop (i + 1)).takeWhile Rl.ink ∧ m.dropWhile Rl.ink = (m.drop (i + 1)).dropWhile Rl.ink) := Lib.hid (fun h9 => by
        rw [HI.out.1, HI.out.2, hdr, htk, List.takeWhile_cons, List.dropWhile_cons, if_pos h9, if_pos h9]
        simp)
      have HSTOP : Hid (Rl.ink b = false → m.takeWhile Rl.ink = m.take i ∧ m.dropWhile Rl.ink = m.drop i) := Lib.hid (fun h9 => by
        rw [HI.out.1, HI.out.2, hdr, List.takeWhile_cons, List.dropWhile_cons, h9]
        simp)
      have HTD : Hid (S.extract 0 i = Rl.tob (m.take i) ∧ S.extract i S.size = Rl.tob (m.drop i)) := Lib.hid (by rw [HS.out]; exact ⟨tob_take m i, tob_drop m i⟩)
      have i2 : (i : Int) ≤ (S.size : Int) := by omega
      clear hb hc hdr htk hfi hink hdw hix him
      cases dw with
      | true =>
        have HST := HSTOP.out (by rw [HINK.out]; rfl)
        have HEND := Lib.hid HST
        clear HST HNEXT HSTOP
        go_wp2_with (first
          | (go_at_call 92; refine (HW.out _).mono ?_; rintro e w2 ⟨rfl, rfl⟩)
          | (go_at_call 95; refine (HFI.out _).mono ?_; rintro e w2 ⟨rfl, rfl⟩))
        go_ret
        rw [HEND.out.1, HEND.out.2, ← HTD.out.1]
        refine ⟨rfl, ?_, HU1.out.setCell (p := ⟨q, 0, none⟩) (.inl rfl) _⟩
        unfold RR
        rw [← HTD.out.2]
        have := Blk.set_ HR1.out 0 (.string (S.extract i S.size))
        simpa using this
      | false =>
        by_cases hix : ix < 0
        · have HNX := Lib.hid (HNEXT.out (by rw [HINK.out, decide_eq_true hix]; rfl))
          clear HNEXT HSTOP
          go_wp2_with (first
            | (go_at_call 92; refine (HW.out _).mono ?_; rintro e w2 ⟨rfl, rfl⟩)
            | (go_at_call 95; refine (HFI.out _).mono ?_; rintro e w2 ⟨rfl, rfl⟩))
          refine ⟨⟨i + 1, by go_num, by omega, by first | rfl | trivial, HNX⟩, ?_⟩
          show S.size - ((i : Int) + 1).toNat < S.size - (i : Int).toNat
          omega
        · have HEND := Lib.hid (HSTOP.out (by rw [HINK.out, decide_eq_false hix]; rfl))
          clear HNEXT HSTOP
          go_wp2_with (first
            | (go_at_call 92; refine (HW.out _).mono ?_; rintro e w2 ⟨rfl, rfl⟩)
            | (go_at_call 95; refine (HFI.out _).mono ?_; rintro e w2 ⟨rfl, rfl⟩))
          go_ret
          rw [HEND.out.1, HEND.out.2, ← HTD.out.1]
          refine ⟨rfl, ?_, HU1.out.setCell (p := ⟨q, 0, none⟩) (.inl rfl) _⟩
          unfold RR
          rw [← HTD.out.2]
          have := Blk.set_ HR1.out 0 (.string (S.extract i S.size))
          simpa using this
    · have i1 : ¬ (i : Int) < (S.size : Int) := by omega
      have i2 : (i : Int) ≤ (S.size : Int) := by omega
      have HTD : Hid (S.extract 0 i = Rl.tob (m.take i) ∧ S.extract i S.size = Rl.tob (m.drop i)) := Lib.hid (by rw [HS.out]; exact ⟨tob_take m i, tob_drop m i⟩)
      have HEND : Hid (m.takeWhile Rl.ink = m.take i ∧ m.dropWhile Rl.ink = m.drop i) := Lib.hid (by
        have hd : m.drop i = [] := List.drop_of_length_le (by have := HSZ.out; omega)
        rw [HI.out.1, HI.out.2, hd]
        simp)
      go_wp2_with fail
      go_ret
      rw [HEND.out.1, HEND.out.2, ← HTD.out.1]
      refine ⟨rfl, ?_, HU1.out.setCell (p := ⟨q, 0, none⟩) (.inl rfl) _⟩
      unfold RR
      rw [← HTD.out.2]
      have := Blk.set_ HR1.out 0 (.string (S.extract i S.size))
      simpa using this
end Go.Proofs.Ytjkaigfpjebfbaa
