/- Put together: chandlerref4.Same, fieldName; stanza.name, white, trimEnd; stanza.name, white, trimEnd; stanza's reader: further; stanza.has. -/
import Derived.Test.YtjkaigfpjebfbaaDoorB5
import Derived.Test.YtjkaigfpjebfbaaDoorB3
import Derived.Test.YtjkaigfpjebfbaaDoorB2
import Derived.Deep.QuietTactic
import Derived.BigQuiet
import Derived.Deep.Cut
import Derived.Deep.DeepCutAuto
import Derived.Deep.AppendLies
/- chandlerref4.Same, fieldName; stanza.name, white, trimEnd. -/
namespace Go.Proofs.YtjkaigfpjebfbaaDoor
open Go.RowKit
set_option linter.unusedVariables false

theorem below_drewB (B : Nat) (w : World) (m : Nat) : Below B w (w.drewN m) := ⟨rfl, rfl, rfl, Nat.le_refl _, fun _ _ => rfl⟩
theorem beq_u8 (a b : Nat) : (((a : Int) != (b : Int)) = true) ↔ a ≠ b := by rw [bne_iff_ne]; omega
set_option maxRecDepth 100000 in
set_option maxHeartbeats 2000000 in
theorem RSame_any (a b : ByteArray) (w : World) (ha : a.size ≤ 4294967296) (hb : b.size ≤ 4294967296) :
    Calls Tryd.prog 17 #[.string a, .string b] w fun e w' => e = .returned (.bool (sameN a b)) ∧ Below w.heap.size w w' := by
  by_cases hl : a.size = b.size
  case neg =>
    have HE := Lib.hid (sameN_len hl)
    have q1 : ((a.size : Int) != (b.size : Int)) = true := (beq_u8 _ _).2 hl
    clear hl
    go_enter Tryd.func17, Tryd.ntmps17
    go_wp2_with fail
    go_ret
    exact ⟨by rw [HE.out]; rfl, Below.refl _ _⟩
  have HNO : Hid (∀ j, j < a.size → lowU (byteAt a j) ≠ lowU (byteAt b j) → sameN a b = false) := Lib.hid (fun j hj h => sameN_no hj (by omega) h)
  have HYES : Hid ((∀ j, j < a.size → lowU (byteAt a j) = lowU (byteAt b j)) → sameN a b = true) := Lib.hid (fun h => sameN_yes hl h)
  have HLW : Hid (∀ (x : Nat) (W : World), x < 256 → Calls Tryd.prog 30 #[.int .u8 (x : Int)] W fun e w' => e = .returned (.int .u8 ((lowU x : Nat) : Int)) ∧ W = w') := Lib.hid (fun x W h => refLow_any x W h)
  obtain ⟨n, hn⟩ : ∃ n, n = a.size := ⟨_, rfl⟩
  have h1 : a.size = n := hn.symm
  have h2 : b.size = n := by omega
  rw [← hn] at HNO HYES ha
  have HN1 := Lib.hid h1
  have HN2 := Lib.hid h2
  obtain ⟨bb, hbb⟩ : ∃ bb, bb = sameN a b := ⟨_, rfl⟩
  rw [← hbb] at HNO HYES ⊢
  clear hl hn hbb hb
  have q1 : ((n : Int) != (n : Int)) = false := by simp
  go_enter Tryd.func17, Tryd.ntmps17
  go_wp2_with fail
  go_loopw [13] (fun t wr => ∃ i : Nat, t = .int .i64 (i : Int) ∧ i ≤ n ∧ Hid (∀ j, j < i → lowU (byteAt a j) = lowU (byteAt b j)) ∧ Hid (Below w.heap.size w wr)) (fun t _ => n - (match t with | .int _ x => x.toNat | _ => 0))
  case atStart => exact ⟨0, rfl, Nat.zero_le _, Lib.hid (fun j hj => by omega), Lib.hid (Below.refl _ _)⟩
  case round =>
    obtain ⟨i, rfl, hi, HI, HB⟩ := hrel
    by_cases hlt : i < n
    case neg =>
      have hln : ¬ (i : Int) < (n : Int) := by omega
      have HE : Hid (bb = true) := Lib.hid (HYES.out (fun j hj => HI.out j (by omega)))
      go_wp2_with fail
      go_ret
      exact ⟨by rw [HE.out]; rfl, HB.out⟩
    have hln : (i : Int) < (n : Int) := by omega
    have i1 : i < a.size := by omega
    have i2 : i < b.size := by omega
    have g1 := byteAt_get a i i1
    have g2 := byteAt_get b i i2
    obtain ⟨x, hx⟩ : ∃ x, x = byteAt a i := ⟨_, rfl⟩
    obtain ⟨y, hy⟩ : ∃ y, y = byteAt b i := ⟨_, rfl⟩
    have x256 : x < 256 := by rw [hx]; exact byteAt_lt _ _
    have y256 : y < 256 := by rw [hy]; exact byteAt_lt _ _
    rw [← hx] at g1
    rw [← hy] at g2
    have HXY : Hid (lowU (byteAt a i) = lowU x ∧ lowU (byteAt b i) = lowU y) := Lib.hid ⟨by rw [hx], by rw [hy]⟩
    have g1' : ((a[i]'i1).toNat : Nat) = x := g1.symm
    have g2' : ((b[i]'i2).toNat : Nat) = y := g2.symm
    have hln1 : (i : Int) < (a.size : Int) := by omega
    have hln2 : (i : Int) < (b.size : Int) := by omega
    have hz : (0 : Int) ≤ (i : Int) := by omega
    clear g1 g2 hx hy
    by_cases he : lowU x = lowU y
    · have q2 : (((lowU x : Nat) : Int) != ((lowU y : Nat) : Int)) = false := by rw [he]; simp
      have HI2 : Hid (∀ j, j < i + 1 → lowU (byteAt a j) = lowU (byteAt b j)) := Lib.hid (fun j hj => by
        by_cases e : j = i
        · rw [e, HXY.out.1, HXY.out.2, he]
        · exact HI.out j (by omega))
      clear he
      go_wp2_with fail
      go_quiet ((go_at_call 30; exact ((HLW.out _ _ (by assumption)).mono fun e w' h => ⟨h.1, _, h.2.symm⟩)))
      go_wp2_with fail
      refine ⟨⟨i + 1, by go_num, by omega, HI2, Lib.hid (HB.out.trans (below_drewB _ _ _))⟩, ?_⟩
      show n - ((i : Int) + 1).toNat < n - (i : Int).toNat
      omega
    · have q2 : (((lowU x : Nat) : Int) != ((lowU y : Nat) : Int)) = true := (beq_u8 _ _).2 he
      have HE : Hid (bb = false) := Lib.hid (HNO.out i hlt (by rw [HXY.out.1, HXY.out.2]; exact he))
      clear he
      go_wp2_with fail
      go_quiet ((go_at_call 30; exact ((HLW.out _ _ (by assumption)).mono fun e w' h => ⟨h.1, _, h.2.symm⟩)))
      go_wp2_with fail
      go_ret
      exact ⟨by rw [HE.out]; rfl, HB.out.trans (below_drewB _ _ _)⟩
set_option maxRecDepth 100000 in
set_option maxHeartbeats 2000000 in
theorem fieldName_any (s : ByteArray) (w : World) (hs : s.size ≤ 4294967296) :
    Calls Tryd.prog 29 #[.string s] w fun e w' => e = .returned (.int .i64 (if nameN s = 0 ∨ nameN s = s.size then -1 else (nameN s : Int))) ∧ w = w' := by
  obtain ⟨z, hz⟩ : ∃ z : Int, z = if nameN s = 0 ∨ nameN s = s.size then -1 else (nameN s : Int) := ⟨_, rfl⟩
  rw [← hz]
  have H0 : Hid (nameN s = 0 → z = -1) := Lib.hid (fun h => by rw [hz, if_pos (.inl h)])
  have H1 : Hid (nameN s = s.size → z = -1) := Lib.hid (fun h => by rw [hz, if_pos (.inr h)])
  have H2 : Hid (∀ i, nameN s = i → 0 < i → i < s.size → z = (i : Int)) := Lib.hid (fun i h h0 h1 => by rw [hz, if_neg (by omega), h])
  obtain ⟨n, hn⟩ : ∃ n, n = s.size := ⟨_, rfl⟩
  have hns : s.size = n := hn.symm
  have HN := Lib.hid hn
  rw [← hn] at hs
  clear hz hn
  obtain ⟨wo, rfl⟩ : ∃ wo : World, wo = w := ⟨_, rfl⟩
  go_enter Tryd.func29, Tryd.ntmps29
  go_wp2_with fail
  go_loopw [7] (fun t wr => ∃ (i f : Nat), t = .int .i64 (i : Int) ∧ i ≤ n ∧ wr = wo ∧ Hid (nmF s f i = nameN s) ∧ n ≤ i + f) (fun t _ => n - (match t with | .int _ x => x.toNat | _ => 0))
  case atStart => exact ⟨0, s.size, rfl, Nat.zero_le _, rfl, Lib.hid rfl, by omega⟩
  case round =>
    obtain ⟨i, f, rfl, hi, rfl, HF, hif⟩ := hrel
    by_cases hlt : i < n
    case neg =>
      have hln : ¬ (i : Int) < (n : Int) := by omega
      have HE : Hid (z = -1) := Lib.hid (H1.out (by rw [← HF.out, nmF_end s f i (by omega)]))
      go_wp2_with fail
      go_ret
      exact ⟨by rw [HE.out]; rfl, rfl⟩
    have hln : (i : Int) < (n : Int) := by omega
    obtain ⟨f, rfl⟩ : ∃ f', f = f' + 1 := ⟨f - 1, by omega⟩
    have his : i < s.size := by omega
    have hst := nmF_step s f i his
    rw [HF.out] at hst
    have g1 := byteAt_get s i his
    obtain ⟨x, hx⟩ : ∃ x, x = byteAt s i := ⟨_, rfl⟩
    have x256 : x < 256 := by rw [hx]; exact byteAt_lt _ _
    rw [← hx] at g1 hst
    have g1' : ((s[i]'his).toNat : Nat) = x := g1.symm
    have HST := Lib.hid hst
    clear hst g1 hx HF
    by_cases h58 : x = 58
    · subst h58
      by_cases h0 : i = 0
      · subst h0
        have HE : Hid (z = -1) := Lib.hid (H0.out (by rw [HST.out, if_pos rfl]))
        go_wp2_with fail
        go_ret
        exact ⟨by rw [HE.out]; rfl, rfl⟩
      · have q0 : ((i : Int) == 0) = false := by rw [beq_eq_false_iff_ne]; omega
        have HE : Hid (z = (i : Int)) := Lib.hid (H2.out i (by rw [HST.out, if_pos rfl]) (by omega) (by omega))
        clear h0
        go_wp2_with fail
        go_ret
        exact ⟨by rw [HE.out]; rfl, rfl⟩
    have q58 : ((x : Int) == 58) = false := by rw [beq_eq_false_iff_ne]; omega
    by_cases hbad : x < 33 ∨ 126 < x ∨ (i = 0 ∧ (x = 35 ∨ x = 45))
    · have HE : Hid (z = -1) := Lib.hid (H0.out (by rw [HST.out, if_neg h58, if_pos hbad]))
      by_cases b1 : x < 33
      · have q1 : decide ((x : Int) < 33) = true := by (simp <;> omega)
        clear hbad h58
        go_wp2_with fail
        go_ret
        exact ⟨by rw [HE.out]; rfl, rfl⟩
      have q1 : decide ((x : Int) < 33) = false := by (simp <;> omega)
      by_cases b2 : 126 < x
      · have q2 : decide ((126 : Int) < (x : Int)) = true := by (simp <;> omega)
        clear hbad h58
        go_wp2_with fail
        go_ret
        exact ⟨by rw [HE.out]; rfl, rfl⟩
      have q2 : decide ((126 : Int) < (x : Int)) = false := by (simp <;> omega)
      obtain ⟨h0, h3⟩ : i = 0 ∧ (x = 35 ∨ x = 45) := by omega
      subst h0
      rcases h3 with rfl | rfl
      all_goals
        clear hbad h58
        go_wp2_with fail
        go_ret
        exact ⟨by rw [HE.out]; rfl, rfl⟩
    · have HF2 : Hid (nmF s f (i + 1) = nameN s) := Lib.hid (by rw [HST.out, if_neg h58, if_neg hbad])
      have q1 : decide ((x : Int) < 33) = false := by (simp <;> omega)
      have q2 : decide ((126 : Int) < (x : Int)) = false := by (simp <;> omega)
      by_cases h0 : i = 0
      · subst h0
        have q3 : ((x : Int) == 35) = false := by rw [beq_eq_false_iff_ne]; omega
        have q4 : ((x : Int) == 45) = false := by rw [beq_eq_false_iff_ne]; omega
        clear hbad h58
        go_wp2_with fail
        refine ⟨⟨1, f, rfl, by omega, trivial, HF2, by omega⟩, ?_⟩
        show n - 1 < n - 0
        omega
      · have q0 : ((i : Int) == 0) = false := by rw [beq_eq_false_iff_ne]; omega
        clear hbad h58 h0
        go_wp2_with fail
        refine ⟨⟨i + 1, f, by go_num, by omega, trivial, HF2, by omega⟩, ?_⟩
        show n - ((i : Int) + 1).toNat < n - (i : Int).toNat
        omega
end Go.Proofs.YtjkaigfpjebfbaaDoor
/- stanza.name, white, trimEnd. -/
namespace Go.Proofs.YtjkaigfpjebfbaaDoor
open Go.RowKit
set_option linter.unusedVariables false

theorem wU_set (c : UInt8) : ([32, 9] : List UInt8).contains c = wU c := by
  have key : ∀ c : Fin 256, ([32, 9] : List UInt8).contains (UInt8.ofNat c.val) = wU (UInt8.ofNat c.val) := by decide +kernel
  have h := key ⟨c.toNat, c.toNat_lt⟩
  have e : UInt8.ofNat c.toNat = c := by simp
  simp only [e] at h
  exact h
theorem trimR_list (s : ByteArray) : Lib.trimRightS (bl s) [32, 9] = bl (trimR s) := by
  have hf := hi_facts s s.size
  have hle := hiB_le s s.size
  have hW := white_of s (hi s) s.size (fun k h1 h2 => hf.1 k h1 h2)
  have e1 : bl s = (bl s).take (hi s) ++ (bl s).drop (hi s) := (List.take_append_drop _ _).symm
  have e2 : ((bl s).drop (hi s)).take (s.size - hi s) = (bl s).drop (hi s) := List.take_of_length_le (by rw [List.length_drop, bl_len]; exact Nat.le_refl _)
  rw [e2] at hW
  have e3 : bl (trimR s) = (bl s).take (hi s) := by unfold trimR; rw [bl_part]; simp
  rw [e3]
  unfold Lib.trimRightS
  have e4 : (fun x => ([32, 9] : List UInt8).contains x) = wU := funext wU_set
  rw [e4]
  conv => lhs; rw [e1, List.reverse_append]
  rw [drop_white ((bl s).drop (hi s)).reverse _ (fun c hc => hW c (List.mem_reverse.1 hc)) (fun c r e => ?_), List.reverse_reverse]
  have h0 : 0 < hi s := by
    rcases Nat.eq_zero_or_pos (hi s) with h | h
    · rw [h] at e; cases e
    · exact h
  have hl := hf.2 h0
  have e5 := congrArg List.reverse e
  rw [List.reverse_reverse, List.reverse_cons] at e5
  have hlen : ((bl s).take (hi s)).length = hi s := by rw [List.length_take, bl_len]; unfold hi; omega
  have e6 : ((bl s).take (hi s))[hi s - 1]? = some c := by
    rw [e5]
    have : hi s - 1 = r.reverse.length := by
      have := congrArg List.length e5
      rw [hlen, List.length_append] at this
      simp at this ⊢
      omega
    rw [this]
    simp
  rw [List.getElem?_take, if_pos (by omega), List.getElem?_eq_getElem (by rw [bl_len]; unfold hi at h0 ⊢; omega)] at e6
  injection e6 with e6
  unfold wU
  rw [← e6, bl_get]
  exact hl
set_option maxRecDepth 100000 in
theorem trimEnd_any (s : ByteArray) (w : World) (hs : s.size ≤ 9223372036854775807) :
    Calls Tryd.prog 55 #[.string s] w fun e w' => e = .returned (.string (trimR s)) ∧ Below w.heap.size w w' := by
  have h := Tryd.strings_TrimRight s ⟨#[32, 9]⟩ w hs (by decide) (ascii_of_all (by decide))
  have e : (⟨(Lib.trimRightS s.data.toList (⟨#[32, 9]⟩ : ByteArray).data.toList).toArray⟩ : ByteArray) = trimR s := bl_inj (trimR_list s)
  rw [e] at h
  have H := Lib.hid h
  clear h e
  go_enter Tryd.func55, Tryd.ntmps55
  go_wp2_with fail
  refine H.out.mono ?_
  rintro e w1 ⟨rfl, hb1⟩
  go_wp2_with fail
  go_ret
  exact ⟨rfl, hb1⟩
theorem isWh_eq (s : ByteArray) : isWh s = (decide (0 < s.size) && (byteAt s 0 == 32 || byteAt s 0 == 9)) := rfl
set_option maxRecDepth 100000 in
theorem swhite_any (s : ByteArray) (w : World) (hs : s.size ≤ 9223372036854775807) :
    Calls Tryd.prog 40 #[.string s] w fun e w' => e = .returned (.bool (isWh s)) ∧ w = w' := by
  by_cases h0 : 0 < s.size
  case neg =>
    have HE : Hid (isWh s = false) := Lib.hid (by unfold isWh; rw [decide_eq_false h0]; rfl)
    have he : s.toList.isEmpty = true := by
      rw [ByteArray.toList_eq]
      obtain ⟨⟨l⟩⟩ := s
      cases l with
      | nil => rfl
      | cons x r => exact absurd (show 0 < r.length + 1 by omega) h0
    clear h0
    go_enter Tryd.func40, Tryd.ntmps40
    go_wp2_with fail
    go_ret
    exact ⟨by rw [HE.out]; rfl, rfl⟩
  have he : s.toList.isEmpty = false := by
    rw [ByteArray.toList_eq]
    obtain ⟨⟨l⟩⟩ := s
    cases l with
    | nil => exact absurd h0 (by show ¬ 0 < 0; omega)
    | cons x r => rfl
  have g := byteAt_get s 0 h0
  obtain ⟨x, hx⟩ : ∃ x, x = byteAt s 0 := ⟨_, rfl⟩
  have HW : Hid (isWh s = (x == 32 || x == 9)) := Lib.hid (by rw [isWh_eq, decide_eq_true h0, hx]; rfl)
  rw [← hx] at g
  have g' : ((s[0]'h0).toNat : Nat) = x := g.symm
  have hz : (0 : Int) < (s.size : Int) := by omega
  clear g hx
  by_cases h1 : x = 32
  · subst h1
    have HE : Hid (isWh s = true) := Lib.hid (by rw [HW.out]; rfl)
    go_enter Tryd.func40, Tryd.ntmps40
    go_wp2_with fail
    go_ret
    exact ⟨by rw [HE.out]; rfl, rfl⟩
  · have q1 : ((x : Int) == 32) = false := by rw [beq_eq_false_iff_ne]; omega
    by_cases h2 : x = 9
    · subst h2
      have HE : Hid (isWh s = true) := Lib.hid (by rw [HW.out]; rfl)
      go_enter Tryd.func40, Tryd.ntmps40
      go_wp2_with fail
      go_ret
      exact ⟨by rw [HE.out]; rfl, rfl⟩
    · have q2 : ((x : Int) == 9) = false := by rw [beq_eq_false_iff_ne]; omega
      have HE : Hid (isWh s = false) := Lib.hid (by
        rw [HW.out, beq_eq_false_iff_ne.2 h1, beq_eq_false_iff_ne.2 h2]; rfl)
      clear h1 h2
      go_enter Tryd.func40, Tryd.ntmps40
      go_wp2_with fail
      go_ret
      exact ⟨by rw [HE.out]; rfl, rfl⟩
set_option maxRecDepth 100000 in
set_option maxHeartbeats 4000000 in
theorem name_any (s : ByteArray) (w : World) (hs : s.size ≤ 9223372036854775807) :
    Calls Tryd.prog 49 #[.string s] w fun e w' => e = .returned (.int .i64 (nameN s : Int)) ∧ Below w.heap.size w w' := by
  go_enter Tryd.func49, Tryd.ntmps49
  go_wp2
  go_loopw [3] (fun _ wr => ∃ (pos fuel : Nat), wr.heap[w.heap.size]? = some (.stringIter s pos) ∧ Below w.heap.size w wr ∧ Hid (nmF s fuel pos = nameN s) ∧ s.size ≤ pos + fuel) (fun _ wr => s.size - wr.iterPos w.heap.size)
  case atStart => exact ⟨0, s.size, World.iter_heap w s 0, (Below.refl _ _).alloc (Nat.le_refl _) _, Lib.hid rfl, by omega⟩
  case round =>
    obtain ⟨pos, fuel, hit, hbw, HS, hb⟩ := hrel
    have hpos0 := iterPos_of hit
    by_cases hp : pos < s.size
    case neg =>
      have hnx : ∀ ty, (Instr.next (.pointer (some ⟨w.heap.size, 0, none⟩)) true ty).run Tryd.prog wr = _ := fun ty => Lib.run_next_end_at wr w.heap.size s pos ty hit hp
      have HE : Hid (nameN s = s.size) := Lib.hid (by rw [← HS.out, nmF_end s fuel pos hp])
      have HBw := Lib.hid hbw
      clear hit hbw hp HS
      go_wp2_with fail
      go_ret
      exact ⟨by rw [HE.out]; rfl, HBw.out⟩
    have hnx : ∀ ty, (Instr.next (.pointer (some ⟨w.heap.size, 0, none⟩)) true ty).run Tryd.prog wr = _ := fun ty => Lib.run_next_any_at wr w.heap.size s pos ty hit hp
    have hwd := Lib.decode_width_pos s pos hp
    have hin := decode_in s pos hp
    obtain ⟨fuel, rfl⟩ : ∃ f', fuel = f' + 1 := ⟨fuel - 1, by omega⟩
    have hit2 := Lib.iterAt_heap wr w.heap.size s pos (pos + (Utf8.decode s pos).2) hit
    have hbw2 := Lib.below_iterAt hbw (k := w.heap.size) (Nat.le_refl _) s (pos + (Utf8.decode s pos).2)
    obtain ⟨W1, hW1⟩ : ∃ W1, W1 = wr.iterAt w.heap.size s (pos + (Utf8.decode s pos).2) := ⟨_, rfl⟩
    rw [← hW1] at hnx hit2 hbw2
    have HHit := Lib.hid hit2
    have HBw := Lib.hid hbw2
    have hst := nmF_step s fuel pos hp
    rw [HS.out] at hst
    have hra := rune_at s pos
    have hle := rune_le s pos
    have HPos := Lib.hid hpos0
    obtain ⟨x, hx⟩ : ∃ x, x = byteAt s pos := ⟨_, rfl⟩
    rw [← hx] at hst hra
    have HST := Lib.hid hst
    clear hW1 hit hbw hit2 hbw2 hpos0 hst HS
    obtain ⟨c, hc⟩ : ∃ c, c = (Utf8.decode s pos).1 := ⟨_, rfl⟩
    obtain ⟨n, hn⟩ : ∃ n, n = (Utf8.decode s pos).2 := ⟨_, rfl⟩
    have hra2 : (x < 128 ∧ c = x ∧ n = 1) ∨ (128 ≤ x ∧ 128 ≤ c) := by
      rcases hra with ⟨h1, e⟩ | h2
      · refine .inl ⟨h1, ?_, ?_⟩
        · rw [hc, e]
        · rw [hn, e]
      · exact .inr ⟨h2.1, by rw [hc]; exact h2.2⟩
    rw [← hc] at hnx hle
    rw [← hn] at hwd hin HHit
    clear hc hn hra hx
    by_cases h58 : c = 58
    · have e : x = 58 ∧ n = 1 := by omega
      have HE : Hid (nameN s = pos) := Lib.hid (by rw [HST.out, if_pos e.1])
      subst h58
      clear e hra2
      go_wp2_with fail
      go_ret
      exact ⟨by rw [HE.out]; rfl, HBw.out⟩
    have q58 : ((c : Int) == 58) = false := by rw [beq_eq_false_iff_ne]; omega
    by_cases hbad : c < 33 ∨ 126 < c ∨ (pos = 0 ∧ (c = 35 ∨ c = 45))
    · have HE : Hid (nameN s = 0) := Lib.hid (by rw [HST.out, if_neg (by omega), if_pos (by omega)])
      by_cases b1 : c < 33
      · have q1 : decide ((c : Int) < 33) = true := by (simp <;> omega)
        clear hbad h58 hra2
        go_wp2_with fail
        go_ret
        exact ⟨by rw [HE.out]; rfl, HBw.out⟩
      have q1 : decide ((c : Int) < 33) = false := by (simp <;> omega)
      by_cases b2 : 126 < c
      · have q2 : decide ((126 : Int) < (c : Int)) = true := by (simp <;> omega)
        clear hbad h58 hra2
        go_wp2_with fail
        go_ret
        exact ⟨by rw [HE.out]; rfl, HBw.out⟩
      have q2 : decide ((126 : Int) < (c : Int)) = false := by (simp <;> omega)
      obtain ⟨h0, h3⟩ : pos = 0 ∧ (c = 35 ∨ c = 45) := by omega
      subst h0
      rcases h3 with rfl | rfl
      all_goals
        clear hbad h58 hra2
        go_wp2_with fail
        go_ret
        exact ⟨by rw [HE.out]; rfl, HBw.out⟩
    · have HF2 : Hid (nmF s fuel (pos + 1) = nameN s) := Lib.hid (by rw [HST.out, if_neg (by omega), if_neg (by omega)])
      have hone : n = 1 := by omega
      rw [hone] at HHit
      have q1 : decide ((c : Int) < 33) = false := by (simp <;> omega)
      have q2 : decide ((126 : Int) < (c : Int)) = false := by (simp <;> omega)
      by_cases h0 : pos = 0
      · subst h0
        have q3 : ((c : Int) == 35) = false := by rw [beq_eq_false_iff_ne]; omega
        have q4 : ((c : Int) == 45) = false := by rw [beq_eq_false_iff_ne]; omega
        clear hbad h58 hra2 hone
        go_wp2_with fail
        go_roundw
        case rel => exact ⟨1, fuel, HHit.out, HBw.out, HF2, by omega⟩
        case measure =>
          rw [iterPos_of HHit.out, HPos.out]
          omega
      · have z : ((pos : Int) == 0) = false := by (simp <;> omega)
        clear hbad h58 hra2 h0 hone
        go_wp2_with fail
        go_roundw
        case rel => exact ⟨pos + 1, fuel, HHit.out, HBw.out, HF2, by omega⟩
        case measure =>
          rw [iterPos_of HHit.out, HPos.out]
          omega
end Go.Proofs.YtjkaigfpjebfbaaDoor
/- stanza's reader: further. -/
namespace Go.Proofs.YtjkaigfpjebfbaaDoor
open Go.RowKit
set_option linter.unusedVariables false

theorem str_row : (Tryd.prog.info? 9).map (fun i => (i.zero, i.size, i.bytes)) = some (some (.string ⟨#[]⟩), 1, 16) := by kernel_rfl
theorem fd_row : (Tryd.prog.info? 40).map (fun i => (i.zero, i.size, i.bytes)) = some (some (.agg #[.string ⟨#[]⟩, .slice none 0 0]), 2, 40) := by kernel_rfl
theorem st_row : (Tryd.prog.info? 34).map (fun i => (i.zero, i.size, i.bytes)) = some (some (.agg #[.int .i64 0, .slice none 0 0]), 2, 32) := by kernel_rfl
theorem reads_one {w : World} {g : Nat} {t : TypeId} {a : Value} {B : Nat} (h : Blk w g t #[a]) (hB : g < B) : Reads w B 1 (some ⟨g, 0, none⟩) 1 [a] :=
  ⟨rfl, fun _ => ⟨_, rfl, hB, fun j u hj => by
    match j, hj with
    | 0, hj => injection hj with hj; subst hj; exact h.cell 0⟩⟩
theorem reads_two {w : World} {g : Nat} {t : TypeId} {a b : Value} {B : Nat} (h : Blk w g t #[a, b]) (hB : g < B) : Reads w B 2 (some ⟨g, 0, none⟩) 1 [a, b] :=
  ⟨rfl, fun _ => ⟨_, rfl, hB, fun j u hj => by
    match j, hj with
    | 0, hj => injection hj with hj; subst hj; exact h.cell 0
    | 1, hj => injection hj with hj; subst hj; exact h.cell 1⟩⟩
theorem dot_list : dotB.toList = [46] := by rw [ByteArray.toList_eq]; rfl
theorem own_blk {k j n c : Nat} (h : (Value.slice (some ⟨k, 0, none⟩) n c).ownBlock = some j) : j = k := by
  have e : some k = some j := h
  injection e with e
  exact e.symm
theorem own_at {w2 : World} {o : Obj} {kl kl' r r' c c' : Nat} (h : (Value.slice (some ⟨kl', 0, none⟩) r' c').ownBlock = (Value.slice (some ⟨kl, 0, none⟩) r c).ownBlock ∨ (Value.slice (some ⟨kl', 0, none⟩) r' c').ownBlock = some (w2.alloc o).heap.size) : kl' = kl ∨ w2.heap.size ≤ kl' := by
  rcases h with h | h
  · have e : some kl' = some kl := h
    injection e with e
    exact .inl e
  · have e : some kl' = some (w2.alloc o).heap.size := h
    injection e with e
    right
    rw [e, World.size_alloc]
    omega
/-- The reader at q. -/
def RdS (w : World) (base q : Nat) : PS → Prop
  | .shut L => ∃ G A c xs, Blk w q 56 #[.slice A L.length c, .bool false] ∧ Shu w base G A c xs L ∧ ∀ k, G k → base ≤ k ∧ k ≠ q
  | .opn Lp ln Fp nm ls => ∃ G ko co kf cf kl cl xs fx, Blk w q 56 #[.slice (some ⟨ko, 0, none⟩) (Lp.length + 1) co, .bool true] ∧ Opn w base G ko co kf cf kl cl xs fx Lp ln Fp nm ls ∧ ∀ k, G k → base ≤ k ∧ k ≠ q
set_option maxRecDepth 100000 in
set_option maxHeartbeats 4000000 in
theorem further_shut (q base : Nat) (L : List St) (s : ByteArray) (w : World) (h : RdS w base q (.shut L)) :
    Calls Tryd.prog 41 #[.pointer (some ⟨q, 0, none⟩), .string s] w fun e w' => e = .returned (.int .i64 3) ∧ w = w' := by
  obtain ⟨G, A, c, xs, hb, _, _⟩ := h
  have k1 : w.cell? ⟨q, 1, none⟩ = some (.bool false) := hb.cell 1
  clear hb
  go_enter Tryd.func41, Tryd.ntmps41
  go_wp2_with fail
  go_ret
  exact ⟨rfl, rfl⟩
set_option maxRecDepth 100000 in
set_option maxHeartbeats 4000000 in
theorem further_opn (q base : Nat) (Lp : List St) (ln : Int) (Fp : List Fd) (nm : ByteArray) (ls : List ByteArray) (s : ByteArray) (w : World) (h : RdS w base q (.opn Lp ln Fp nm ls)) (hs0 : 0 < s.size) (hs : s.size ≤ 1048576) (hbq : base ≤ q) (hbw : base ≤ w.heap.size)
    (hLp : Lp.length ≤ 1048576) (hFp : Fp.length ≤ 1048576) (hls : ls.length ≤ 1048576) :
    Calls Tryd.prog 41 #[.pointer (some ⟨q, 0, none⟩), .string s] w fun e w' => e = .returned (.int .i64 0) ∧ RdS w' base q (.opn Lp ln Fp nm (ls ++ [furT s])) ∧ Below base w w' := by
  obtain ⟨i0, hi0, hz0, hz1, hz2⟩ := info_parts str_row
  obtain ⟨G, ko, co, kf, cf, kl, cl, xs, fx, hb, ho, hG⟩ := h
  obtain ⟨X, hX⟩ : ∃ X, X = trimR (s.extract 1 s.size) := ⟨_, rfl⟩
  have HT := Lib.hid (fun W => trimEnd_any (s.extract 1 s.size) W (by rw [ByteArray.size_extract]; omega))
  rw [← hX] at HT
  obtain ⟨x, hx⟩ : ∃ x, x = furT s := ⟨_, rfl⟩
  have HX : Hid (x = if X = dotB then ⟨#[]⟩ else X) := Lib.hid (by rw [hx, hX]; rfl)
  rw [← hx]
  have hex : (s.extract 1 s.size) = s.extract 1 s.size := rfl
  have HB := Lib.hid hb
  have HO := Lib.hid ho
  have HGQ := Lib.hid hG
  have hp1 : (1 : Int) ≤ (s.size : Int) := by omega
  have k0 : w.cell? ⟨q, 0, none⟩ = some (.slice (some ⟨ko, 0, none⟩) (Lp.length + 1) co) := hb.cell 0
  have k1 : w.cell? ⟨q, 1, none⟩ = some (.bool true) := hb.cell 1
  clear hb ho hG hX hx hex hs0
  go_enter Tryd.func41, Tryd.ntmps41
  go_upto_if 16 with (go_at_call 55; refine (HT.out _).mono ?_; rintro e w1 ⟨rfl, hb1⟩; have HB1 := Lib.hid hb1; clear hb1)
  clear HT k0 k1
  go_cut [1] (fun v wx => v = .string x ∧ w1 = wx)
  case first =>
    go_wp2_with fail
    · go_meet
      have h9 : (X.toList == [46]) = true := by assumption
      rw [← dot_list, str_eq, decide_eq_true_eq] at h9
      exact ⟨by rw [HX.out, if_pos h9], rfl⟩
    · go_meet
      have h9 : (X.toList == [46]) = false := by assumption
      rw [← dot_list, str_eq, decide_eq_false_iff_not] at h9
      exact ⟨by rw [HX.out, if_neg h9], rfl⟩
  case rest =>
    obtain ⟨rfl, rfl⟩ := hcut
    have HO1 : Hid (Opn w1 base G ko co kf cf kl cl xs fx Lp ln Fp nm ls) := Lib.hid (HO.out.upd (Upd.of_below HB1.out (T := fun _ => False) (fun k h1 h2 => by omega)) (fun h => h) (fun h => h) (fun h => h) (fun _ _ h => h))
    have HR1 : Hid (Blk w1 q 56 #[.slice (some ⟨ko, 0, none⟩) (Lp.length + 1) co, .bool true]) := Lib.hid (HB.out.below HB1.out HB.out.lt)
    obtain ⟨m, hm⟩ : ∃ m, m = Lp.length := ⟨_, rfl⟩
    obtain ⟨p, hp⟩ : ∃ p, p = Fp.length := ⟨_, rfl⟩
    obtain ⟨r, hr⟩ : ∃ r, r = ls.length := ⟨_, rfl⟩
    have HM := Lib.hid hm
    have HPL := Lib.hid hp
    have HRL := Lib.hid hr
    have hx := HO1.out.xlen
    rw [← hm, ← hp] at hx
    have k0 : w1.cell? ⟨q, 0, none⟩ = some (.slice (some ⟨ko, 0, none⟩) (m + 1) co) := by rw [hm]; exact HR1.out.cell 0
    have kso : w1.cell? ⟨ko, m * 2 + 1, none⟩ = some (.slice (some ⟨kf, 0, none⟩) (p + 1) cf) := by
      rw [HO1.out.o.cellAt (m * 2 + 1) (by rw [hm]; omega), hp, ← hx.1]
      simp
    have ksf : w1.cell? ⟨kf, p * 2 + 1, none⟩ = some (.slice (some ⟨kl, 0, none⟩) r cl) := by
      rw [HO1.out.f.cellAt (p * 2 + 1) (by rw [hp]; omega), hr, ← hx.2]
      simp
    have fsf : w1.frozen? ⟨kf, p * 2 + 1, none⟩ = false := HO1.out.f.frozenAt _
    rw [← hm] at hLp
    rw [← hp] at hFp
    rw [← hr] at hls
    have b1 : (m : Int) < (m : Int) + 1 := by omega
    have b2 : (p : Int) < (p : Int) + 1 := by omega
    clear hm hp hr hx HB HO HX hp1
    go_wp2_with fail
    go_quiet (fail)
    obtain ⟨w2, hw2⟩ : ∃ w2, w2 = w1.drewN nq := ⟨_, rfl⟩
    rw [← hw2]
    have hd2 : Upd (fun _ => False) w1 w2 := by rw [hw2]; exact (Upd.refl _ _).drewN nq
    have HO2 : Hid (Opn w2 base G ko co kf cf kl cl xs fx Lp ln Fp nm ls) := Lib.hid (HO1.out.upd hd2 (fun h => h) (fun h => h) (fun h => h) (fun _ _ h => h))
    have HR2 : Hid (Blk w2 q 56 #[.slice (some ⟨ko, 0, none⟩) (m + 1) co, .bool true]) := Lib.hid (by rw [HM.out]; exact HR1.out.upd hd2 (fun h => h))
    have HB2 : Hid (Below w.heap.size w w2) := Lib.hid (by rw [hw2]; exact HB1.out.trans (below_drewB _ _ nq))
    have k2 : w2.cell? ⟨kf, p * 2 + 1, none⟩ = some (.slice (some ⟨kl, 0, none⟩) r cl) := by rw [hw2]; exact ksf
    have HL2 : Hid (w2.ownsRow base 9 1 (.slice (some ⟨kl, 0, none⟩) r cl) r (ls.map Value.string)) := Lib.hid (by rw [HRL.out]; exact HO2.out.l)
    have hz2b : base ≤ w2.heap.size := Nat.le_trans hbw HB2.out.size
    clear hw2 hd2 k0 kso ksf fsf HO1 HR1 HB1 b1
    go_wp2_with (at_builtin; refine wpList_append_any _ rfl (.tmp 39) (.tmp 41) 38 rfl base 9 i0 _ 1 16 Tryd.underlying38 hi0 hz0 hz1 hz2 rfl (by decide) (.slice (some ⟨kl, 0, none⟩) r cl) r (ls.map Value.string) rfl (HL2.out.alloc _) (w2.heap.size + 1) (some ⟨w2.heap.size, 0, none⟩) 1 1 [.string x] rfl (reads_one (Blk.new w2 _ _) (by simp)) (fun u hu => by simp at hu; subst hu; rfl) (by unfold maxLen; omega) (by omega) (by simp; omega) ?_; intro v5 w5 hown5 hg5 hat5; obtain ⟨kl', c5, rfl, hkl5, hlt5⟩ := hown5.form (by omega); have hu5 : Upd (fun k => k = kl) w2 w5 := ((Upd.refl _ w2).alloc _).grown hg5 (fun j hj => .inl (own_blk hj)); have HU5 := Lib.hid hu5; have HK5 : Hid (kl' = kl ∨ w2.heap.size ≤ kl') := Lib.hid (own_at hat5); have HW5 := Lib.hid hown5; have k5 : w5.cell? ⟨kf, p * 2 + 1, none⟩ = some (.slice (some ⟨kl, 0, none⟩) r cl) := (hu5.cell (p := ⟨kf, p * 2 + 1, none⟩) (World.block_lt_of_cell? w2 _ k2) HO2.out.ne.2.2).trans k2; have f5 : w5.frozen? ⟨kf, p * 2 + 1, none⟩ = false := (hu5.frozen (p := ⟨kf, p * 2 + 1, none⟩) (World.block_lt_of_cell? w2 _ k2) HO2.out.ne.2.2).trans (HO2.out.f.frozenAt _); clear hown5 hg5 hat5 hu5 hkl5 hlt5)
    go_ret
    have hfin := HO2.out.line (x := x) (kl' := kl') (c5 := c5) HU5.out HK5.out (by rw [← HRL.out]; exact HW5.out)
    rw [← HPL.out, ← HRL.out] at hfin
    have hqk : q ≠ kl ∧ q ≠ kf := ⟨Ne.symm (own_ne_blk HL2.out HR2.out (by decide)), Ne.symm (own_ne_blk HO2.out.f HR2.out (by decide))⟩
    refine ⟨rfl, ⟨G, ko, co, kf, cf, kl', c5, xs, fx, ?_, hfin.1, HGQ.out⟩, ?_⟩
    · rw [← HM.out]
      exact HR2.out.upd hfin.2 (fun h => by rcases h with h | h; exact hqk.1 h; exact hqk.2 h)
    · exact (HB2.out.mono hbw).trans (hfin.2.below (fun k hk => by
        rcases hk with rfl | rfl
        · exact (own_is HL2.out rfl).1
        · exact (own_is HO2.out.f rfl).1) hz2b)
end Go.Proofs.YtjkaigfpjebfbaaDoor
/- stanza.has. -/
namespace Go.Proofs.YtjkaigfpjebfbaaDoor
open Go.RowKit
set_option linter.unusedVariables false

theorem hasN_no {l : List Fd} {nm : ByteArray} (h : ∀ j (hj : j < l.length), sameN l[j].n nm = false) : hasN l nm = false := by
  unfold hasN
  rw [List.any_eq_false]
  intro f hf
  obtain ⟨j, hj, rfl⟩ := List.mem_iff_getElem.1 hf
  rw [h j hj]
  simp
theorem hasN_yes {l : List Fd} {nm : ByteArray} {j : Nat} (hj : j < l.length) (h : sameN l[j].n nm = true) : hasN l nm = true := by
  unfold hasN
  rw [List.any_eq_true]
  exact ⟨l[j], List.getElem_mem hj, h⟩
theorem sameN_sym (a b : ByteArray) : sameN a b = sameN b a := by
  unfold sameN
  by_cases h : lowB a = lowB b
  · rw [decide_eq_true h, decide_eq_true h.symm]
  · rw [decide_eq_false h, decide_eq_false (fun e => h e.symm)]
set_option maxRecDepth 100000 in
set_option maxHeartbeats 4000000 in
theorem has_any (G : Nat → Prop) (A : Option Addr) (n c : Nat) (fx : List Value) (l : List Fd) (nm : ByteArray) (w : World) (hr : RowG w G 2 A n fx) (hf : FV w G fx l) (hn : n = l.length) (hN : n ≤ 1048576) (hs : ∀ f ∈ l, f.n.size ≤ 1048576) (hm : nm.size ≤ 1048576) :
    Calls Tryd.prog 51 #[.slice A n c, .string nm] w fun e w' => e = .returned (.bool (hasN l nm)) ∧ Below w.heap.size w w' := by
  obtain ⟨bb, hbb⟩ : ∃ bb, bb = hasN l nm := ⟨_, rfl⟩
  rw [← hbb]
  have HNO : Hid ((∀ j (hj : j < l.length), sameN l[j].n nm = false) → bb = false) := Lib.hid (fun h => by rw [hbb]; exact hasN_no h)
  have HYES : Hid (∀ j (hj : j < l.length), sameN l[j].n nm = true → bb = true) := Lib.hid (fun j hj h => by rw [hbb]; exact hasN_yes hj h)
  have HSM : Hid (∀ (x : ByteArray) (W : World), x.size ≤ 1048576 → Calls Tryd.prog 20 #[.string x, .string nm] W fun e w' => e = .returned (.bool (sameN x nm)) ∧ Below W.heap.size W w') := Lib.hid (fun x W h => SSame_any x nm W (by omega) (by omega))
  have HR := Lib.hid hr
  have HF := Lib.hid hf
  have HN := Lib.hid hn
  have HS := Lib.hid hs
  clear hbb hr hf hn hs hm
  go_enter Tryd.func51, Tryd.ntmps51
  go_wp2_with fail
  go_loopw [9] (fun t wr => ∃ i : Nat, t = .int .i64 (i : Int) ∧ i ≤ n ∧ Hid (∀ j (hj : j < l.length), j < i → sameN l[j].n nm = false) ∧ Hid (Below w.heap.size w wr)) (fun t _ => n - (match t with | .int _ x => x.toNat | _ => 0))
  case atStart => exact ⟨0, rfl, Nat.zero_le _, Lib.hid (fun j _ hj => by omega), Lib.hid (Below.refl _ _)⟩
  case round =>
    obtain ⟨i, rfl, hi, HI, HB⟩ := hrel
    by_cases hlt : i < n
    case neg =>
      have hln : ¬ (i : Int) < (n : Int) := by omega
      have HE : Hid (bb = false) := Lib.hid (HNO.out (fun j hj => HI.out j hj (by have := HN.out; omega)))
      go_wp2_with fail
      go_ret
      exact ⟨by rw [HE.out]; rfl, HB.out⟩
    have hln : (i : Int) < (n : Int) := by omega
    have hil : i < l.length := by have := HN.out; omega
    obtain ⟨g, o, rfl, hg, _, hc⟩ := HR.out.2 (by omega)
    obtain ⟨e1, lv, e2, lA, lc, rfl, _⟩ := HF.out.at_ i hil
    obtain ⟨lk, hlk⟩ : ∃ lk, lk = l[i].ls.length := ⟨_, rfl⟩
    rw [← hlk] at e2
    have c1 := hc _ _ e1
    have c2 := hc _ _ e2
    have k1 : wr.cell? ⟨g, o + i * 2, none⟩ = some (.string l[i].n) := (HB.out.cell (p := ⟨g, o + i * 2, none⟩) hg).trans c1
    have k2 : wr.cell? ⟨g, o + i * 2 + 1, none⟩ = some (.slice lA lk lc) := (HB.out.cell (p := ⟨g, o + i * 2 + 1, none⟩) hg).trans c2
    obtain ⟨x, hx⟩ : ∃ x, x = l[i].n := ⟨_, rfl⟩
    rw [← hx] at k1
    have hxs : x.size ≤ 1048576 := by rw [hx]; exact HS.out _ (List.getElem_mem hil)
    have HX := Lib.hid hx
    obtain ⟨bs, hbs⟩ : ∃ bs, bs = sameN x nm := ⟨_, rfl⟩
    have hsm := fun W => HSM.out x W hxs
    rw [← hbs] at hsm
    have HSX := Lib.hid hsm
    have HBS := Lib.hid hbs
    clear c1 c2 e1 e2 hc hx hbs hsm hlk
    go_upto_region 4 with fail
    obtain ⟨b, hb⟩ : ∃ b, b = wr.heap.size := ⟨_, rfl⟩
    obtain ⟨w1, hw1⟩ : ∃ w1, w1 = wr.alloc (.cells #[.string x, .slice lA lk lc] 40) := ⟨_, rfl⟩
    have hbk : Blk w1 b 40 #[.string x, .slice lA lk lc] := by rw [hw1, hb]; exact Blk.new wr _ _
    have kb : w1.cell? ⟨b, 0, none⟩ = some (.string x) := hbk.cell 0
    have HB1 : Hid (Below w.heap.size w w1) := Lib.hid (by rw [hw1]; exact HB.out.alloc HB.out.size _)
    rw [← hw1, ← hb]
    clear hbk hw1 hb k1 k2 HB
    cases bs with
    | false =>
      have HI2 : Hid (∀ j (hj : j < l.length), j < i + 1 → sameN l[j].n nm = false) := Lib.hid (fun j hj h => by
        by_cases e : j = i
        · subst e; rw [← HX.out, ← HBS.out]
        · exact HI.out j hj (by omega))
      go_wp2_with (go_at_call 20; refine (HSX.out _).mono ?_; rintro e w2 ⟨rfl, hb2⟩)
      refine ⟨⟨i + 1, by go_num, by omega, HI2, Lib.hid (HB1.out.trans (hb2.mono HB1.out.size))⟩, ?_⟩
      show n - ((i : Int) + 1).toNat < n - (i : Int).toNat
      omega
    | true =>
      have HE : Hid (bb = true) := Lib.hid (HYES.out i hil (by rw [← HX.out, ← HBS.out]))
      go_wp2_with (go_at_call 20; refine (HSX.out _).mono ?_; rintro e w2 ⟨rfl, hb2⟩)
      go_ret
      exact ⟨by rw [HE.out]; rfl, HB1.out.trans (hb2.mono HB1.out.size)⟩
end Go.Proofs.YtjkaigfpjebfbaaDoor
