/- stanza.name, white, trimEnd. -/
import Derived.Test.YtjkaigfpjebfbaaDoorSf2
namespace Go.Proofs.YtjkaigfpjebfbaaDoor
open Go.RowKit
set_option linter.unusedVariables false

theorem wU_set (c : UInt8) : ([32, 9] : List UInt8).contains c = wU c := by
  have key : ∀ c : Fin 256, ([32, 9] : List UInt8).contains (UInt8.ofNat c.val) = wU (UInt8.ofNat c.val) := by decide +kernel
  have h := key ⟨c.toNat, c.toNat_lt⟩
  have e : UInt8.ofNat c.toNat = c := by simp
  simp only [e] at h
  exact h
theorem trimR_list (s : ByteArray) : Lib.trimRightS (bl s) [32, 9] = bl (trimR s) := by
  have hf := hi_facts s s.size
  have hle := hiB_le s s.size
  have hW := white_of s (hi s) s.size (fun k h1 h2 => hf.1 k h1 h2)
  have e1 : bl s = (bl s).take (hi s) ++ (bl s).drop (hi s) := (List.take_append_drop _ _).symm
  have e2 : ((bl s).drop (hi s)).take (s.size - hi s) = (bl s).drop (hi s) := List.take_of_length_le (by rw [List.length_drop, bl_len]; exact Nat.le_refl _)
  rw [e2] at hW
  have e3 : bl (trimR s) = (bl s).take (hi s) := by unfold trimR; rw [bl_part]; simp
  rw [e3]
  unfold Lib.trimRightS
  have e4 : (fun x => ([32, 9] : List UInt8).contains x) = wU := funext wU_set
  rw [e4]
  conv => lhs; rw [e1, List.reverse_append]
  rw [drop_white ((bl s).drop (hi s)).reverse _ (fun c hc => hW c (List.mem_reverse.1 hc)) (fun c r e => ?_), List.reverse_reverse]
  have h0 : 0 < hi s := by
    rcases Nat.eq_zero_or_pos (hi s) with h | h
    · rw [h] at e; cases e
    · exact h
  have hl := hf.2 h0
  have e5 := congrArg List.reverse e
  rw [List.reverse_reverse, List.reverse_cons] at e5
  have hlen : ((bl s).take (hi s)).length = hi s := by rw [List.length_take, bl_len]; unfold hi; omega
  have e6 : ((bl s).take (hi s))[hi s - 1]? = some c := by
    rw [e5]
    have : hi s - 1 = r.reverse.length := by
      have := congrArg List.length e5
      rw [hlen, List.length_append] at this
      simp at this ⊢
      omega
    rw [this]
    simp
  rw [List.getElem?_take, if_pos (by omega), List.getElem?_eq_getElem (by rw [bl_len]; unfold hi at h0 ⊢; omega)] at e6
  injection e6 with e6
  unfold wU
  rw [← e6, bl_get]
  exact hl
set_option maxRecDepth 100000 in
theorem trimEnd_any (s : ByteArray) (w : World) (hs : s.size ≤ 9223372036854775807) :
    Calls Tryd.prog 55 #[.string s] w fun e w' => e = .returned (.string (trimR s)) ∧ Below w.heap.size w w' := by
  have h := Tryd.strings_TrimRight s ⟨#[32, 9]⟩ w hs (by decide) (ascii_of_all (by decide))
  have e : (⟨(Lib.trimRightS s.data.toList (⟨#[32, 9]⟩ : ByteArray).data.toList).toArray⟩ : ByteArray) = trimR s := bl_inj (trimR_list s)
  rw [e] at h
  have H := Lib.hid h
  clear h e
  go_enter Tryd.func55, Tryd.ntmps55
  go_wp2_with fail
  refine H.out.mono ?_
  rintro e w1 ⟨rfl, hb1⟩
  go_wp2_with fail
  go_ret
  exact ⟨rfl, hb1⟩
theorem isWh_eq (s : ByteArray) : isWh s = (decide (0 < s.size) && (byteAt s 0 == 32 || byteAt s 0 == 9)) := rfl
set_option maxRecDepth 100000 in
theorem swhite_any (s : ByteArray) (w : World) (hs : s.size ≤ 9223372036854775807) :
    Calls Tryd.prog 40 #[.string s] w fun e w' => e = .returned (.bool (isWh s)) ∧ w = w' := by
  by_cases h0 : 0 < s.size
  case neg =>
    have HE : Hid (isWh s = false) := Lib.hid (by unfold isWh; rw [decide_eq_false h0]; rfl)
    have he : s.toList.isEmpty = true := by
      rw [ByteArray.toList_eq]
      obtain ⟨⟨l⟩⟩ := s
      cases l with
      | nil => rfl
      | cons x r => exact absurd (show 0 < r.length + 1 by omega) h0
    clear h0
    go_enter Tryd.func40, Tryd.ntmps40
    go_wp2_with fail
    go_ret
    exact ⟨by rw [HE.out]; rfl, rfl⟩
  have he : s.toList.isEmpty = false := by
    rw [ByteArray.toList_eq]
    obtain ⟨⟨l⟩⟩ := s
    cases l with
    | nil => exact absurd h0 (by show ¬ 0 < 0; omega)
    | cons x r => rfl
  have g := byteAt_get s 0 h0
  obtain ⟨x, hx⟩ : ∃ x, x = byteAt s 0 := ⟨_, rfl⟩
  have HW : Hid (isWh s = (x == 32 || x == 9)) := Lib.hid (by rw [isWh_eq, decide_eq_true h0, hx]; rfl)
  rw [← hx] at g
  have g' : ((s[0]'h0).toNat : Nat) = x := g.symm
  have hz : (0 : Int) < (s.size : Int) := by omega
  clear g hx
  by_cases h1 : x = 32
  · subst h1
    have HE : Hid (isWh s = true) := Lib.hid (by rw [HW.out]; rfl)
    go_enter Tryd.func40, Tryd.ntmps40
    go_wp2_with fail
    go_ret
    exact ⟨by rw [HE.out]; rfl, rfl⟩
  · have q1 : ((x : Int) == 32) = false := by rw [beq_eq_false_iff_ne]; omega
    by_cases h2 : x = 9
    · subst h2
      have HE : Hid (isWh s = true) := Lib.hid (by rw [HW.out]; rfl)
      go_enter Tryd.func40, Tryd.ntmps40
      go_wp2_with fail
      go_ret
      exact ⟨by rw [HE.out]; rfl, rfl⟩
    · have q2 : ((x : Int) == 9) = false := by rw [beq_eq_false_iff_ne]; omega
      have HE : Hid (isWh s = false) := Lib.hid (by
        rw [HW.out, beq_eq_false_iff_ne.2 h1, beq_eq_false_iff_ne.2 h2]; rfl)
      clear h1 h2
      go_enter Tryd.func40, Tryd.ntmps40
      go_wp2_with fail
      go_ret
      exact ⟨by rw [HE.out]; rfl, rfl⟩
set_option maxRecDepth 100000 in
set_option maxHeartbeats 4000000 in
theorem name_any (s : ByteArray) (w : World) (hs : s.size ≤ 9223372036854775807) :
    Calls Tryd.prog 49 #[.string s] w fun e w' => e = .returned (.int .i64 (nameN s : Int)) ∧ Below w.heap.size w w' := by
  go_enter Tryd.func49, Tryd.ntmps49
  go_wp2
  go_loopw [3] (fun _ wr => ∃ (pos fuel : Nat), wr.heap[w.heap.size]? = some (.stringIter s pos) ∧ Below w.heap.size w wr ∧ Hid (nmF s fuel pos = nameN s) ∧ s.size ≤ pos + fuel) (fun _ wr => s.size - wr.iterPos w.heap.size)
  case atStart => exact ⟨0, s.size, World.iter_heap w s 0, (Below.refl _ _).alloc (Nat.le_refl _) _, Lib.hid rfl, by omega⟩
  case round =>
    obtain ⟨pos, fuel, hit, hbw, HS, hb⟩ := hrel
    have hpos0 := iterPos_of hit
    by_cases hp : pos < s.size
    case neg =>
      have hnx : ∀ ty, (Instr.next (.pointer (some ⟨w.heap.size, 0, none⟩)) true ty).run Tryd.prog wr = _ := fun ty => Lib.run_next_end_at wr w.heap.size s pos ty hit hp
      have HE : Hid (nameN s = s.size) := Lib.hid (by rw [← HS.out, nmF_end s fuel pos hp])
      have HBw := Lib.hid hbw
      clear hit hbw hp HS
      go_wp2_with fail
      go_ret
      exact ⟨by rw [HE.out]; rfl, HBw.out⟩
    have hnx : ∀ ty, (Instr.next (.pointer (some ⟨w.heap.size, 0, none⟩)) true ty).run Tryd.prog wr = _ := fun ty => Lib.run_next_any_at wr w.heap.size s pos ty hit hp
    have hwd := Lib.decode_width_pos s pos hp
    have hin := decode_in s pos hp
    obtain ⟨fuel, rfl⟩ : ∃ f', fuel = f' + 1 := ⟨fuel - 1, by omega⟩
    have hit2 := Lib.iterAt_heap wr w.heap.size s pos (pos + (Utf8.decode s pos).2) hit
    have hbw2 := Lib.below_iterAt hbw (k := w.heap.size) (Nat.le_refl _) s (pos + (Utf8.decode s pos).2)
    obtain ⟨W1, hW1⟩ : ∃ W1, W1 = wr.iterAt w.heap.size s (pos + (Utf8.decode s pos).2) := ⟨_, rfl⟩
    rw [← hW1] at hnx hit2 hbw2
    have HHit := Lib.hid hit2
    have HBw := Lib.hid hbw2
    have hst := nmF_step s fuel pos hp
    rw [HS.out] at hst
    have hra := rune_at s pos
    have hle := rune_le s pos
    have HPos := Lib.hid hpos0
    obtain ⟨x, hx⟩ : ∃ x, x = byteAt s pos := ⟨_, rfl⟩
    rw [← hx] at hst hra
    have HST := Lib.hid hst
    clear hW1 hit hbw hit2 hbw2 hpos0 hst HS
    obtain ⟨c, hc⟩ : ∃ c, c = (Utf8.decode s pos).1 := ⟨_, rfl⟩
    obtain ⟨n, hn⟩ : ∃ n, n = (Utf8.decode s pos).2 := ⟨_, rfl⟩
    have hra2 : (x < 128 ∧ c = x ∧ n = 1) ∨ (128 ≤ x ∧ 128 ≤ c) := by
      rcases hra with ⟨h1, e⟩ | h2
      · refine .inl ⟨h1, ?_, ?_⟩
        · rw [hc, e]
        · rw [hn, e]
      · exact .inr ⟨h2.1, by rw [hc]; exact h2.2⟩
    rw [← hc] at hnx hle
    rw [← hn] at hwd hin HHit
    clear hc hn hra hx
    by_cases h58 : c = 58
    · have e : x = 58 ∧ n = 1 := by omega
      have HE : Hid (nameN s = pos) := Lib.hid (by rw [HST.out, if_pos e.1])
      subst h58
      clear e hra2
      go_wp2_with fail
      go_ret
      exact ⟨by rw [HE.out]; rfl, HBw.out⟩
    have q58 : ((c : Int) == 58) = false := by rw [beq_eq_false_iff_ne]; omega
    by_cases hbad : c < 33 ∨ 126 < c ∨ (pos = 0 ∧ (c = 35 ∨ c = 45))
    · have HE : Hid (nameN s = 0) := Lib.hid (by rw [HST.out, if_neg (by omega), if_pos (by omega)])
      by_cases b1 : c < 33
      · have q1 : decide ((c : Int) < 33) = true := by (simp <;> omega)
        clear hbad h58 hra2
        go_wp2_with fail
        go_ret
        exact ⟨by rw [HE.out]; rfl, HBw.out⟩
      have q1 : decide ((c : Int) < 33) = false := by (simp <;> omega)
      by_cases b2 : 126 < c
      · have q2 : decide ((126 : Int) < (c : Int)) = true := by (simp <;> omega)
        clear hbad h58 hra2
        go_wp2_with fail
        go_ret
        exact ⟨by rw [HE.out]; rfl, HBw.out⟩
      have q2 : decide ((126 : Int) < (c : Int)) = false := by (simp <;> omega)
      obtain ⟨h0, h3⟩ : pos = 0 ∧ (c = 35 ∨ c = 45) := by omega
      subst h0
      rcases h3 with rfl | rfl
      all_goals
        clear hbad h58 hra2
        go_wp2_with fail
        go_ret
        exact ⟨by rw [HE.out]; rfl, HBw.out⟩
    · have HF2 : Hid (nmF s fuel (pos + 1) = nameN s) := Lib.hid (by rw [HST.out, if_neg (by omega), if_neg (by omega)])
      have hone : n = 1 := by omega
      rw [hone] at HHit
      have q1 : decide ((c : Int) < 33) = false := by (simp <;> omega)
      have q2 : decide ((126 : Int) < (c : Int)) = false := by (simp <;> omega)
      by_cases h0 : pos = 0
      · subst h0
        have q3 : ((c : Int) == 35) = false := by rw [beq_eq_false_iff_ne]; omega
        have q4 : ((c : Int) == 45) = false := by rw [beq_eq_false_iff_ne]; omega
        clear hbad h58 hra2 hone
        go_wp2_with fail
        go_roundw
        case rel => exact ⟨1, fuel, HHit.out, HBw.out, HF2, by omega⟩
        case measure =>
          rw [iterPos_of HHit.out, HPos.out]
          omega
      · have z : ((pos : Int) == 0) = false := by (simp <;> omega)
        clear hbad h58 hra2 h0 hone
        go_wp2_with fail
        go_roundw
        case rel => exact ⟨pos + 1, fuel, HHit.out, HBw.out, HF2, by omega⟩
        case measure =>
          rw [iterPos_of HHit.out, HPos.out]
          omega
end Go.Proofs.YtjkaigfpjebfbaaDoor
