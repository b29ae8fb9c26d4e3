/- chandlerref4.Same, fieldName; stanza.name, white, trimEnd. -/
import Derived.Test.YtjkaigfpjebfbaaDoorSf1
import Derived.Test.YtjkaigfpjebfbaaDoorShelfE
import Derived.Test.YtjkaigfpjebfbaaDoorShelfD
import Derived.Deep.QuietTactic
import Derived.BigQuiet
namespace Go.Proofs.YtjkaigfpjebfbaaDoor
open Go.RowKit
set_option linter.unusedVariables false

theorem below_drewB (B : Nat) (w : World) (m : Nat) : Below B w (w.drewN m) := ⟨rfl, rfl, rfl, Nat.le_refl _, fun _ _ => rfl⟩
theorem beq_u8 (a b : Nat) : (((a : Int) != (b : Int)) = true) ↔ a ≠ b := by rw [bne_iff_ne]; omega
set_option maxRecDepth 100000 in
set_option maxHeartbeats 2000000 in
theorem RSame_any (a b : ByteArray) (w : World) (ha : a.size ≤ 4294967296) (hb : b.size ≤ 4294967296) :
    Calls Tryd.prog 17 #[.string a, .string b] w fun e w' => e = .returned (.bool (sameN a b)) ∧ Below w.heap.size w w' := by
  by_cases hl : a.size = b.size
  case neg =>
    have HE := Lib.hid (sameN_len hl)
    have q1 : ((a.size : Int) != (b.size : Int)) = true := (beq_u8 _ _).2 hl
    clear hl
    go_enter Tryd.func17, Tryd.ntmps17
    go_wp2_with fail
    go_ret
    exact ⟨by rw [HE.out]; rfl, Below.refl _ _⟩
  have HNO : Hid (∀ j, j < a.size → lowU (byteAt a j) ≠ lowU (byteAt b j) → sameN a b = false) := Lib.hid (fun j hj h => sameN_no hj (by omega) h)
  have HYES : Hid ((∀ j, j < a.size → lowU (byteAt a j) = lowU (byteAt b j)) → sameN a b = true) := Lib.hid (fun h => sameN_yes hl h)
  have HLW : Hid (∀ (x : Nat) (W : World), x < 256 → Calls Tryd.prog 30 #[.int .u8 (x : Int)] W fun e w' => e = .returned (.int .u8 ((lowU x : Nat) : Int)) ∧ W = w') := Lib.hid (fun x W h => refLow_any x W h)
  obtain ⟨n, hn⟩ : ∃ n, n = a.size := ⟨_, rfl⟩
  have h1 : a.size = n := hn.symm
  have h2 : b.size = n := by omega
  rw [← hn] at HNO HYES ha
  have HN1 := Lib.hid h1
  have HN2 := Lib.hid h2
  obtain ⟨bb, hbb⟩ : ∃ bb, bb = sameN a b := ⟨_, rfl⟩
  rw [← hbb] at HNO HYES ⊢
  clear hl hn hbb hb
  have q1 : ((n : Int) != (n : Int)) = false := by simp
  go_enter Tryd.func17, Tryd.ntmps17
  go_wp2_with fail
  go_loopw [13] (fun t wr => ∃ i : Nat, t = .int .i64 (i : Int) ∧ i ≤ n ∧ Hid (∀ j, j < i → lowU (byteAt a j) = lowU (byteAt b j)) ∧ Hid (Below w.heap.size w wr)) (fun t _ => n - (match t with | .int _ x => x.toNat | _ => 0))
  case atStart => exact ⟨0, rfl, Nat.zero_le _, Lib.hid (fun j hj => by omega), Lib.hid (Below.refl _ _)⟩
  case round =>
    obtain ⟨i, rfl, hi, HI, HB⟩ := hrel
    by_cases hlt : i < n
    case neg =>
      have hln : ¬ (i : Int) < (n : Int) := by omega
      have HE : Hid (bb = true) := Lib.hid (HYES.out (fun j hj => HI.out j (by omega)))
      go_wp2_with fail
      go_ret
      exact ⟨by rw [HE.out]; rfl, HB.out⟩
    have hln : (i : Int) < (n : Int) := by omega
    have i1 : i < a.size := by omega
    have i2 : i < b.size := by omega
    have g1 := byteAt_get a i i1
    have g2 := byteAt_get b i i2
    obtain ⟨x, hx⟩ : ∃ x, x = byteAt a i := ⟨_, rfl⟩
    obtain ⟨y, hy⟩ : ∃ y, y = byteAt b i := ⟨_, rfl⟩
    have x256 : x < 256 := by rw [hx]; exact byteAt_lt _ _
    have y256 : y < 256 := by rw [hy]; exact byteAt_lt _ _
    rw [← hx] at g1
    rw [← hy] at g2
    have HXY : Hid (lowU (byteAt a i) = lowU x ∧ lowU (byteAt b i) = lowU y) := Lib.hid ⟨by rw [hx], by rw [hy]⟩
    have g1' : ((a[i]'i1).toNat : Nat) = x := g1.symm
    have g2' : ((b[i]'i2).toNat : Nat) = y := g2.symm
    have hln1 : (i : Int) < (a.size : Int) := by omega
    have hln2 : (i : Int) < (b.size : Int) := by omega
    have hz : (0 : Int) ≤ (i : Int) := by omega
    clear g1 g2 hx hy
    by_cases he : lowU x = lowU y
    · have q2 : (((lowU x : Nat) : Int) != ((lowU y : Nat) : Int)) = false := by rw [he]; simp
      have HI2 : Hid (∀ j, j < i + 1 → lowU (byteAt a j) = lowU (byteAt b j)) := Lib.hid (fun j hj => by
        by_cases e : j = i
        · rw [e, HXY.out.1, HXY.out.2, he]
        · exact HI.out j (by omega))
      clear he
      go_wp2_with fail
      go_quiet ((go_at_call 30; exact ((HLW.out _ _ (by assumption)).mono fun e w' h => ⟨h.1, _, h.2.symm⟩)))
      go_wp2_with fail
      refine ⟨⟨i + 1, by go_num, by omega, HI2, Lib.hid (HB.out.trans (below_drewB _ _ _))⟩, ?_⟩
      show n - ((i : Int) + 1).toNat < n - (i : Int).toNat
      omega
    · have q2 : (((lowU x : Nat) : Int) != ((lowU y : Nat) : Int)) = true := (beq_u8 _ _).2 he
      have HE : Hid (bb = false) := Lib.hid (HNO.out i hlt (by rw [HXY.out.1, HXY.out.2]; exact he))
      clear he
      go_wp2_with fail
      go_quiet ((go_at_call 30; exact ((HLW.out _ _ (by assumption)).mono fun e w' h => ⟨h.1, _, h.2.symm⟩)))
      go_wp2_with fail
      go_ret
      exact ⟨by rw [HE.out]; rfl, HB.out.trans (below_drewB _ _ _)⟩
set_option maxRecDepth 100000 in
set_option maxHeartbeats 2000000 in
theorem fieldName_any (s : ByteArray) (w : World) (hs : s.size ≤ 4294967296) :
    Calls Tryd.prog 29 #[.string s] w fun e w' => e = .returned (.int .i64 (if nameN s = 0 ∨ nameN s = s.size then -1 else (nameN s : Int))) ∧ w = w' := by
  obtain ⟨z, hz⟩ : ∃ z : Int, z = if nameN s = 0 ∨ nameN s = s.size then -1 else (nameN s : Int) := ⟨_, rfl⟩
  rw [← hz]
  have H0 : Hid (nameN s = 0 → z = -1) := Lib.hid (fun h => by rw [hz, if_pos (.inl h)])
  have H1 : Hid (nameN s = s.size → z = -1) := Lib.hid (fun h => by rw [hz, if_pos (.inr h)])
  have H2 : Hid (∀ i, nameN s = i → 0 < i → i < s.size → z = (i : Int)) := Lib.hid (fun i h h0 h1 => by rw [hz, if_neg (by omega), h])
  obtain ⟨n, hn⟩ : ∃ n, n = s.size := ⟨_, rfl⟩
  have hns : s.size = n := hn.symm
  have HN := Lib.hid hn
  rw [← hn] at hs
  clear hz hn
  obtain ⟨wo, rfl⟩ : ∃ wo : World, wo = w := ⟨_, rfl⟩
  go_enter Tryd.func29, Tryd.ntmps29
  go_wp2_with fail
  go_loopw [7] (fun t wr => ∃ (i f : Nat), t = .int .i64 (i : Int) ∧ i ≤ n ∧ wr = wo ∧ Hid (nmF s f i = nameN s) ∧ n ≤ i + f) (fun t _ => n - (match t with | .int _ x => x.toNat | _ => 0))
  case atStart => exact ⟨0, s.size, rfl, Nat.zero_le _, rfl, Lib.hid rfl, by omega⟩
  case round =>
    obtain ⟨i, f, rfl, hi, rfl, HF, hif⟩ := hrel
    by_cases hlt : i < n
    case neg =>
      have hln : ¬ (i : Int) < (n : Int) := by omega
      have HE : Hid (z = -1) := Lib.hid (H1.out (by rw [← HF.out, nmF_end s f i (by omega)]))
      go_wp2_with fail
      go_ret
      exact ⟨by rw [HE.out]; rfl, rfl⟩
    have hln : (i : Int) < (n : Int) := by omega
    obtain ⟨f, rfl⟩ : ∃ f', f = f' + 1 := ⟨f - 1, by omega⟩
    have his : i < s.size := by omega
    have hst := nmF_step s f i his
    rw [HF.out] at hst
    have g1 := byteAt_get s i his
    obtain ⟨x, hx⟩ : ∃ x, x = byteAt s i := ⟨_, rfl⟩
    have x256 : x < 256 := by rw [hx]; exact byteAt_lt _ _
    rw [← hx] at g1 hst
    have g1' : ((s[i]'his).toNat : Nat) = x := g1.symm
    have HST := Lib.hid hst
    clear hst g1 hx HF
    by_cases h58 : x = 58
    · subst h58
      by_cases h0 : i = 0
      · subst h0
        have HE : Hid (z = -1) := Lib.hid (H0.out (by rw [HST.out, if_pos rfl]))
        go_wp2_with fail
        go_ret
        exact ⟨by rw [HE.out]; rfl, rfl⟩
      · have q0 : ((i : Int) == 0) = false := by rw [beq_eq_false_iff_ne]; omega
        have HE : Hid (z = (i : Int)) := Lib.hid (H2.out i (by rw [HST.out, if_pos rfl]) (by omega) (by omega))
        clear h0
        go_wp2_with fail
        go_ret
        exact ⟨by rw [HE.out]; rfl, rfl⟩
    have q58 : ((x : Int) == 58) = false := by rw [beq_eq_false_iff_ne]; omega
    by_cases hbad : x < 33 ∨ 126 < x ∨ (i = 0 ∧ (x = 35 ∨ x = 45))
    · have HE : Hid (z = -1) := Lib.hid (H0.out (by rw [HST.out, if_neg h58, if_pos hbad]))
      by_cases b1 : x < 33
      · have q1 : decide ((x : Int) < 33) = true := by (simp <;> omega)
        clear hbad h58
        go_wp2_with fail
        go_ret
        exact ⟨by rw [HE.out]; rfl, rfl⟩
      have q1 : decide ((x : Int) < 33) = false := by (simp <;> omega)
      by_cases b2 : 126 < x
      · have q2 : decide ((126 : Int) < (x : Int)) = true := by (simp <;> omega)
        clear hbad h58
        go_wp2_with fail
        go_ret
        exact ⟨by rw [HE.out]; rfl, rfl⟩
      have q2 : decide ((126 : Int) < (x : Int)) = false := by (simp <;> omega)
      obtain ⟨h0, h3⟩ : i = 0 ∧ (x = 35 ∨ x = 45) := by omega
      subst h0
      rcases h3 with rfl | rfl
      all_goals
        clear hbad h58
        go_wp2_with fail
        go_ret
        exact ⟨by rw [HE.out]; rfl, rfl⟩
    · have HF2 : Hid (nmF s f (i + 1) = nameN s) := Lib.hid (by rw [HST.out, if_neg h58, if_neg hbad])
      have q1 : decide ((x : Int) < 33) = false := by (simp <;> omega)
      have q2 : decide ((126 : Int) < (x : Int)) = false := by (simp <;> omega)
      by_cases h0 : i = 0
      · subst h0
        have q3 : ((x : Int) == 35) = false := by rw [beq_eq_false_iff_ne]; omega
        have q4 : ((x : Int) == 45) = false := by rw [beq_eq_false_iff_ne]; omega
        clear hbad h58
        go_wp2_with fail
        refine ⟨⟨1, f, rfl, by omega, trivial, HF2, by omega⟩, ?_⟩
        show n - 1 < n - 0
        omega
      · have q0 : ((i : Int) == 0) = false := by rw [beq_eq_false_iff_ne]; omega
        clear hbad h58 h0
        go_wp2_with fail
        refine ⟨⟨i + 1, f, by go_num, by omega, trivial, HF2, by omega⟩, ?_⟩
        show n - ((i : Int) + 1).toNat < n - (i : Int).toNat
        omega
end Go.Proofs.YtjkaigfpjebfbaaDoor
