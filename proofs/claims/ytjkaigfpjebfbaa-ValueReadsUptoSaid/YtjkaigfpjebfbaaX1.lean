/- Put together: chandlerref4.Same; The reference's kind of a field, plain: as value.field's; chandlerref9.Sort. -/
import Derived.Test.YtjkaigfpjebfbaaSf1
import Derived.Test.YtjkaigfpjebfbaaVf
import Derived.Test.YtjkaigfpjebfbaaVb
import Derived.Deep.QuietTactic
import Derived.BigQuiet
import Derived.Deep.Cut
import Derived.Deep.DeepCutAuto
import Derived.Deep.CutRange
import Derived.KernelRfl
/- chandlerref4.Same. -/
namespace Go.Proofs.Ytjkaigfpjebfbaa
open Go.RowKit
set_option linter.unusedVariables false

theorem below_drewB (B : Nat) (w : World) (m : Nat) : Below B w (w.drewN m) := ⟨rfl, rfl, rfl, Nat.le_refl _, fun _ _ => rfl⟩
theorem beq_u8 (a b : Nat) : (((a : Int) != (b : Int)) = true) ↔ a ≠ b := by rw [bne_iff_ne]; omega
set_option maxRecDepth 100000 in
set_option maxHeartbeats 2000000 in
theorem RSame_any (a b : ByteArray) (w : World) (ha : a.size ≤ 4294967296) (hb : b.size ≤ 4294967296) :
    Calls Try.prog 61 #[.string a, .string b] w fun e w' => e = .returned (.bool (sameN a b)) ∧ Below w.heap.size w w' := by
  by_cases hl : a.size = b.size
  case neg =>
    have HE := Lib.hid (sameN_len hl)
    have q1 : ((a.size : Int) != (b.size : Int)) = true := (beq_u8 _ _).2 hl
    clear hl
    go_enter Try.func61, Try.ntmps61
    go_wp2_with fail
    go_ret
    exact ⟨by rw [HE.out]; rfl, Below.refl _ _⟩
  have HNO : Hid (∀ j, j < a.size → lowU (byteAt a j) ≠ lowU (byteAt b j) → sameN a b = false) := Lib.hid (fun j hj h => sameN_no hj (by omega) h)
  have HYES : Hid ((∀ j, j < a.size → lowU (byteAt a j) = lowU (byteAt b j)) → sameN a b = true) := Lib.hid (fun h => sameN_yes hl h)
  have HLW : Hid (∀ (x : Nat) (W : World), x < 256 → Calls Try.prog 80 #[.int .u8 (x : Int)] W fun e w' => e = .returned (.int .u8 ((lowU x : Nat) : Int)) ∧ W = w') := Lib.hid (fun x W h => refLow_any x W h)
  obtain ⟨n, hn⟩ : ∃ n, n = a.size := ⟨_, rfl⟩
  have h1 : a.size = n := hn.symm
  have h2 : b.size = n := by omega
  rw [← hn] at HNO HYES ha
  have HN1 := Lib.hid h1
  have HN2 := Lib.hid h2
  obtain ⟨bb, hbb⟩ : ∃ bb, bb = sameN a b := ⟨_, rfl⟩
  rw [← hbb] at HNO HYES ⊢
  clear hl hn hbb hb
  have q1 : ((n : Int) != (n : Int)) = false := by simp
  go_enter Try.func61, Try.ntmps61
  go_wp2_with fail
  go_loopw [13] (fun t wr => ∃ i : Nat, t = .int .i64 (i : Int) ∧ i ≤ n ∧ Hid (∀ j, j < i → lowU (byteAt a j) = lowU (byteAt b j)) ∧ Hid (Below w.heap.size w wr)) (fun t _ => n - (match t with | .int _ x => x.toNat | _ => 0))
  case atStart => exact ⟨0, rfl, Nat.zero_le _, Lib.hid (fun j hj => by omega), Lib.hid (Below.refl _ _)⟩
  case round =>
    obtain ⟨i, rfl, hi, HI, HB⟩ := hrel
    by_cases hlt : i < n
    case neg =>
      have hln : ¬ (i : Int) < (n : Int) := by omega
      have HE : Hid (bb = true) := Lib.hid (HYES.out (fun j hj => HI.out j (by omega)))
      go_wp2_with fail
      go_ret
      exact ⟨by rw [HE.out]; rfl, HB.out⟩
    have hln : (i : Int) < (n : Int) := by omega
    have i1 : i < a.size := by omega
    have i2 : i < b.size := by omega
    have g1 := byteAt_get a i i1
    have g2 := byteAt_get b i i2
    obtain ⟨x, hx⟩ : ∃ x, x = byteAt a i := ⟨_, rfl⟩
    obtain ⟨y, hy⟩ : ∃ y, y = byteAt b i := ⟨_, rfl⟩
    have x256 : x < 256 := by rw [hx]; exact byteAt_lt _ _
    have y256 : y < 256 := by rw [hy]; exact byteAt_lt _ _
    rw [← hx] at g1
    rw [← hy] at g2
    have HXY : Hid (lowU (byteAt a i) = lowU x ∧ lowU (byteAt b i) = lowU y) := Lib.hid ⟨by rw [hx], by rw [hy]⟩
    have g1' : ((a[i]'i1).toNat : Nat) = x := g1.symm
    have g2' : ((b[i]'i2).toNat : Nat) = y := g2.symm
    have hln1 : (i : Int) < (a.size : Int) := by omega
    have hln2 : (i : Int) < (b.size : Int) := by omega
    have hz : (0 : Int) ≤ (i : Int) := by omega
    clear g1 g2 hx hy
    by_cases he : lowU x = lowU y
    · have q2 : (((lowU x : Nat) : Int) != ((lowU y : Nat) : Int)) = false := by rw [he]; simp
      have HI2 : Hid (∀ j, j < i + 1 → lowU (byteAt a j) = lowU (byteAt b j)) := Lib.hid (fun j hj => by
        by_cases e : j = i
        · rw [e, HXY.out.1, HXY.out.2, he]
        · exact HI.out j (by omega))
      clear he
      go_wp2_with fail
      go_quiet ((go_at_call 80; exact ((HLW.out _ _ (by assumption)).mono fun e w' h => ⟨h.1, _, h.2.symm⟩)))
      go_wp2_with fail
      refine ⟨⟨i + 1, by go_num, by omega, HI2, Lib.hid (HB.out.trans (below_drewB _ _ _))⟩, ?_⟩
      show n - ((i : Int) + 1).toNat < n - (i : Int).toNat
      omega
    · have q2 : (((lowU x : Nat) : Int) != ((lowU y : Nat) : Int)) = true := (beq_u8 _ _).2 he
      have HE : Hid (bb = false) := Lib.hid (HNO.out i hlt (by rw [HXY.out.1, HXY.out.2]; exact he))
      clear he
      go_wp2_with fail
      go_quiet ((go_at_call 80; exact ((HLW.out _ _ (by assumption)).mono fun e w' h => ⟨h.1, _, h.2.symm⟩)))
      go_wp2_with fail
      go_ret
      exact ⟨by rw [HE.out]; rfl, HB.out.trans (below_drewB _ _ _)⟩
theorem sameN_comm (a b : ByteArray) : sameN a b = sameN b a := by
  unfold sameN
  by_cases h : lowB a = lowB b
  · rw [decide_eq_true h, decide_eq_true h.symm]
  · rw [decide_eq_false h, decide_eq_false (fun e => h e.symm)]
end Go.Proofs.Ytjkaigfpjebfbaa
/- The reference's kind of a field, plain: as value.field's. -/
namespace Go.Proofs.Ytjkaigfpjebfbaa
open Go.RowKit
set_option linter.unusedVariables false

theorem any_apart {L K : List ByteArray} {nm : ByteArray} (h : (L.all fun a => K.all fun b => !decide (lowB a = lowB b)) = true) (h1 : anyN L nm = true) : anyN K nm = false := by
  unfold anyN at h1 ⊢
  rw [List.any_eq_true] at h1
  obtain ⟨a, ha, e⟩ := h1
  rw [List.any_eq_false]
  intro x hx
  unfold sameN at e ⊢
  have e := of_decide_eq_true e
  intro h2
  have h2 := of_decide_eq_true h2
  have h3 := List.all_eq_true.1 (List.all_eq_true.1 h a ha) x hx
  rw [decide_eq_true (e.trans h2.symm)] at h3
  cases h3
/-- Of which kind a field's value is, as the reference asks. -/
def sortN (nm : ByteArray) : Nat := if anyN nClauses nm then 4 else if anyN nAtoms nm then 5 else if anyN nYes nm then 3 else if anyN nProvides nm then 6 else if anyN nCount nm then 2 else 1
def kindOf (f : Nat) : Nat := if f = 2 then 4 else if f = 3 then 5 else if f = 4 then 6 else if f = 5 then 3 else if f = 6 then 2 else 1
theorem sort_field (nm : ByteArray) : sortN nm = kindOf (fieldN nm) := by
  unfold sortN fieldN
  cases p0 : anyN nPackage nm with
  | true =>
    rw [any_apart (K := nClauses) (by decide +kernel) p0, any_apart (K := nAtoms) (by decide +kernel) p0, any_apart (K := nYes) (by decide +kernel) p0, any_apart (K := nProvides) (by decide +kernel) p0, any_apart (K := nCount) (by decide +kernel) p0]
    rfl
  | false =>
    cases p1 : anyN nVersion nm with
    | true =>
      rw [any_apart (K := nClauses) (by decide +kernel) p1, any_apart (K := nAtoms) (by decide +kernel) p1, any_apart (K := nYes) (by decide +kernel) p1, any_apart (K := nProvides) (by decide +kernel) p1, any_apart (K := nCount) (by decide +kernel) p1]
      rfl
    | false =>
      cases p2 : anyN nClauses nm with
      | true => rfl
      | false =>
        cases p3 : anyN nAtoms nm with
        | true => rfl
        | false =>
          cases p4 : anyN nProvides nm with
          | true =>
            rw [any_apart (K := nYes) (by decide +kernel) p4]
            rfl
          | false =>
            cases p5 : anyN nYes nm with
            | true => rfl
            | false =>
              cases p6 : anyN nCount nm with
              | true => rfl
              | false => rfl
end Go.Proofs.Ytjkaigfpjebfbaa
/- chandlerref9.Sort. -/
namespace Go.Proofs.Ytjkaigfpjebfbaa
open Go.RowKit
set_option linter.unusedVariables false

set_option maxRecDepth 100000 in
set_option maxHeartbeats 4000000 in
theorem Sort_any (nm : ByteArray) (w : World) (hn : nm.size ≤ 1048576) :
    Calls Try.prog 56 #[.string nm] w fun e w' => e = .returned (.string (kindB (sortN nm))) ∧ Below w.heap.size w w' := by
  have HS : Hid (∀ x W, x.size ≤ 4294967296 → Calls Try.prog 61 #[.string nm, .string x] W fun e w' => e = .returned (.bool (sameN x nm)) ∧ Below W.heap.size W w') := Lib.hid (fun x W hx => by rw [sameN_comm]; exact RSame_any nm x W (by omega) hx)
  obtain ⟨K, hK⟩ : ∃ K, K = kindB (sortN nm) := ⟨_, rfl⟩
  rw [← hK]
  have HK := Lib.hid hK
  clear hK
  have ix00 : ∀ W : World, (Instr.index 106 (.agg #[.string ⟨#[112, 114, 101, 45, 100, 101, 112, 101, 110, 100, 115]⟩, .string ⟨#[100, 101, 112, 101, 110, 100, 115]⟩, .string ⟨#[114, 101, 99, 111, 109, 109, 101, 110, 100, 115]⟩]) (.int .i64 0)).run Try.prog W = .ok (.string ⟨#[112, 114, 101, 45, 100, 101, 112, 101, 110, 100, 115]⟩) W := fun W => by kernel_rfl
  have ix01 : ∀ W : World, (Instr.index 106 (.agg #[.string ⟨#[112, 114, 101, 45, 100, 101, 112, 101, 110, 100, 115]⟩, .string ⟨#[100, 101, 112, 101, 110, 100, 115]⟩, .string ⟨#[114, 101, 99, 111, 109, 109, 101, 110, 100, 115]⟩]) (.int .i64 1)).run Try.prog W = .ok (.string ⟨#[100, 101, 112, 101, 110, 100, 115]⟩) W := fun W => by kernel_rfl
  have ix02 : ∀ W : World, (Instr.index 106 (.agg #[.string ⟨#[112, 114, 101, 45, 100, 101, 112, 101, 110, 100, 115]⟩, .string ⟨#[100, 101, 112, 101, 110, 100, 115]⟩, .string ⟨#[114, 101, 99, 111, 109, 109, 101, 110, 100, 115]⟩]) (.int .i64 2)).run Try.prog W = .ok (.string ⟨#[114, 101, 99, 111, 109, 109, 101, 110, 100, 115]⟩) W := fun W => by kernel_rfl
  have ix10 : ∀ W : World, (Instr.index 107 (.agg #[.string ⟨#[99, 111, 110, 102, 108, 105, 99, 116, 115]⟩, .string ⟨#[98, 114, 101, 97, 107, 115]⟩]) (.int .i64 0)).run Try.prog W = .ok (.string ⟨#[99, 111, 110, 102, 108, 105, 99, 116, 115]⟩) W := fun W => by kernel_rfl
  have ix11 : ∀ W : World, (Instr.index 107 (.agg #[.string ⟨#[99, 111, 110, 102, 108, 105, 99, 116, 115]⟩, .string ⟨#[98, 114, 101, 97, 107, 115]⟩]) (.int .i64 1)).run Try.prog W = .ok (.string ⟨#[98, 114, 101, 97, 107, 115]⟩) W := fun W => by kernel_rfl
  have ix20 : ∀ W : World, (Instr.index 106 (.agg #[.string ⟨#[101, 115, 115, 101, 110, 116, 105, 97, 108]⟩, .string ⟨#[104, 111, 108, 100]⟩, .string ⟨#[99, 111, 110, 102, 105, 103, 117, 114, 101, 100]⟩]) (.int .i64 0)).run Try.prog W = .ok (.string ⟨#[101, 115, 115, 101, 110, 116, 105, 97, 108]⟩) W := fun W => by kernel_rfl
  have ix21 : ∀ W : World, (Instr.index 106 (.agg #[.string ⟨#[101, 115, 115, 101, 110, 116, 105, 97, 108]⟩, .string ⟨#[104, 111, 108, 100]⟩, .string ⟨#[99, 111, 110, 102, 105, 103, 117, 114, 101, 100]⟩]) (.int .i64 1)).run Try.prog W = .ok (.string ⟨#[104, 111, 108, 100]⟩) W := fun W => by kernel_rfl
  have ix22 : ∀ W : World, (Instr.index 106 (.agg #[.string ⟨#[101, 115, 115, 101, 110, 116, 105, 97, 108]⟩, .string ⟨#[104, 111, 108, 100]⟩, .string ⟨#[99, 111, 110, 102, 105, 103, 117, 114, 101, 100]⟩]) (.int .i64 2)).run Try.prog W = .ok (.string ⟨#[99, 111, 110, 102, 105, 103, 117, 114, 101, 100]⟩) W := fun W => by kernel_rfl
  go_enter Try.func56, Try.ntmps56
  go_wp2_with fail
  go_loopw [10] (fun t wr => ∃ i : Nat, t = .int .i64 (i : Int) ∧ i ≤ 3 ∧ Hid (∀ j (hj : j < nClauses.length), j < i → sameN nClauses[j] nm = false) ∧ Hid (Below w.heap.size w wr)) (fun t _ => 3 - (intOf t).toNat)
  case atStart => exact ⟨0, by first | rfl | go_num, Nat.zero_le _, Lib.hid (fun j _ hj => by omega), Lib.hid (Below.refl _ _)⟩
  case round =>
    obtain ⟨i, rfl, hi, HI, HB⟩ := hrel
    have hcs : i = 3 ∨ i = 0 ∨ i = 1 ∨ i = 2 := by omega
    rcases hcs with rfl | rfl | rfl | rfl
    rotate_left
    · cases hb : sameN ⟨#[112, 114, 101, 45, 100, 101, 112, 101, 110, 100, 115]⟩ nm with
      | true =>
        have HX : Hid (∀ W, Calls Try.prog 61 #[.string nm, .string ⟨#[112, 114, 101, 45, 100, 101, 112, 101, 110, 100, 115]⟩] W fun e w' => e = .returned (.bool true) ∧ Below W.heap.size W w') := Lib.hid (fun W => by rw [← hb]; exact HS.out _ W (by decide))
        have HR : Hid (K = ⟨#[99, 108, 97, 117, 115, 101, 115]⟩) := Lib.hid (by rw [HK.out]; unfold sortN; rw [anyN_yes (L := nClauses) (j := 0) (by decide) hb]; rfl)
        clear hb
        go_wp2_with (go_at_call 61; refine (HX.out _).mono ?_; rintro e w2 ⟨rfl, hb2⟩; have HB2 := Lib.hid (HB.out.trans (hb2.mono HB.out.size)); clear hb2)
        go_ret
        exact ⟨by rw [HR.out]; rfl, HB2.out⟩
      | false =>
        have HX : Hid (∀ W, Calls Try.prog 61 #[.string nm, .string ⟨#[112, 114, 101, 45, 100, 101, 112, 101, 110, 100, 115]⟩] W fun e w' => e = .returned (.bool false) ∧ Below W.heap.size W w') := Lib.hid (fun W => by rw [← hb]; exact HS.out _ W (by decide))
        have HI2 : Hid (∀ j (hj : j < nClauses.length), j < 1 → sameN nClauses[j] nm = false) := Lib.hid (fun j hj h => by
          by_cases e : j = 0
          · subst e; exact hb
          · exact HI.out j hj (by omega))
        clear hb
        go_wp2_with (go_at_call 61; refine (HX.out _).mono ?_; rintro e w2 ⟨rfl, hb2⟩; have HB2 := Lib.hid (HB.out.trans (hb2.mono HB.out.size)); clear hb2)
        first
          | (refine ⟨⟨1, by first | rfl | go_num, by omega, HI2, HB2⟩, ?_⟩; first | decide | (simp [intOf]; done) | (simp [intOf]; omega))
          | (refine ⟨?_, ?_⟩; (repeat apply Exists.intro); refine ⟨?_, rfl⟩; exact ⟨1, by first | rfl | go_num, by omega, HI2, HB2⟩; first | decide | (simp [intOf]; done) | (simp [intOf]; omega))
    · cases hb : sameN ⟨#[100, 101, 112, 101, 110, 100, 115]⟩ nm with
      | true =>
        have HX : Hid (∀ W, Calls Try.prog 61 #[.string nm, .string ⟨#[100, 101, 112, 101, 110, 100, 115]⟩] W fun e w' => e = .returned (.bool true) ∧ Below W.heap.size W w') := Lib.hid (fun W => by rw [← hb]; exact HS.out _ W (by decide))
        have HR : Hid (K = ⟨#[99, 108, 97, 117, 115, 101, 115]⟩) := Lib.hid (by rw [HK.out]; unfold sortN; rw [anyN_yes (L := nClauses) (j := 1) (by decide) hb]; rfl)
        clear hb
        go_wp2_with (go_at_call 61; refine (HX.out _).mono ?_; rintro e w2 ⟨rfl, hb2⟩; have HB2 := Lib.hid (HB.out.trans (hb2.mono HB.out.size)); clear hb2)
        go_ret
        exact ⟨by rw [HR.out]; rfl, HB2.out⟩
      | false =>
        have HX : Hid (∀ W, Calls Try.prog 61 #[.string nm, .string ⟨#[100, 101, 112, 101, 110, 100, 115]⟩] W fun e w' => e = .returned (.bool false) ∧ Below W.heap.size W w') := Lib.hid (fun W => by rw [← hb]; exact HS.out _ W (by decide))
        have HI2 : Hid (∀ j (hj : j < nClauses.length), j < 2 → sameN nClauses[j] nm = false) := Lib.hid (fun j hj h => by
          by_cases e : j = 1
          · subst e; exact hb
          · exact HI.out j hj (by omega))
        clear hb
        go_wp2_with (go_at_call 61; refine (HX.out _).mono ?_; rintro e w2 ⟨rfl, hb2⟩; have HB2 := Lib.hid (HB.out.trans (hb2.mono HB.out.size)); clear hb2)
        first
          | (refine ⟨⟨2, by first | rfl | go_num, by omega, HI2, HB2⟩, ?_⟩; first | decide | (simp [intOf]; done) | (simp [intOf]; omega))
          | (refine ⟨?_, ?_⟩; (repeat apply Exists.intro); refine ⟨?_, rfl⟩; exact ⟨2, by first | rfl | go_num, by omega, HI2, HB2⟩; first | decide | (simp [intOf]; done) | (simp [intOf]; omega))
    · cases hb : sameN ⟨#[114, 101, 99, 111, 109, 109, 101, 110, 100, 115]⟩ nm with
      | true =>
        have HX : Hid (∀ W, Calls Try.prog 61 #[.string nm, .string ⟨#[114, 101, 99, 111, 109, 109, 101, 110, 100, 115]⟩] W fun e w' => e = .returned (.bool true) ∧ Below W.heap.size W w') := Lib.hid (fun W => by rw [← hb]; exact HS.out _ W (by decide))
        have HR : Hid (K = ⟨#[99, 108, 97, 117, 115, 101, 115]⟩) := Lib.hid (by rw [HK.out]; unfold sortN; rw [anyN_yes (L := nClauses) (j := 2) (by decide) hb]; rfl)
        clear hb
        go_wp2_with (go_at_call 61; refine (HX.out _).mono ?_; rintro e w2 ⟨rfl, hb2⟩; have HB2 := Lib.hid (HB.out.trans (hb2.mono HB.out.size)); clear hb2)
        go_ret
        exact ⟨by rw [HR.out]; rfl, HB2.out⟩
      | false =>
        have HX : Hid (∀ W, Calls Try.prog 61 #[.string nm, .string ⟨#[114, 101, 99, 111, 109, 109, 101, 110, 100, 115]⟩] W fun e w' => e = .returned (.bool false) ∧ Below W.heap.size W w') := Lib.hid (fun W => by rw [← hb]; exact HS.out _ W (by decide))
        have HI2 : Hid (∀ j (hj : j < nClauses.length), j < 3 → sameN nClauses[j] nm = false) := Lib.hid (fun j hj h => by
          by_cases e : j = 2
          · subst e; exact hb
          · exact HI.out j hj (by omega))
        clear hb
        go_wp2_with (go_at_call 61; refine (HX.out _).mono ?_; rintro e w2 ⟨rfl, hb2⟩; have HB2 := Lib.hid (HB.out.trans (hb2.mono HB.out.size)); clear hb2)
        first
          | (refine ⟨⟨3, by first | rfl | go_num, by omega, HI2, HB2⟩, ?_⟩; first | decide | (simp [intOf]; done) | (simp [intOf]; omega))
          | (refine ⟨?_, ?_⟩; (repeat apply Exists.intro); refine ⟨?_, rfl⟩; exact ⟨3, by first | rfl | go_num, by omega, HI2, HB2⟩; first | decide | (simp [intOf]; done) | (simp [intOf]; omega))
    have HFnClauses : Hid (anyN nClauses nm = false) := Lib.hid (anyN_no (fun j hj => HI.out j hj (by have : j < 3 := hj; omega)))
    go_wp2_with fail
    go_loopw [18] (fun t wr => ∃ i : Nat, t = .int .i64 (i : Int) ∧ i ≤ 2 ∧ Hid (∀ j (hj : j < nAtoms.length), j < i → sameN nAtoms[j] nm = false) ∧ Hid (Below w.heap.size w wr)) (fun t _ => 2 - (intOf t).toNat)
    case atStart => exact ⟨0, by first | rfl | go_num, Nat.zero_le _, Lib.hid (fun j _ hj => by omega), Lib.hid HB.out⟩
    case round =>
      obtain ⟨i, rfl, hi, HI, HB⟩ := hrel
      have hcs : i = 2 ∨ i = 0 ∨ i = 1 := by omega
      rcases hcs with rfl | rfl | rfl
      rotate_left
      · cases hb : sameN ⟨#[99, 111, 110, 102, 108, 105, 99, 116, 115]⟩ nm with
        | true =>
          have HX : Hid (∀ W, Calls Try.prog 61 #[.string nm, .string ⟨#[99, 111, 110, 102, 108, 105, 99, 116, 115]⟩] W fun e w' => e = .returned (.bool true) ∧ Below W.heap.size W w') := Lib.hid (fun W => by rw [← hb]; exact HS.out _ W (by decide))
          have HR : Hid (K = ⟨#[97, 116, 111, 109, 115]⟩) := Lib.hid (by rw [HK.out]; unfold sortN; rw [HFnClauses.out]; rw [anyN_yes (L := nAtoms) (j := 0) (by decide) hb]; rfl)
          clear hb
          go_wp2_with (go_at_call 61; refine (HX.out _).mono ?_; rintro e w2 ⟨rfl, hb2⟩; have HB2 := Lib.hid (HB.out.trans (hb2.mono HB.out.size)); clear hb2)
          go_ret
          exact ⟨by rw [HR.out]; rfl, HB2.out⟩
        | false =>
          have HX : Hid (∀ W, Calls Try.prog 61 #[.string nm, .string ⟨#[99, 111, 110, 102, 108, 105, 99, 116, 115]⟩] W fun e w' => e = .returned (.bool false) ∧ Below W.heap.size W w') := Lib.hid (fun W => by rw [← hb]; exact HS.out _ W (by decide))
          have HI2 : Hid (∀ j (hj : j < nAtoms.length), j < 1 → sameN nAtoms[j] nm = false) := Lib.hid (fun j hj h => by
            by_cases e : j = 0
            · subst e; exact hb
            · exact HI.out j hj (by omega))
          clear hb
          go_wp2_with (go_at_call 61; refine (HX.out _).mono ?_; rintro e w2 ⟨rfl, hb2⟩; have HB2 := Lib.hid (HB.out.trans (hb2.mono HB.out.size)); clear hb2)
          first
            | (refine ⟨⟨1, by first | rfl | go_num, by omega, HI2, HB2⟩, ?_⟩; first | decide | (simp [intOf]; done) | (simp [intOf]; omega))
            | (refine ⟨?_, ?_⟩; (repeat apply Exists.intro); refine ⟨?_, rfl⟩; exact ⟨1, by first | rfl | go_num, by omega, HI2, HB2⟩; first | decide | (simp [intOf]; done) | (simp [intOf]; omega))
      · cases hb : sameN ⟨#[98, 114, 101, 97, 107, 115]⟩ nm with
        | true =>
          have HX : Hid (∀ W, Calls Try.prog 61 #[.string nm, .string ⟨#[98, 114, 101, 97, 107, 115]⟩] W fun e w' => e = .returned (.bool true) ∧ Below W.heap.size W w') := Lib.hid (fun W => by rw [← hb]; exact HS.out _ W (by decide))
          have HR : Hid (K = ⟨#[97, 116, 111, 109, 115]⟩) := Lib.hid (by rw [HK.out]; unfold sortN; rw [HFnClauses.out]; rw [anyN_yes (L := nAtoms) (j := 1) (by decide) hb]; rfl)
          clear hb
          go_wp2_with (go_at_call 61; refine (HX.out _).mono ?_; rintro e w2 ⟨rfl, hb2⟩; have HB2 := Lib.hid (HB.out.trans (hb2.mono HB.out.size)); clear hb2)
          go_ret
          exact ⟨by rw [HR.out]; rfl, HB2.out⟩
        | false =>
          have HX : Hid (∀ W, Calls Try.prog 61 #[.string nm, .string ⟨#[98, 114, 101, 97, 107, 115]⟩] W fun e w' => e = .returned (.bool false) ∧ Below W.heap.size W w') := Lib.hid (fun W => by rw [← hb]; exact HS.out _ W (by decide))
          have HI2 : Hid (∀ j (hj : j < nAtoms.length), j < 2 → sameN nAtoms[j] nm = false) := Lib.hid (fun j hj h => by
            by_cases e : j = 1
            · subst e; exact hb
            · exact HI.out j hj (by omega))
          clear hb
          go_wp2_with (go_at_call 61; refine (HX.out _).mono ?_; rintro e w2 ⟨rfl, hb2⟩; have HB2 := Lib.hid (HB.out.trans (hb2.mono HB.out.size)); clear hb2)
          first
            | (refine ⟨⟨2, by first | rfl | go_num, by omega, HI2, HB2⟩, ?_⟩; first | decide | (simp [intOf]; done) | (simp [intOf]; omega))
            | (refine ⟨?_, ?_⟩; (repeat apply Exists.intro); refine ⟨?_, rfl⟩; exact ⟨2, by first | rfl | go_num, by omega, HI2, HB2⟩; first | decide | (simp [intOf]; done) | (simp [intOf]; omega))
      have HFnAtoms : Hid (anyN nAtoms nm = false) := Lib.hid (anyN_no (fun j hj => HI.out j hj (by have : j < 2 := hj; omega)))
      go_wp2_with fail
      go_loopw [26] (fun t wr => ∃ i : Nat, t = .int .i64 (i : Int) ∧ i ≤ 3 ∧ Hid (∀ j (hj : j < nYes.length), j < i → sameN nYes[j] nm = false) ∧ Hid (Below w.heap.size w wr)) (fun t _ => 3 - (intOf t).toNat)
      case atStart => exact ⟨0, by first | rfl | go_num, Nat.zero_le _, Lib.hid (fun j _ hj => by omega), Lib.hid HB.out⟩
      case round =>
        obtain ⟨i, rfl, hi, HI, HB⟩ := hrel
        have hcs : i = 3 ∨ i = 0 ∨ i = 1 ∨ i = 2 := by omega
        rcases hcs with rfl | rfl | rfl | rfl
        rotate_left
        · cases hb : sameN ⟨#[101, 115, 115, 101, 110, 116, 105, 97, 108]⟩ nm with
          | true =>
            have HX : Hid (∀ W, Calls Try.prog 61 #[.string nm, .string ⟨#[101, 115, 115, 101, 110, 116, 105, 97, 108]⟩] W fun e w' => e = .returned (.bool true) ∧ Below W.heap.size W w') := Lib.hid (fun W => by rw [← hb]; exact HS.out _ W (by decide))
            have HR : Hid (K = ⟨#[121, 101, 115]⟩) := Lib.hid (by rw [HK.out]; unfold sortN; rw [HFnClauses.out]; rw [HFnAtoms.out]; rw [anyN_yes (L := nYes) (j := 0) (by decide) hb]; rfl)
            clear hb
            go_wp2_with (go_at_call 61; refine (HX.out _).mono ?_; rintro e w2 ⟨rfl, hb2⟩; have HB2 := Lib.hid (HB.out.trans (hb2.mono HB.out.size)); clear hb2)
            go_ret
            exact ⟨by rw [HR.out]; rfl, HB2.out⟩
          | false =>
            have HX : Hid (∀ W, Calls Try.prog 61 #[.string nm, .string ⟨#[101, 115, 115, 101, 110, 116, 105, 97, 108]⟩] W fun e w' => e = .returned (.bool false) ∧ Below W.heap.size W w') := Lib.hid (fun W => by rw [← hb]; exact HS.out _ W (by decide))
            have HI2 : Hid (∀ j (hj : j < nYes.length), j < 1 → sameN nYes[j] nm = false) := Lib.hid (fun j hj h => by
              by_cases e : j = 0
              · subst e; exact hb
              · exact HI.out j hj (by omega))
            clear hb
            go_wp2_with (go_at_call 61; refine (HX.out _).mono ?_; rintro e w2 ⟨rfl, hb2⟩; have HB2 := Lib.hid (HB.out.trans (hb2.mono HB.out.size)); clear hb2)
            first
              | (refine ⟨⟨1, by first | rfl | go_num, by omega, HI2, HB2⟩, ?_⟩; first | decide | (simp [intOf]; done) | (simp [intOf]; omega))
              | (refine ⟨?_, ?_⟩; (repeat apply Exists.intro); refine ⟨?_, rfl⟩; exact ⟨1, by first | rfl | go_num, by omega, HI2, HB2⟩; first | decide | (simp [intOf]; done) | (simp [intOf]; omega))
        · cases hb : sameN ⟨#[104, 111, 108, 100]⟩ nm with
          | true =>
            have HX : Hid (∀ W, Calls Try.prog 61 #[.string nm, .string ⟨#[104, 111, 108, 100]⟩] W fun e w' => e = .returned (.bool true) ∧ Below W.heap.size W w') := Lib.hid (fun W => by rw [← hb]; exact HS.out _ W (by decide))
            have HR : Hid (K = ⟨#[121, 101, 115]⟩) := Lib.hid (by rw [HK.out]; unfold sortN; rw [HFnClauses.out]; rw [HFnAtoms.out]; rw [anyN_yes (L := nYes) (j := 1) (by decide) hb]; rfl)
            clear hb
            go_wp2_with (go_at_call 61; refine (HX.out _).mono ?_; rintro e w2 ⟨rfl, hb2⟩; have HB2 := Lib.hid (HB.out.trans (hb2.mono HB.out.size)); clear hb2)
            go_ret
            exact ⟨by rw [HR.out]; rfl, HB2.out⟩
          | false =>
            have HX : Hid (∀ W, Calls Try.prog 61 #[.string nm, .string ⟨#[104, 111, 108, 100]⟩] W fun e w' => e = .returned (.bool false) ∧ Below W.heap.size W w') := Lib.hid (fun W => by rw [← hb]; exact HS.out _ W (by decide))
            have HI2 : Hid (∀ j (hj : j < nYes.length), j < 2 → sameN nYes[j] nm = false) := Lib.hid (fun j hj h => by
              by_cases e : j = 1
              · subst e; exact hb
              · exact HI.out j hj (by omega))
            clear hb
            go_wp2_with (go_at_call 61; refine (HX.out _).mono ?_; rintro e w2 ⟨rfl, hb2⟩; have HB2 := Lib.hid (HB.out.trans (hb2.mono HB.out.size)); clear hb2)
            first
              | (refine ⟨⟨2, by first | rfl | go_num, by omega, HI2, HB2⟩, ?_⟩; first | decide | (simp [intOf]; done) | (simp [intOf]; omega))
              | (refine ⟨?_, ?_⟩; (repeat apply Exists.intro); refine ⟨?_, rfl⟩; exact ⟨2, by first | rfl | go_num, by omega, HI2, HB2⟩; first | decide | (simp [intOf]; done) | (simp [intOf]; omega))
        · cases hb : sameN ⟨#[99, 111, 110, 102, 105, 103, 117, 114, 101, 100]⟩ nm with
          | true =>
            have HX : Hid (∀ W, Calls Try.prog 61 #[.string nm, .string ⟨#[99, 111, 110, 102, 105, 103, 117, 114, 101, 100]⟩] W fun e w' => e = .returned (.bool true) ∧ Below W.heap.size W w') := Lib.hid (fun W => by rw [← hb]; exact HS.out _ W (by decide))
            have HR : Hid (K = ⟨#[121, 101, 115]⟩) := Lib.hid (by rw [HK.out]; unfold sortN; rw [HFnClauses.out]; rw [HFnAtoms.out]; rw [anyN_yes (L := nYes) (j := 2) (by decide) hb]; rfl)
            clear hb
            go_wp2_with (go_at_call 61; refine (HX.out _).mono ?_; rintro e w2 ⟨rfl, hb2⟩; have HB2 := Lib.hid (HB.out.trans (hb2.mono HB.out.size)); clear hb2)
            go_ret
            exact ⟨by rw [HR.out]; rfl, HB2.out⟩
          | false =>
            have HX : Hid (∀ W, Calls Try.prog 61 #[.string nm, .string ⟨#[99, 111, 110, 102, 105, 103, 117, 114, 101, 100]⟩] W fun e w' => e = .returned (.bool false) ∧ Below W.heap.size W w') := Lib.hid (fun W => by rw [← hb]; exact HS.out _ W (by decide))
            have HI2 : Hid (∀ j (hj : j < nYes.length), j < 3 → sameN nYes[j] nm = false) := Lib.hid (fun j hj h => by
              by_cases e : j = 2
              · subst e; exact hb
              · exact HI.out j hj (by omega))
            clear hb
            go_wp2_with (go_at_call 61; refine (HX.out _).mono ?_; rintro e w2 ⟨rfl, hb2⟩; have HB2 := Lib.hid (HB.out.trans (hb2.mono HB.out.size)); clear hb2)
            first
              | (refine ⟨⟨3, by first | rfl | go_num, by omega, HI2, HB2⟩, ?_⟩; first | decide | (simp [intOf]; done) | (simp [intOf]; omega))
              | (refine ⟨?_, ?_⟩; (repeat apply Exists.intro); refine ⟨?_, rfl⟩; exact ⟨3, by first | rfl | go_num, by omega, HI2, HB2⟩; first | decide | (simp [intOf]; done) | (simp [intOf]; omega))
        have HFnYes : Hid (anyN nYes nm = false) := Lib.hid (anyN_no (fun j hj => HI.out j hj (by have : j < 3 := hj; omega)))
        go_wp2_with fail
        cases hb1 : sameN ⟨#[112, 114, 111, 118, 105, 100, 101, 115]⟩ nm with
        | true =>
          have HX1 : Hid (∀ W, Calls Try.prog 61 #[.string nm, .string ⟨#[112, 114, 111, 118, 105, 100, 101, 115]⟩] W fun e w' => e = .returned (.bool true) ∧ Below W.heap.size W w') := Lib.hid (fun W => by rw [← hb1]; exact HS.out _ W (by decide))
          have HR : Hid (K = ⟨#[112, 114, 111, 118, 105, 100, 101, 115]⟩) := Lib.hid (by rw [HK.out]; unfold sortN; rw [HFnClauses.out]; rw [HFnAtoms.out]; rw [HFnYes.out]; rw [anyN_yes (L := nProvides) (j := 0) (by decide) hb1]; rfl)
          go_at_call 61
          refine (HX1.out _).mono ?_
          rintro e w9 ⟨rfl, hb9⟩
          have HB9 := Lib.hid (HB.out.trans (hb9.mono HB.out.size))
          clear hb9
          go_wp2_with fail
          go_ret
          exact ⟨by rw [HR.out]; rfl, HB9.out⟩
        | false =>
          have HX1 : Hid (∀ W, Calls Try.prog 61 #[.string nm, .string ⟨#[112, 114, 111, 118, 105, 100, 101, 115]⟩] W fun e w' => e = .returned (.bool false) ∧ Below W.heap.size W w') := Lib.hid (fun W => by rw [← hb1]; exact HS.out _ W (by decide))
          have HFnProvides : Hid (anyN nProvides nm = false) := Lib.hid (anyN_no (fun j hj => by have h9 : j < 1 := hj; have h8 : j = 0 := (by omega); subst h8; exact hb1))
          go_at_call 61
          refine (HX1.out _).mono ?_
          rintro e w8 ⟨rfl, hb9⟩
          have HB8 := Lib.hid (HB.out.trans (hb9.mono HB.out.size))
          clear hb9
          go_wp2_with fail
          cases hb2 : sameN ⟨#[112, 114, 105, 111, 114, 105, 116, 121]⟩ nm with
          | true =>
            have HX2 : Hid (∀ W, Calls Try.prog 61 #[.string nm, .string ⟨#[112, 114, 105, 111, 114, 105, 116, 121]⟩] W fun e w' => e = .returned (.bool true) ∧ Below W.heap.size W w') := Lib.hid (fun W => by rw [← hb2]; exact HS.out _ W (by decide))
            have HR : Hid (K = ⟨#[99, 111, 117, 110, 116]⟩) := Lib.hid (by rw [HK.out]; unfold sortN; rw [HFnClauses.out]; rw [HFnAtoms.out]; rw [HFnYes.out]; rw [HFnProvides.out]; rw [anyN_yes (L := nCount) (j := 0) (by decide) hb2]; rfl)
            go_at_call 61
            refine (HX2.out _).mono ?_
            rintro e w9 ⟨rfl, hb9⟩
            have HB9 := Lib.hid (HB8.out.trans (hb9.mono HB8.out.size))
            clear hb9
            go_wp2_with fail
            go_ret
            exact ⟨by rw [HR.out]; rfl, HB9.out⟩
          | false =>
            have HX2 : Hid (∀ W, Calls Try.prog 61 #[.string nm, .string ⟨#[112, 114, 105, 111, 114, 105, 116, 121]⟩] W fun e w' => e = .returned (.bool false) ∧ Below W.heap.size W w') := Lib.hid (fun W => by rw [← hb2]; exact HS.out _ W (by decide))
            have HFnCount : Hid (anyN nCount nm = false) := Lib.hid (anyN_no (fun j hj => by have h9 : j < 1 := hj; have h8 : j = 0 := (by omega); subst h8; exact hb2))
            go_at_call 61
            refine (HX2.out _).mono ?_
            rintro e w8 ⟨rfl, hb9⟩
            have HB8 := Lib.hid (HB8.out.trans (hb9.mono HB8.out.size))
            clear hb9
            go_wp2_with fail
            have HR : Hid (K = ⟨#[116, 101, 120, 116]⟩) := Lib.hid (by rw [HK.out]; unfold sortN; rw [HFnClauses.out]; rw [HFnAtoms.out]; rw [HFnYes.out]; rw [HFnProvides.out]; rw [HFnCount.out]; rfl)
            go_ret
            exact ⟨by rw [HR.out]; rfl, HB8.out⟩
end Go.Proofs.Ytjkaigfpjebfbaa
