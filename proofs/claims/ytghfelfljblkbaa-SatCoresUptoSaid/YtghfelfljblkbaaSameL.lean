/- The reference's SameLits; CnfTidies. -/
import Derived.Test.YtghfelfljblkbaaAwakeC
namespace Go.Proofs.Ytghfelfljblkbaa
open Go.RowKit Go.Sort
set_option linter.unusedVariables false

set_option maxRecDepth 100000 in
set_option maxHeartbeats 1000000 in
theorem SameLits_any (A B : Option Addr) (n m c d : Nat) (zs ys : List Int) (w : World) (h1 : Lits w A n zs) (h2 : Lits w B m ys) (hn : n ≤ 281474976710656) :
    Calls Try.prog 25 #[.slice A n c, .slice B m d] w fun e w' => e = .returned (.bool (decide (zs = ys))) ∧ Below w.heap.size w w' := by
  have hl1 := h1.1
  have hl2 := h2.1
  by_cases hnm : n = m
  · have HL1 := Lib.hid h1
    have HL2 := Lib.hid h2
    have HZ := Lib.hid hl1
    have HY := Lib.hid hl2
    obtain ⟨bb, hbb⟩ : ∃ bb, bb = decide (zs = ys) := ⟨_, rfl⟩
    rw [← hbb]
    have HBB := Lib.hid hbb
    subst hnm
    clear h1 h2 hl1 hl2 hbb
    go_enter Try.func25, Try.ntmps25
    go_wp2_with fail
    go_loopw [13] (fun t wr => ∃ i : Nat, t = .int .i64 (i : Int) ∧ i ≤ n ∧ Hid (∀ j, j < i → zs.getD j 0 = ys.getD j 0) ∧ Hid (Below w.heap.size w wr)) (fun t _ => n - (match t with | .int _ x => x.toNat | _ => 0))
    case atStart => exact ⟨0, rfl, Nat.zero_le _, Lib.hid (fun j hj => by omega), Lib.hid (Below.refl _ _)⟩
    case round =>
      obtain ⟨i, rfl, hi, HI, HB⟩ := hrel
      by_cases hlt : i < n
      · obtain ⟨b1, o1, e1, hb1, hc1⟩ := HL1.out.2.2 (by omega)
        obtain ⟨b2, o2, e2, hb2, hc2⟩ := HL2.out.2.2 (by omega)
        subst e1 e2
        obtain ⟨x, hx⟩ : ∃ x, x = zs.getD i 0 := ⟨_, rfl⟩
        obtain ⟨y, hy⟩ : ∃ y, y = ys.getD i 0 := ⟨_, rfl⟩
        have k1 : wr.cell? ⟨b1, o1 + i, none⟩ = some (.int .i64 x) := by rw [hx]; exact (HB.out.cell hb1).trans (hc1 i hlt)
        have k2 : wr.cell? ⟨b2, o2 + i, none⟩ = some (.int .i64 y) := by rw [hy]; exact (HB.out.cell hb2).trans (hc2 i hlt)
        have i1 : (i : Int) < (n : Int) := by omega
        have HX := Lib.hid hx
        have HYY := Lib.hid hy
        clear hc1 hc2 hb1 hb2 hx hy
        by_cases hxy : x = y
        · subst hxy
          have hne : (x != x) = false := by simp
          go_wp2_with fail
          go_quiet (fail)
          go_wp2_with fail
          refine ⟨⟨i + 1, by go_num, by omega, Lib.hid (fun j hj => ?_), Lib.hid (HB.out.trans ⟨rfl, rfl, rfl, Nat.le_refl _, fun _ _ => rfl⟩)⟩, ?_⟩
          · rcases Nat.lt_or_ge j i with h | h
            · exact HI.out j h
            · have e : j = i := by omega
              rw [e, ← HX.out, ← HYY.out]
          · show n - ((i : Int) + 1).toNat < n - (i : Int).toNat
            omega
        · have hne : (x != y) = true := by simpa using hxy
          have HF : Hid (bb = false) := Lib.hid (by rw [HBB.out]; exact decide_eq_false (fun e => hxy (by rw [HX.out, HYY.out, e])))
          go_wp2_with fail
          go_quiet (fail)
          go_wp2_with fail
          go_ret
          exact ⟨by rw [HF.out]; rfl, HB.out.trans ⟨rfl, rfl, rfl, Nat.le_refl _, fun _ _ => rfl⟩⟩
      · have hin : i = n := by omega
        have HT : Hid (bb = true) := Lib.hid (by
          rw [HBB.out]
          refine decide_eq_true (List.ext_getElem (by rw [HZ.out, HY.out]) fun j h1 h2 => ?_)
          have := HI.out j (by have := HZ.out; omega)
          rw [List.getD_eq_getElem?_getD, List.getD_eq_getElem?_getD, List.getElem?_eq_getElem h1, List.getElem?_eq_getElem h2] at this
          exact this)
        go_wp2_with fail
        go_ret
        exact ⟨by rw [HT.out]; rfl, HB.out⟩
  · have hd : decide (zs = ys) = false := decide_eq_false (fun e => hnm (by rw [← hl1, ← hl2, e]))
    have hnm' : ¬ (n : Int) = (m : Int) := by omega
    have hne : ((n : Int) != (m : Int)) = true := by simp; omega
    rw [hd]
    clear h1 h2 hl1 hl2 hd
    go_enter Try.func25, Try.ntmps25
    go_wp2_with fail
    go_ret
    exact ⟨rfl, Below.refl _ _⟩
set_option maxRecDepth 100000 in
set_option maxHeartbeats 1000000 in
theorem cnfTidies_any (A : Option Addr) (n c : Nat) (zs : List Int) (w : World) (h : Lits w A n zs) :
    Calls Try.prog 3 #[.slice A n c] w fun e w' => e = .returned (.bool true) ∧ Below w.heap.size w w' := by
  have HL := Lib.hid h
  clear h
  by_cases hn : n ≤ 100
  · have hn' : decide ((100 : Int) < (n : Int)) = false := decide_eq_false (by omega)
    have HT := Lib.hid (Tidy_any A n c zs w HL.out (by omega))
    have hok := HL.out.2.1
    cases ht : Cf.tidy zs with
    | none =>
      rw [ht] at HT
      go_enter Try.func3, Try.ntmps3
      go_wp2_with fail
      go_at_call 23
      refine HT.out.mono ?_
      rintro e w2 ⟨hb2, rfl⟩
      have hr := RefTidy_any A n c zs w2 (HL.out.below hb2) (by omega)
      rw [ht] at hr
      have HR := Lib.hid hr
      have HB2 := Lib.hid hb2
      clear hb2 hr
      go_wp2_with fail
      go_at_call 24
      refine HR.out.mono ?_
      rintro e w3 ⟨hb3, rfl⟩
      have HB3 := Lib.hid (HB2.out.trans (hb3.mono HB2.out.size))
      have HS := Lib.hid (SameLits_any none none 0 0 0 0 [] [] w3 (Lits.nil _ _) (Lits.nil _ _) (by omega))
      rw [show decide (([] : List Int) = []) = true from rfl] at HS
      clear hb3
      go_wp2_with (first
        | (go_at_call 25; refine HS.out.mono ?_; rintro e w4 ⟨rfl, hb4⟩)
        | (go_at_call 22; refine (awake_any _).mono ?_; rintro e w5 ⟨rfl, hb5⟩))
      go_ret
      exact ⟨rfl, HB3.out.trans ((hb4.trans (hb5.mono hb4.size)).mono HB3.out.size)⟩
    | some r =>
      rw [ht] at HT
      have hrok : ∀ z ∈ r, Ok z := tidy_ok ht hok
      have hrl : r.length ≤ 281474976710656 := by
        have := Cf.tidy_len ht
        have := HL.out.1
        omega
      have HRK := Lib.hid hrok
      go_enter Try.func3, Try.ntmps3
      go_wp2_with fail
      go_at_call 23
      refine HT.out.mono ?_
      rintro e w2 ⟨hb2, v2, rfl, ho2⟩
      obtain ⟨A2, c2, rfl, hl2, _⟩ := ho2.lits HRK.out
      have hr := RefTidy_any A n c zs w2 (HL.out.below hb2) (by omega)
      rw [ht] at hr
      have HR := Lib.hid hr
      have HB2 := Lib.hid hb2
      have HL2 := Lib.hid hl2
      clear hb2 hr ho2 hl2
      go_wp2_with fail
      go_at_call 24
      refine HR.out.mono ?_
      rintro e w3 ⟨hb3, v3, rfl, ho3⟩
      obtain ⟨A3, c3, rfl, hl3, _⟩ := ho3.lits HRK.out
      have HB3 := Lib.hid (HB2.out.trans (hb3.mono HB2.out.size))
      have HS := Lib.hid (SameLits_any A2 A3 r.length r.length c2 c3 r r w3 (HL2.out.below hb3) hl3 hrl)
      rw [show decide (r = r) = true from decide_eq_true rfl] at HS
      clear hb3 ho3 hl3
      go_wp2_with (first
        | (go_at_call 25; refine HS.out.mono ?_; rintro e w4 ⟨rfl, hb4⟩)
        | (go_at_call 22; refine (awake_any _).mono ?_; rintro e w5 ⟨rfl, hb5⟩))
      go_ret
      exact ⟨rfl, HB3.out.trans ((hb4.trans (hb5.mono hb4.size)).mono HB3.out.size)⟩
  · have hn' : decide ((100 : Int) < (n : Int)) = true := decide_eq_true (by omega)
    go_enter Try.func3, Try.ntmps3
    go_wp2_with (go_at_call 22; refine (awake_any _).mono ?_; rintro e w5 ⟨rfl, hb5⟩)
    go_ret
    exact ⟨rfl, hb5⟩
end Go.Proofs.Ytghfelfljblkbaa
