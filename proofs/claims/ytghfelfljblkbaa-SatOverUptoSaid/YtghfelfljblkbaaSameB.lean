/- The reference's SameBools. -/
import Derived.Test.YtghfelfljblkbaaHolds
namespace Go.Proofs.Ytghfelfljblkbaa
open Go.RowKit Go.Sort
set_option linter.unusedVariables false

set_option maxRecDepth 100000 in
set_option maxHeartbeats 1000000 in
theorem SameBools_any (A B : Option Addr) (n m c d : Nat) (zs ys : List Bool) (w : World) (h1 : Bools w A n zs) (h2 : Bools w B m ys) (hn : n ≤ 281474976710656) :
    Calls Try.prog 56 #[.slice A n c, .slice B m d] w fun e w' => e = .returned (.bool (decide (zs = ys))) ∧ Below w.heap.size w w' := by
  have hl1 := h1.1
  have hl2 := h2.1
  by_cases hnm : n = m
  · have HL1 := Lib.hid h1
    have HL2 := Lib.hid h2
    have HZ := Lib.hid hl1
    have HY := Lib.hid hl2
    obtain ⟨bb, hbb⟩ : ∃ bb, bb = decide (zs = ys) := ⟨_, rfl⟩
    rw [← hbb]
    have HBB := Lib.hid hbb
    subst hnm
    clear h1 h2 hl1 hl2 hbb
    go_enter Try.func56, Try.ntmps56
    go_wp2_with fail
    go_loopw [13] (fun t wr => ∃ i : Nat, t = .int .i64 (i : Int) ∧ i ≤ n ∧ Hid (∀ j, j < i → zs.getD j false = ys.getD j false) ∧ Hid (Below w.heap.size w wr)) (fun t _ => n - (match t with | .int _ x => x.toNat | _ => 0))
    case atStart => exact ⟨0, rfl, Nat.zero_le _, Lib.hid (fun j hj => by omega), Lib.hid (Below.refl _ _)⟩
    case round =>
      obtain ⟨i, rfl, hi, HI, HB⟩ := hrel
      by_cases hlt : i < n
      · obtain ⟨b1, o1, e1, hb1, hc1⟩ := HL1.out.2 (by omega)
        obtain ⟨b2, o2, e2, hb2, hc2⟩ := HL2.out.2 (by omega)
        subst e1 e2
        obtain ⟨x, hx⟩ : ∃ x, x = zs.getD i false := ⟨_, rfl⟩
        obtain ⟨y, hy⟩ : ∃ y, y = ys.getD i false := ⟨_, rfl⟩
        have k1 : wr.cell? ⟨b1, o1 + i, none⟩ = some (.bool x) := by rw [hx]; exact (HB.out.cell hb1).trans (hc1 i hlt)
        have k2 : wr.cell? ⟨b2, o2 + i, none⟩ = some (.bool y) := by rw [hy]; exact (HB.out.cell hb2).trans (hc2 i hlt)
        have i1 : (i : Int) < (n : Int) := by omega
        have HX := Lib.hid hx
        have HYY := Lib.hid hy
        clear hc1 hc2 hb1 hb2 hx hy
        by_cases hxy : x = y
        · subst hxy
          have hne : (x != x) = false := by simp
          go_wp2_with fail
          go_quiet (fail)
          go_wp2_with fail
          refine ⟨⟨i + 1, by go_num, by omega, Lib.hid (fun j hj => ?_), Lib.hid (HB.out.trans ⟨rfl, rfl, rfl, Nat.le_refl _, fun _ _ => rfl⟩)⟩, ?_⟩
          · rcases Nat.lt_or_ge j i with h | h
            · exact HI.out j h
            · have e : j = i := by omega
              rw [e, ← HX.out, ← HYY.out]
          · show n - ((i : Int) + 1).toNat < n - (i : Int).toNat
            omega
        · have hne : (x == y) = false := by simpa using hxy
          have HF : Hid (bb = false) := Lib.hid (by rw [HBB.out]; exact decide_eq_false (fun e => hxy (by rw [HX.out, HYY.out, e])))
          go_wp2_with fail
          go_quiet (fail)
          go_wp2_with fail
          go_ret
          exact ⟨by rw [HF.out]; rfl, HB.out.trans ⟨rfl, rfl, rfl, Nat.le_refl _, fun _ _ => rfl⟩⟩
      · have hin : i = n := by omega
        have HT : Hid (bb = true) := Lib.hid (by
          rw [HBB.out]
          refine decide_eq_true (List.ext_getElem (by rw [HZ.out, HY.out]) fun j h1 h2 => ?_)
          have := HI.out j (by have := HZ.out; omega)
          rw [List.getD_eq_getElem?_getD, List.getD_eq_getElem?_getD, List.getElem?_eq_getElem h1, List.getElem?_eq_getElem h2] at this
          exact this)
        go_wp2_with fail
        go_ret
        exact ⟨by rw [HT.out]; rfl, HB.out⟩
  · have hd : decide (zs = ys) = false := decide_eq_false (fun e => hnm (by rw [← hl1, ← hl2, e]))
    have hnm' : ¬ (n : Int) = (m : Int) := by omega
    have hne : ((n : Int) != (m : Int)) = true := by simp; omega
    rw [hd]
    clear h1 h2 hl1 hl2 hd
    go_enter Try.func56, Try.ntmps56
    go_wp2_with fail
    go_ret
    exact ⟨rfl, Below.refl _ _⟩
end Go.Proofs.Ytghfelfljblkbaa
