/- TextParts: the walk. -/
import Derived.Test.YtdchnllflodmkaaDoorTxt3
import Derived.Test.YtdchnllflodmkaaDoorAwake4
import Derived.Test.YtdchnllflodmkaaDoorRows
import Derived.ProofKit
import Derived.OpenShut
import Derived.ShutString
namespace Go.Proofs.YtdchnllflodmkaaDoor
open Go.RowKit
set_option linter.unusedVariables false

theorem goodZ_cases (s : ByteArray) : goodZ s = -1 ∨ ∃ x : Nat, goodZ s = (x : Int) ∧ x < s.size := by
  rcases goodFrom_ge s s.size 0 with h | h
  · exact .inl h
  · exact .inr ⟨(goodZ s).toNat, by have : (0 : Int) ≤ goodZ s := by unfold goodZ; omega
                                    omega, by unfold goodZ at *; omega⟩
set_option maxRecDepth 100000 in
set_option maxHeartbeats 4000000 in
theorem textParts_any (a b : ByteArray) (w : World) (hT : Lib.Utf8Tabs 0 1 w) (ha : a.size ≤ 1000000000000000) (hb : b.size ≤ 1000000000000000) :
    Calls Tryd.prog 4 #[.string a, .string b] w fun e w' => e = .returned (.bool true) ∧ Below w.heap.size w w' := by
  have HT := Lib.hid hT
  clear hT
  have hz := app_size a b
  have h1 := fun W hW => Good_any a W hW (by omega)
  have h2 := fun W hW => Good_any b W hW (by omega)
  have h3 := fun W hW => Good_any (a ++ b) W hW (by omega)
  have c1 := goodZ_cases a
  have c2 := goodZ_cases b
  have c3 := goodZ_cases (a ++ b)
  have p1 := good_app a b
  have p2 := bad_app a b
  obtain ⟨x, hx⟩ : ∃ x, x = goodZ a := ⟨_, rfl⟩
  obtain ⟨y, hy⟩ : ∃ x, x = goodZ b := ⟨_, rfl⟩
  obtain ⟨z, hzz⟩ : ∃ x, x = goodZ (a ++ b) := ⟨_, rfl⟩
  simp only [← hx] at h1 c1 p1 p2
  simp only [← hy] at h2 c2 p1
  simp only [← hzz] at h3 c3 p1 p2
  have hzb : -1 ≤ z ∧ z < 4000000000000000 := by rcases c3 with h | ⟨q, h, h'⟩ <;> omega
  have H1 := Lib.hid h1
  have H2 := Lib.hid h2
  have H3 := Lib.hid h3
  obtain ⟨hzb1, hzb2⟩ := hzb
  clear h1 h2 h3 hx hy hzz c3 hz
  rcases c1 with h | ⟨X, h, hXa⟩
  · have p := p1 h
    clear p1 p2
    rcases c2 with h' | ⟨Y, h', hYb⟩
    · rw [if_pos h'] at p
      subst h; subst h'; subst p
      go_enter Tryd.func4, Tryd.ntmps4
      go_wp2_with fail
      refine (H1.out _ HT.out).mono ?_
      rintro e w1 ⟨rfl, hb1⟩
      have HT1 := Lib.hid (tabs_later HT.out hb1)
      go_wp2_with fail
      refine (H2.out _ HT1.out).mono ?_
      rintro e w2 ⟨rfl, hb2⟩
      have hb2' := hb1.trans (hb2.mono hb1.size)
      have HT2 := Lib.hid (tabs_later HT.out hb2')
      go_wp2_with fail
      refine (H3.out _ HT2.out).mono ?_
      rintro e w3 ⟨rfl, hb3⟩
      have hb3' := hb2'.trans (hb3.mono hb2'.size)
      have HT3 := Lib.hid (tabs_later HT.out hb3')
      go_wp2_with fail
      refine (awake4_any _ HT3.out).mono ?_
      rintro e w4 ⟨rfl, hb4⟩
      go_wp2_with fail
      go_ret
      exact ⟨rfl, hb3'.trans (hb4.mono hb3'.size)⟩
    · rw [if_neg (by omega)] at p
      have y0 : 0 ≤ y := by omega
      have y1 : y < 1000000000000000 := by omega
      have t1 : (z == (a.size : Int) + y) = true := beq_iff_eq.2 p
      have t2 : ((a.size : Int) + y == z) = true := beq_iff_eq.2 p.symm
      clear p h' hzb1 hzb2
      subst h
      go_enter Tryd.func4, Tryd.ntmps4
      go_wp2_with fail
      refine (H1.out _ HT.out).mono ?_
      rintro e w1 ⟨rfl, hb1⟩
      have HT1 := Lib.hid (tabs_later HT.out hb1)
      go_wp2_with fail
      refine (H2.out _ HT1.out).mono ?_
      rintro e w2 ⟨rfl, hb2⟩
      have hb2' := hb1.trans (hb2.mono hb1.size)
      have HT2 := Lib.hid (tabs_later HT.out hb2')
      go_wp2_with fail
      refine (H3.out _ HT2.out).mono ?_
      rintro e w3 ⟨rfl, hb3⟩
      have hb3' := hb2'.trans (hb3.mono hb2'.size)
      have HT3 := Lib.hid (tabs_later HT.out hb3')
      go_wp2_with fail
      refine (awake4_any _ HT3.out).mono ?_
      rintro e w4 ⟨rfl, hb4⟩
      go_wp2_with fail
      go_ret
      exact ⟨rfl, hb3'.trans (hb4.mono hb3'.size)⟩
  · obtain ⟨_, p, q⟩ := p2 X h
    clear p1 p2
    subst h
    have hyb : -1 ≤ y ∧ y < 4000000000000000 := by rcases c2 with h | ⟨Y, h, h'⟩ <;> omega
    obtain ⟨hy1, hy2⟩ := hyb
    clear c2
    have hx2 : ((a[X]'hXa).toNat : Nat) = byteAt a X := (byteAt_get a X hXa).symm
    generalize byteAt a X = d at *
    have hcase : z = (X : Int) ∨ (z = -1 ∧ 128 ≤ d) ∨ ((X : Int) < z ∧ 128 ≤ d) := by omega
    clear p q
    rcases hcase with hz | ⟨rfl, hd⟩ | ⟨hz, hd⟩
    all_goals
      first
        | (have t1 : ((z : Int) == (X : Int)) = true := beq_iff_eq.2 hz
           have t2 : ((z : Int) == -1) = false := beq_eq_false_iff_ne.2 (by omega)
           have t3 : ((z : Int) != -1) = true := by rw [bne_iff_ne]; omega
           have t4 : decide ((0 : Int) ≤ z) = true := decide_eq_true (by omega)
           have t5 : (0 : Int) ≤ z := by omega
           have t6 : z ≤ (X : Int) := by omega
           clear hz)
        | (have t1 : ((z : Int) == (X : Int)) = false := beq_eq_false_iff_ne.2 (by omega)
           have t2 : ((z : Int) == -1) = false := beq_eq_false_iff_ne.2 (by omega)
           have t3 : ((z : Int) != -1) = true := by rw [bne_iff_ne]; omega
           have t4 : decide ((0 : Int) ≤ z) = true := decide_eq_true (by omega)
           have t5 : (0 : Int) ≤ z := by omega)
        | (have t1 : ((-1 : Int) == (X : Int)) = false := beq_eq_false_iff_ne.2 (by omega))
      go_enter Tryd.func4, Tryd.ntmps4
      go_wp2_with fail
      refine (H1.out _ HT.out).mono ?_
      rintro e w1 ⟨rfl, hb1⟩
      have HT1 := Lib.hid (tabs_later HT.out hb1)
      go_wp2_with fail
      refine (H2.out _ HT1.out).mono ?_
      rintro e w2 ⟨rfl, hb2⟩
      have hb2' := hb1.trans (hb2.mono hb1.size)
      have HT2 := Lib.hid (tabs_later HT.out hb2')
      go_wp2_with fail
      refine (H3.out _ HT2.out).mono ?_
      rintro e w3 ⟨rfl, hb3⟩
      have hb3' := hb2'.trans (hb3.mono hb2'.size)
      have HT3 := Lib.hid (tabs_later HT.out hb3')
      go_wp2_with fail
      refine (H3.out _ HT3.out).mono ?_
      rintro e w4 ⟨rfl, hb4⟩
      have hb4' := hb3'.trans (hb4.mono hb3'.size)
      have HT4 := Lib.hid (tabs_later HT.out hb4')
      go_wp2_with fail
      refine (awake4_any _ HT4.out).mono ?_
      rintro e w5 ⟨rfl, hb5⟩
      go_wp2_with fail
      go_ret
      refine ⟨?_, hb4'.trans (hb5.mono hb4'.size)⟩
      first
        | rfl
        | (have t7 : decide (z ≤ (X : Int)) = true := decide_eq_true t6
           show Ending.returned (Value.bool (z != -1 && (decide (z ≤ (X : Int)) || decide ((128 : Int) ≤ (d : Int))))) = _
           rw [t3, t7]
           rfl)
        | (have t7 : decide ((128 : Int) ≤ (d : Int)) = true := decide_eq_true (by omega)
           show Ending.returned (Value.bool (z != -1 && (decide (z ≤ (X : Int)) || decide ((128 : Int) ≤ (d : Int))))) = _
           rw [t3, t7, Bool.or_true]
           rfl)
        | (have t7 : decide ((128 : Int) ≤ (d : Int)) = true := decide_eq_true (by omega)
           show Ending.returned (Value.bool (decide (_ ≤ (X : Int)) || decide ((128 : Int) ≤ (d : Int)))) = _
           rw [t7, Bool.or_true])
        | (have t7 : decide ((128 : Int) ≤ (d : Int)) = true := decide_eq_true (by omega)
           show Ending.returned (Value.bool (decide ((128 : Int) ≤ (d : Int)))) = _
           rw [t7])
section
open Go.ChangeShapes Go.WideShapes Go.ChangeAt Go.ChangeMaps
theorem textParts_walk {H : Type} {enc : TypeId × Value → H} (W : World) {base : Nat} (v0 v1 : Value) {d0 d1 : DataW H} {p0 p1 : List MemPlace}
    (h0 : DataW.Trod enc Tryd.prog W 0 (fun _ => true) true 9 v0 d0 p0) (o0 : Value.okWide Tryd.prog W .any base 9 v0)
    (h1 : DataW.Trod enc Tryd.prog W 0 (fun _ => true) true 9 v1 d1 p1) (o1 : Value.okWide Tryd.prog W .any base 9 v1)
    (hT : Lib.Utf8Tabs 0 1 W) (hk : Rows.uptoBulkAll [d0, d1] ≤ 1048576) :
    Calls Tryd.prog 4 #[v0, v1] W fun e w' => e = .returned (.bool true) ∧ Below W.heap.size W w' := by
  obtain ⟨s, rfl, rfl, rfl, ws⟩ := open_string Tryd.underlying9 o0 h0
  obtain ⟨t, rfl, rfl, rfl, wt⟩ := open_string Tryd.underlying9 o1 h1
  have e1 : s.size = s.data.toList.length := rfl
  have e2 : t.size = t.data.toList.length := rfl
  simp only [Rows.uptoBulkAll, Rows.uptoBulk] at hk
  exact textParts_any s t W hT (by omega) (by omega)
end
end Go.Proofs.YtdchnllflodmkaaDoor
