/- SatOver: the walk. -/
import Derived.Test.YtghfelfljblkbaaOver
namespace Go.Proofs.Ytghfelfljblkbaa
open Go.RowKit Go.Sort
set_option linter.unusedVariables false

set_option maxRecDepth 100000 in
set_option maxHeartbeats 4000000 in
theorem satOver_any (x : Int) (v : Value) (Z : List (List Int)) (w : World) (hz : ClsAt w v Z) (hZ : Z.length ≤ 4294967296) :
    Calls Try.prog 20 #[.int .i64 x, v] w fun e w' => e = .returned (.bool true) ∧ Below w.heap.size w w' := by
  have HBO := Lib.hid (bothS_any x v Z w hz hZ)
  obtain ⟨AZ, cZ, rfl, _⟩ := hz
  go_enter Try.func20, Try.ntmps20
  go_wp2_with fail
  go_at_call 53
  refine HBO.out.mono ?_
  rintro e w1 ⟨n, s, q0, A, B, ca, cb, rfl, hn, htw, hcl⟩
  obtain ⟨L, hL⟩ : ∃ L, L = bothQ 40 10 n Z 0 [] := ⟨_, rfl⟩
  rw [← hL] at htw hcl
  have hsh : ∀ c ∈ L, c.length ≤ 1048576 := fun c hc => by have := htw.short c hc; omega
  have HVA := Lib.hid (Vars_any s ca n A L w1 htw.s)
  have HTW := Lib.hid htw
  have HCL := Lib.hid hcl
  have HSH := Lib.hid hsh
  clear htw hcl hL HBO hsh
  go_wp2_with fail
  go_at_call 35
  refine HVA.out.mono ?_
  rintro e w2 ⟨rfl, rfl⟩
  go_upto_if 28 with fail
  obtain ⟨b, hb⟩ : ∃ b : Int, b = wrap64 (wrap64 (2 ^ n) + 1) := ⟨_, rfl⟩
  rw [← hb]
  have hbv : b = ((2 ^ n : Nat) : Int) + 1 ∧ 0 ≤ b ∧ b ≤ 1025 := by
    have : n = 0 ∨ n = 1 ∨ n = 2 ∨ n = 3 ∨ n = 4 ∨ n = 5 ∨ n = 6 ∨ n = 7 ∨ n = 8 ∨ n = 9 ∨ n = 10 := by omega
    rcases this with rfl | rfl | rfl | rfl | rfl | rfl | rfl | rfl | rfl | rfl | rfl <;> (subst hb; decide +kernel)
  have hob : Ok b := ⟨by omega, by omega⟩
  have HSV := Lib.hid (Solve_any s ca n A L none 0 0 [] b hob w1 HTW.out.s HSH.out HCL.out (Lits.nil _ _) (by omega) (by omega))
  have HBV := Lib.hid hbv
  clear hb hbv hob HVA
  go_wp2_with fail
  go_at_call 55
  refine HSV.out.mono ?_
  rintro e w2 ⟨r, f, hr, hb2, hres⟩
  have HR := Lib.hid hr
  have hf := (Sr.solve_first hr (by omega) HCL.out (fun a ha => by cases ha)).2
  rcases hres with ⟨_, hres⟩ | ⟨_, h9, _⟩
  case inr => rw [HBV.out.1] at h9; have := Nat.one_le_two_pow (n := n); exfalso; omega
  obtain ⟨A2, m2, c2, rfl, hm2, hbs2⟩ := sol_out hres
  have HS2 := Lib.hid hbs2
  have HB2 := Lib.hid hb2
  have HSV2 := Lib.hid (Solve_any s ca n A L none 0 0 [] 0 ⟨by decide, by decide⟩ w2 (HTW.out.s.below hb2) HSH.out HCL.out (Lits.nil _ _) (by omega) (by omega))
  clear hr hb2 hres hbs2 hf HSV HBV
  go_wp2_with fail
  go_at_call 55
  refine HSV2.out.mono ?_
  rintro e w3 ⟨r3, f3, hr3, hb3, hres3⟩
  obtain ⟨rfl, rfl⟩ := Sr.solve_det hr3 HR.out
  rcases hres3 with ⟨_, hres3⟩ | ⟨h9, _⟩
  case inr => exfalso; omega
  obtain ⟨A3, m3, c3, rfl, hm3, hbs3⟩ := sol_out hres3
  have HS2' := Lib.hid (HS2.out.below hb3)
  have HS3 := Lib.hid hbs3
  have HB3 := Lib.hid (HTW.out.bel.trans ((HB2.out.trans (hb3.mono HB2.out.size)).mono HTW.out.bel.size))
  have HSN := Lib.hid (SolveN_any 0 w3)
  clear hr3 hb3 hres3 hbs3 HSV2 HS2 HR HB2
  go_wp2_with fail
  go_at_call 55
  refine HSN.out.mono ?_
  rintro e w4 ⟨A4, c4, rfl, hb4⟩
  have HB4 := Lib.hid (HB3.out.trans (hb4.mono HB3.out.size))
  have HSM : Hid (∀ W, Below w4.heap.size w4 W → Calls Try.prog 56 #[.slice A2 m2 c2, .slice A3 m3 c3] W fun e w' => e = .returned (.bool true) ∧ Below w4.heap.size w4 w') := Lib.hid (same_later (HS2'.out.below hb4) (HS3.out.below hb4) (by omega))
  have HCN : Hid (∀ W, Calls Try.prog 61 #[.pointer none, .int .i64 5] W fun e w' => e = .returned (.int .i64 1) ∧ Below W.heap.size W w') := Lib.hid (fun W => CountN_any 5 ⟨by decide, by decide⟩ W)
  have HAW := Lib.hid (fun W => awakeS_any W)
  have hb0 : Below w4.heap.size w4 w4 := Below.refl _ _
  clear hb4 HSN HS2' HS3 HB3 hm2 hm3
  cases r3 with
  | none =>
    go_wp2_with (first
      | (go_at_call 56; refine (HSM.out _ (by assumption)).mono ?_; rintro e w5 ⟨rfl, hb5⟩)
      | (go_at_call 61; refine (HCN.out _).mono ?_; rintro e w6 ⟨rfl, hb6⟩)
      | (go_at_call 57; refine (HAW.out _).mono ?_; rintro e w7 ⟨rfl, hb7⟩))
    go_ret
    exact ⟨rfl, HB4.out.trans ((hb5.trans ((hb6.trans (hb7.mono hb6.size)).mono hb5.size)).mono HB4.out.size)⟩
  | some bs =>
    go_wp2_with (first
      | (go_at_call 56; refine (HSM.out _ (by assumption)).mono ?_; rintro e w5 ⟨rfl, hb5⟩)
      | (go_at_call 61; refine (HCN.out _).mono ?_; rintro e w6 ⟨rfl, hb6⟩)
      | (go_at_call 57; refine (HAW.out _).mono ?_; rintro e w7 ⟨rfl, hb7⟩))
    go_ret
    exact ⟨rfl, HB4.out.trans ((hb5.trans ((hb6.trans (hb7.mono hb6.size)).mono hb5.size)).mono HB4.out.size)⟩
open Go.ChangeShapes Go.WideShapes Go.ChangeAt in
set_option maxRecDepth 100000 in
theorem satOver_walk {H : Type} {enc : TypeId × Value → H} (W : World) {base : Nat} (v0 v1 : Value) {d0 d1 : DataW H} {p0 p1 : List MemPlace}
    (h0 : DataW.Trod enc Try.prog W 0 (fun _ => true) true 3 v0 d0 p0) (o0 : Value.okWide Try.prog W .any base 3 v0)
    (h1 : DataW.Trod enc Try.prog W 0 (fun _ => true) true 28 v1 d1 p1) (o1 : Value.okWide Try.prog W .any base 28 v1)
    (hk : Rows.uptoBulkAll [d0, d1] ≤ 1048576) :
    Calls Try.prog 20 #[v0, v1] W fun e w' => e = .returned (.bool true) ∧ Below W.heap.size W w' := by
  obtain ⟨x, rfl, rfl, rfl, wx⟩ := open_int Try.underlying3 o0 h0
  obtain ⟨Z, hz, hZ, _⟩ := open_cls h1 o1
  simp only [Rows.uptoBulkAll] at hk
  exact satOver_any x v1 Z W hz (by omega)
end Go.Proofs.Ytghfelfljblkbaa
