/- SatBudget: the walk. -/
import Derived.Test.YtghfelfljblkbaaSat1
import Derived.Test.YtghfelfljblkbaaMk
namespace Go.Proofs.Ytghfelfljblkbaa
open Go.RowKit Go.Sort
set_option linter.unusedVariables false

theorem sol_gen {w' : World} {n f : Nat} {b : Int} {e : Ending} {r : Option (List Bool)} (h : SolRes w' n b e r f) : ∃ A m c ok er, e = .returned (.tuple #[.slice A m c, .bool ok, .int .i64 er]) ∧ m ≤ n ∧ (((b ≤ 0 ∨ (f : Int) ≤ b) ∧ ok = r.isSome ∧ er = 0 ∧ Bools w' A m (r.getD [])) ∨ (0 < b ∧ b < (f : Int) ∧ ok = false ∧ er = 11 ∧ A = none ∧ m = 0)) := by
  rcases h with ⟨h1, h2⟩ | ⟨h1, h2, rfl⟩
  · obtain ⟨A, m, c, he, hm, hb⟩ := sol_out h2
    exact ⟨A, m, c, _, _, he, hm, .inl ⟨h1, rfl, rfl, hb⟩⟩
  · exact ⟨none, 0, 0, _, _, rfl, Nat.zero_le _, .inr ⟨h1, h2, rfl, rfl, rfl, rfl⟩⟩
/-- SameBools of one list, twice, in any later world. -/
theorem same_later {w : World} {A B : Option Addr} {n m c d : Nat} {bs : List Bool} (h1 : Bools w A n bs) (h2 : Bools w B m bs) (hn : n ≤ 281474976710656) :
    ∀ W, Below w.heap.size w W → Calls Try.prog 56 #[.slice A n c, .slice B m d] W fun e w' => e = .returned (.bool true) ∧ Below w.heap.size w w' := fun W hW => by
  have := SameBools_any A B n m c d bs bs W (h1.below hW) (h2.below hW) hn
  rw [decide_eq_true rfl] at this
  exact this.mono fun e w' ⟨he, hb⟩ => ⟨he, hW.trans (hb.mono hW.size)⟩
theorem awake_later {w : World} : ∀ W, Below w.heap.size w W → Calls Try.prog 57 #[] W fun e w' => e = .returned (.bool true) ∧ Below w.heap.size w w' := fun W hW =>
  (awakeS_any W).mono fun e w' ⟨he, hb⟩ => ⟨he, hW.trans (hb.mono hW.size)⟩
set_option maxRecDepth 100000 in
set_option maxHeartbeats 8000000 in
theorem satBudget_any (x b b2 : Int) (hb : Ok b) (hb2 : Ok b2) (v : Value) (Z : List (List Int)) (C : Option Addr) (lc cc : Nat) (cs : List Int) (w : World) (hz : ClsAt w v Z) (hZ : Z.length ≤ 4294967296) (hc : Lits w C lc cs) (hcc : lc ≤ cc) :
    Calls Try.prog 15 #[.int .i64 x, v, .slice C lc cc, .int .i64 b, .int .i64 b2] w fun e w' => e = .returned (.bool true) ∧ Below w.heap.size w w' := by
  have HBO := Lib.hid (bothS_any x v Z w hz hZ)
  obtain ⟨AZ, cZ, rfl, _⟩ := hz
  have HC := Lib.hid hc
  have HOB := Lib.hid hb
  have HOB2 := Lib.hid hb2
  clear hc hb hb2
  go_enter Try.func15, Try.ntmps15
  go_wp2_with fail
  go_at_call 53
  refine HBO.out.mono ?_
  rintro e w1 ⟨n, s, q0, A, B, ca, cb, rfl, hn, htw, hcl⟩
  obtain ⟨L, hL⟩ : ∃ L, L = bothQ 40 10 n Z 0 [] := ⟨_, rfl⟩
  rw [← hL] at htw hcl
  have HTW := Lib.hid htw
  have HCL := Lib.hid hcl
  have HSH : Hid (∀ c ∈ L, c.length ≤ 1048576) := Lib.hid (fun c hc => by have := htw.short c hc; omega)
  have HFW := Lib.hid (few_any C lc cc cs w1 (HC.out.below htw.bel) hcc)
  clear htw hcl hL HBO
  go_wp2_with fail
  go_at_call 54
  refine HFW.out.mono ?_
  rintro e w1 ⟨rfl, m, d, rfl, hm, hl⟩
  obtain ⟨zs, hzs⟩ : ∃ zs, zs = cs.take m := ⟨_, rfl⟩
  rw [← hzs] at hl
  have HL := Lib.hid hl
  have HSV := Lib.hid (Solve_any s ca n A L C m d zs 0 ⟨by decide, by decide⟩ w1 HTW.out.s HSH.out HCL.out hl (by omega) (by omega))
  clear hl hzs HFW
  go_wp2_with fail
  go_at_call 55
  refine HSV.out.mono ?_
  rintro e w2 ⟨r, f, hr, hbel2, hres⟩
  have HR := Lib.hid hr
  have HB2 := Lib.hid hbel2
  have hf : f ≤ 1023 := by
    have h1 := (Sr.solve_first hr (by omega) HCL.out HL.out.2.1).2
    have h2 : 2 ^ n ≤ 2 ^ 10 := Nat.pow_le_pow_right (by omega) (by omega)
    have h3 : 2 ^ 10 = 1024 := rfl
    omega
  rcases hres with ⟨_, hres⟩ | ⟨h9, _⟩
  case inr => omega
  obtain ⟨A2, m2, c2, rfl, hm2, hbs2⟩ := sol_out hres
  have HS2 := Lib.hid hbs2
  have HSV2 := Lib.hid (Solve_any s ca n A L C m d zs b HOB.out w2 (HTW.out.s.below hbel2) HSH.out HCL.out (HL.out.below hbel2) (by omega) (by omega))
  clear hr hbel2 hres hbs2 HSV
  go_wp2_with fail
  go_at_call 55
  refine HSV2.out.mono ?_
  rintro e w3 ⟨r3, f3, hr3, hbel3, hres3⟩
  obtain ⟨rfl, rfl⟩ := Sr.solve_det hr3 HR.out
  obtain ⟨A3, m3, c3, ok3, er3, rfl, hm3, hg3⟩ := sol_gen hres3
  have HG3 := Lib.hid hg3
  have HB3 := Lib.hid (HB2.out.trans (hbel3.mono HB2.out.size))
  have HB23 := Lib.hid hbel3
  have HSV3 := Lib.hid (Solve_any s ca n A L C m d zs b2 HOB2.out w3 (HTW.out.s.below HB3.out) HSH.out HCL.out (HL.out.below HB3.out) (by omega) (by omega))
  clear hr3 hbel3 hres3 hg3 HSV2 HB2
  go_wp2_with fail
  go_at_call 55
  refine HSV3.out.mono ?_
  rintro e w4 ⟨r4, f4, hr4, hbel4, hres4⟩
  obtain ⟨rfl, rfl⟩ := Sr.solve_det hr4 HR.out
  obtain ⟨A4, m4, c4, ok4, er4, rfl, hm4, hg4⟩ := sol_gen hres4
  have HB4 := Lib.hid (HTW.out.bel.trans ((HB3.out.trans (hbel4.mono HB3.out.size)).mono HTW.out.bel.size))
  have HS24 := Lib.hid (HS2.out.below (HB23.out.trans (hbel4.mono HB23.out.size)))
  have HG4 := Lib.hid hg4
  have HBE4 := Lib.hid hbel4
  clear hr4 hbel4 hres4 hg4 HSV3 HS2 HB3 HB23 HR
  have HAW : Hid (∀ W, Below w4.heap.size w4 W → Calls Try.prog 57 #[] W fun e w' => e = .returned (.bool true) ∧ Below w4.heap.size w4 w') := Lib.hid awake_later
  have hb0 : Below w4.heap.size w4 w4 := Below.refl _ _
  have HSM : Hid (∀ A m c, Hid (m ≤ n ∧ Bools w4 A m (r4.getD [])) → ∀ W, Below w4.heap.size w4 W → Calls Try.prog 56 #[.slice A m c, .slice A2 m2 c2] W fun e w' => e = .returned (.bool true) ∧ Below w4.heap.size w4 w') := Lib.hid (fun A m c h => same_later h.out.2 HS24.out (by have := h.out.1; omega))
  rcases HG3.out with ⟨hi, rfl, rfl, hbs3⟩ | ⟨hp, hlt, rfl, rfl, rfl, rfl⟩
  · have HSM3 := Lib.hid (And.intro hm3 (hbs3.below HBE4.out))
    clear hbs3
    by_cases hbp : 0 < b
    · by_cases hin : b ≤ b2 ∨ b2 ≤ 0
      · rcases HG4.out with ⟨hi4, rfl, rfl, hbs4⟩ | ⟨hp4, hlt4, _⟩
        · have HSM4 := Lib.hid (And.intro hm4 hbs4)
          clear hbs4 hi hi4 hm hn hm2 hm3 hm4 hf
          by_cases h2 : b ≤ b2
          · have h2' : decide (b ≤ b2) = true := decide_eq_true h2
            clear hin
            cases r4 with
            | none =>
              go_wp2_with (first
                | (go_at_call 56; refine (HSM.out _ _ _ (by assumption) _ (by assumption)).mono ?_; rintro e w5 ⟨rfl, hb5⟩)
                | (go_at_call 57; refine (HAW.out _ (by assumption)).mono ?_; rintro e w7 ⟨rfl, hb7⟩))
              go_ret
              exact ⟨rfl, HB4.out.trans (hb7.mono HB4.out.size)⟩
            | some bs =>
              go_wp2_with (first
                | (go_at_call 56; refine (HSM.out _ _ _ (by assumption) _ (by assumption)).mono ?_; rintro e w5 ⟨rfl, hb5⟩)
                | (go_at_call 57; refine (HAW.out _ (by assumption)).mono ?_; rintro e w7 ⟨rfl, hb7⟩))
              go_ret
              exact ⟨rfl, HB4.out.trans (hb7.mono HB4.out.size)⟩
          · have h3 : b2 ≤ 0 := by omega
            have h2' : decide (b ≤ b2) = false := decide_eq_false h2
            have h3' : decide (b2 ≤ 0) = true := decide_eq_true h3
            clear hin
            cases r4 with
            | none =>
              go_wp2_with (first
                | (go_at_call 56; refine (HSM.out _ _ _ (by assumption) _ (by assumption)).mono ?_; rintro e w5 ⟨rfl, hb5⟩)
                | (go_at_call 57; refine (HAW.out _ (by assumption)).mono ?_; rintro e w7 ⟨rfl, hb7⟩))
              go_ret
              exact ⟨rfl, HB4.out.trans (hb7.mono HB4.out.size)⟩
            | some bs =>
              go_wp2_with (first
                | (go_at_call 56; refine (HSM.out _ _ _ (by assumption) _ (by assumption)).mono ?_; rintro e w5 ⟨rfl, hb5⟩)
                | (go_at_call 57; refine (HAW.out _ (by assumption)).mono ?_; rintro e w7 ⟨rfl, hb7⟩))
              go_ret
              exact ⟨rfl, HB4.out.trans (hb7.mono HB4.out.size)⟩
        · exfalso; omega
      · have h2 : ¬ b ≤ b2 := fun h => hin (.inl h)
        have h3 : ¬ b2 ≤ 0 := fun h => hin (.inr h)
        have h2' : decide (b ≤ b2) = false := decide_eq_false h2
        have h3' : decide (b2 ≤ 0) = false := decide_eq_false h3
        clear hin hi hm hn hm2 hm3 hm4 hf
        cases r4 with
        | none =>
          go_wp2_with (first
            | (go_at_call 56; refine (HSM.out _ _ _ (by assumption) _ (by assumption)).mono ?_; rintro e w5 ⟨rfl, hb5⟩)
            | (go_at_call 57; refine (HAW.out _ (by assumption)).mono ?_; rintro e w7 ⟨rfl, hb7⟩))
          go_ret
          exact ⟨rfl, HB4.out.trans (hb7.mono HB4.out.size)⟩
        | some bs =>
          go_wp2_with (first
            | (go_at_call 56; refine (HSM.out _ _ _ (by assumption) _ (by assumption)).mono ?_; rintro e w5 ⟨rfl, hb5⟩)
            | (go_at_call 57; refine (HAW.out _ (by assumption)).mono ?_; rintro e w7 ⟨rfl, hb7⟩))
          go_ret
          exact ⟨rfl, HB4.out.trans (hb7.mono HB4.out.size)⟩
    · have hbp' : decide (0 < b) = false := decide_eq_false hbp
      clear hi hm hn hm2 hm3 hm4 hf
      cases r4 with
      | none =>
        go_wp2_with (first
          | (go_at_call 56; refine (HSM.out _ _ _ (by assumption) _ (by assumption)).mono ?_; rintro e w5 ⟨rfl, hb5⟩)
          | (go_at_call 57; refine (HAW.out _ (by assumption)).mono ?_; rintro e w7 ⟨rfl, hb7⟩))
        go_ret
        exact ⟨rfl, HB4.out.trans (hb7.mono HB4.out.size)⟩
      | some bs =>
        go_wp2_with (first
          | (go_at_call 56; refine (HSM.out _ _ _ (by assumption) _ (by assumption)).mono ?_; rintro e w5 ⟨rfl, hb5⟩)
          | (go_at_call 57; refine (HAW.out _ (by assumption)).mono ?_; rintro e w7 ⟨rfl, hb7⟩))
        go_ret
        exact ⟨rfl, HB4.out.trans (hb7.mono HB4.out.size)⟩
  · have h2 : ¬ b ≤ 0 := by omega
    have h3 : ¬ 2048 < b := by omega
    have h2' : decide (b ≤ 0) = false := decide_eq_false h2
    have h3' : decide (2048 < b) = false := decide_eq_false h3
    clear hlt hm hn hm2 hm3 hm4 hf
    go_wp2_with (go_at_call 57; refine (HAW.out _ (by assumption)).mono ?_; rintro e w7 ⟨rfl, hb7⟩)
    go_ret
    exact ⟨rfl, HB4.out.trans (hb7.mono HB4.out.size)⟩
open Go.ChangeShapes Go.WideShapes Go.ChangeAt in
set_option maxRecDepth 100000 in
theorem satBudget_walk {H : Type} {enc : TypeId × Value → H} (W : World) {base : Nat} (v0 v1 v2 v3 v4 : Value) {d0 d1 d2 d3 d4 : DataW H} {p0 p1 p2 p3 p4 : List MemPlace}
    (h0 : DataW.Trod enc Try.prog W 0 (fun _ => true) true 3 v0 d0 p0) (o0 : Value.okWide Try.prog W .any base 3 v0)
    (h1 : DataW.Trod enc Try.prog W 0 (fun _ => true) true 28 v1 d1 p1) (o1 : Value.okWide Try.prog W .any base 28 v1)
    (h2 : DataW.Trod enc Try.prog W 0 (fun _ => true) true 22 v2 d2 p2) (o2 : Value.okWide Try.prog W .any base 22 v2)
    (h3 : DataW.Trod enc Try.prog W 0 (fun _ => true) true 3 v3 d3 p3) (o3 : Value.okWide Try.prog W .any base 3 v3)
    (h4 : DataW.Trod enc Try.prog W 0 (fun _ => true) true 3 v4 d4 p4) (o4 : Value.okWide Try.prog W .any base 3 v4)
    (hk : Rows.uptoBulkAll [d0, d1, d2, d3, d4] ≤ 1048576) :
    Calls Try.prog 15 #[v0, v1, v2, v3, v4] W fun e w' => e = .returned (.bool true) ∧ Below W.heap.size W w' := by
  obtain ⟨x, rfl, rfl, rfl, wx⟩ := open_int Try.underlying3 o0 h0
  obtain ⟨Z, hz, hZ, _⟩ := open_cls h1 o1
  obtain ⟨C, lc, cc, cs, rfl, hc, hcc, _, hlc⟩ := open_lits h2 o2
  obtain ⟨b, rfl, rfl, rfl, wb⟩ := open_int Try.underlying3 o3 h3
  obtain ⟨b2, rfl, rfl, rfl, wb2⟩ := open_int Try.underlying3 o4 h4
  simp only [Rows.uptoBulkAll] at hk
  exact satBudget_any x b b2 (by simpa [Ok, Lit.wf, IntKind.min, IntKind.max, IntKind.signed, IntKind.bits] using wb) (by simpa [Ok, Lit.wf, IntKind.min, IntKind.max, IntKind.signed, IntKind.bits] using wb2) v1 Z C lc cc cs W hz (by omega) hc hcc
end Go.Proofs.Ytghfelfljblkbaa
