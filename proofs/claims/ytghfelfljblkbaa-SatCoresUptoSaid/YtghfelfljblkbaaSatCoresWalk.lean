/- SatCores: the walk. -/
import Derived.Test.YtghfelfljblkbaaCoreS
import Derived.Test.YtghfelfljblkbaaCoreR
import Derived.Test.YtghfelfljblkbaaSameL
namespace Go.Proofs.Ytghfelfljblkbaa
open Go.RowKit Go.Sort
set_option linter.unusedVariables false

set_option maxRecDepth 100000 in
set_option maxHeartbeats 4000000 in
theorem satCores_any (x : Int) (v : Value) (Z : List (List Int)) (C : Option Addr) (lc cc : Nat) (cs : List Int) (w : World) (hz : ClsAt w v Z) (hZ : Z.length ≤ 4294967296) (hc : Lits w C lc cs) (hcc : lc ≤ cc) :
    Calls Try.prog 18 #[.int .i64 x, v, .slice C lc cc] w fun e w' => e = .returned (.bool true) ∧ Below w.heap.size w w' := by
  have HBO := Lib.hid (bothS_any x v Z w hz hZ)
  obtain ⟨AZ, cZ, rfl, _⟩ := hz
  have HC := Lib.hid hc
  clear hc
  go_enter Try.func18, Try.ntmps18
  go_wp2_with fail
  go_at_call 53
  refine HBO.out.mono ?_
  rintro e w1 ⟨n, s, q0, A, B, ca, cb, rfl, hn, htw, hcl⟩
  obtain ⟨L, hL⟩ : ∃ L, L = bothQ 40 10 n Z 0 [] := ⟨_, rfl⟩
  rw [← hL] at htw hcl
  have HTW := Lib.hid htw
  have HCL := Lib.hid hcl
  have HSH : Hid (∀ c ∈ L, c.length ≤ 1048576) := Lib.hid (fun c hc => by have := htw.short c hc; omega)
  have HFW := Lib.hid (few_any C lc cc cs w1 (HC.out.below htw.bel) hcc)
  clear htw hcl hL HBO
  go_wp2_with fail
  go_at_call 54
  refine HFW.out.mono ?_
  rintro e w1 ⟨rfl, m, d, rfl, hm, hl⟩
  obtain ⟨zs, hzs⟩ : ∃ zs, zs = cs.take m := ⟨_, rfl⟩
  rw [← hzs] at hl
  have HL := Lib.hid hl
  have HCO := Lib.hid (Core_any s ca n A L C m d zs w1 HTW.out.s HSH.out HCL.out hl (by omega) (by omega))
  obtain ⟨r, hr⟩ : ∃ r, r = coreR n L zs := ⟨_, rfl⟩
  rw [← hr] at HCO
  have HR := Lib.hid hr
  have HRL : Hid ((r.getD []).length ≤ 40) := Lib.hid (by
    rw [hr]
    unfold coreR
    split
    · simp
    · split
      · simp
      · have := coreGo_len (p := canS n L) zs.length zs 0
        have := hl.1
        rw [Option.getD_some]
        omega)
  clear hl hzs hr HFW
  go_wp2_with fail
  go_at_call 58
  refine HCO.out.mono ?_
  rintro e w2 ⟨hb2, A2, m2, c2, rfl, hl2⟩
  have HS2 := Lib.hid hl2
  have HB2 := Lib.hid hb2
  have HRC := Lib.hid (RCore_any q0 cb n B (fun i => i < w1.heap.size) L C m d zs w2 (HTW.out.r.blk.below hb2 HTW.out.r.blk.lt) (HTW.out.r.clsK.below hb2) HTW.out.r.len HSH.out (by omega) (HL.out.below hb2) (by omega))
  rw [← HR.out] at HRC
  clear hl2 hb2 HCO
  go_wp2_with fail
  go_at_call 59
  refine HRC.out.mono ?_
  rintro e w3 ⟨hb3, A3, m3, c3, rfl, hl3⟩
  have hsm := SameLits_any A2 A3 m2 m3 c2 c3 _ _ w3 (HS2.out.below hb3) hl3 (by have := HRL.out; have := HS2.out.1; omega)
  rw [decide_eq_true rfl] at hsm
  have HSM := Lib.hid hsm
  have HB3 := Lib.hid (HTW.out.bel.trans ((HB2.out.trans (hb3.mono HB2.out.size)).mono HTW.out.bel.size))
  have HAW := Lib.hid (fun W => awakeS_any W)
  clear hl3 hsm hb3 HRC HS2 HB2 HL HR HRL
  cases r with
  | none =>
    go_wp2_with (first
      | (go_at_call 25; refine HSM.out.mono ?_; rintro e w4 ⟨rfl, hb4⟩)
      | (go_at_call 57; refine (HAW.out _).mono ?_; rintro e w5 ⟨rfl, hb5⟩))
    go_ret
    exact ⟨rfl, HB3.out.trans ((hb4.trans (hb5.mono hb4.size)).mono HB3.out.size)⟩
  | some bs =>
    go_wp2_with (first
      | (go_at_call 25; refine HSM.out.mono ?_; rintro e w4 ⟨rfl, hb4⟩)
      | (go_at_call 57; refine (HAW.out _).mono ?_; rintro e w5 ⟨rfl, hb5⟩))
    go_ret
    exact ⟨rfl, HB3.out.trans ((hb4.trans (hb5.mono hb4.size)).mono HB3.out.size)⟩
open Go.ChangeShapes Go.WideShapes Go.ChangeAt in
set_option maxRecDepth 100000 in
theorem satCores_walk {H : Type} {enc : TypeId × Value → H} (W : World) {base : Nat} (v0 v1 v2 : Value) {d0 d1 d2 : DataW H} {p0 p1 p2 : List MemPlace}
    (h0 : DataW.Trod enc Try.prog W 0 (fun _ => true) true 3 v0 d0 p0) (o0 : Value.okWide Try.prog W .any base 3 v0)
    (h1 : DataW.Trod enc Try.prog W 0 (fun _ => true) true 28 v1 d1 p1) (o1 : Value.okWide Try.prog W .any base 28 v1)
    (h2 : DataW.Trod enc Try.prog W 0 (fun _ => true) true 22 v2 d2 p2) (o2 : Value.okWide Try.prog W .any base 22 v2)
    (hk : Rows.uptoBulkAll [d0, d1, d2] ≤ 1048576) :
    Calls Try.prog 18 #[v0, v1, v2] W fun e w' => e = .returned (.bool true) ∧ Below W.heap.size W w' := by
  obtain ⟨x, rfl, rfl, rfl, wx⟩ := open_int Try.underlying3 o0 h0
  obtain ⟨Z, hz, hZ, _⟩ := open_cls h1 o1
  obtain ⟨C, lc, cc, cs, rfl, hc, hcc, _, hlc⟩ := open_lits h2 o2
  simp only [Rows.uptoBulkAll] at hk
  exact satCores_any x v1 Z C lc cc cs W hz (by omega) hc hcc
end Go.Proofs.Ytghfelfljblkbaa
