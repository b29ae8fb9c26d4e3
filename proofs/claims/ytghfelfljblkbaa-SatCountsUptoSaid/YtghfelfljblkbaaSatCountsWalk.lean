/- SatCounts: the walk. -/
import Derived.Test.YtghfelfljblkbaaCnt5
import Derived.Test.YtghfelfljblkbaaCntR
import Derived.Test.YtghfelfljblkbaaMk
namespace Go.Proofs.Ytghfelfljblkbaa
open Go.RowKit Go.Sort
set_option linter.unusedVariables false

set_option maxRecDepth 100000 in
set_option maxHeartbeats 4000000 in
theorem satCounts_any (x mx : Int) (hmx : Ok mx) (v : Value) (Z : List (List Int)) (w : World) (hz : ClsAt w v Z) (hZ : Z.length ≤ 4294967296) :
    Calls Try.prog 19 #[.int .i64 x, v, .int .i64 mx] w fun e w' => e = .returned (.bool true) ∧ Below w.heap.size w w' := by
  have HBO := Lib.hid (bothS_any x v Z w hz hZ)
  obtain ⟨AZ, cZ, rfl, _⟩ := hz
  have HMX := Lib.hid hmx
  clear hmx
  go_enter Try.func19, Try.ntmps19
  go_wp2_with fail
  go_at_call 53
  refine HBO.out.mono ?_
  rintro e w1 ⟨n, s, q0, A, B, ca, cb, rfl, hn, htw, hcl⟩
  obtain ⟨L, hL⟩ : ∃ L, L = bothQ 40 10 n Z 0 [] := ⟨_, rfl⟩
  rw [← hL] at htw hcl
  have hsh : ∀ c ∈ L, c.length ≤ 1048576 := fun c hc => by have := htw.short c hc; omega
  obtain ⟨N, hN⟩ : ∃ N, N = Ct.cnt (fun k => holdsL (vec n k) L) 0 (2 ^ n) := ⟨_, rfl⟩
  have hmod := Models_any q0 cb n B (fun i => i < w1.heap.size) L w1 htw.r.blk htw.r.clsK htw.r.len hsh (by omega)
  rw [← hN] at hmod
  have HMO := Lib.hid hmod
  have HCN : Hid (∀ W, Below w1.heap.size w1 W → Calls Try.prog 61 #[.pointer (some ⟨s, 0, none⟩), .int .i64 mx] W fun e w' => e = .returned (.int .i64 (if 1 ≤ mx then min mx (N : Int) else 0)) ∧ Below W.heap.size W w') := Lib.hid (fun W hW => by
    have := Count_any s ca n A L mx HMX.out W (htw.s.below hW) hsh hcl (by omega)
    rw [← hN] at this
    exact this)
  have HB1 := Lib.hid htw.bel
  have HAW := Lib.hid (fun W => awakeS_any W)
  have hb11 : Below w1.heap.size w1 w1 := Below.refl _ _
  clear htw hcl hL HBO hmod hN
  by_cases h1 : 1 ≤ mx
  · have h0 : 0 < mx := by omega
    have HCN2 : Hid (∀ W, Below w1.heap.size w1 W → Calls Try.prog 61 #[.pointer (some ⟨s, 0, none⟩), .int .i64 mx] W fun e w' => e = .returned (.int .i64 (min mx (N : Int))) ∧ Below W.heap.size W w') := Lib.hid (by have := HCN.out; rw [if_pos h1] at this; exact this)
    clear HCN h1
    go_wp2_with fail
    go_at_call 60
    refine HMO.out.mono ?_
    rintro e w2 ⟨rfl, hb2⟩
    have HC2 := Lib.hid (HCN2.out w2 hb2)
    have HB2 := Lib.hid (HB1.out.trans (hb2.mono HB1.out.size))
    clear HCN2 HMO hb2
    go_wp2_with (first
      | (go_at_call 61; refine HC2.out.mono ?_; rintro e w3 ⟨rfl, hb3⟩)
      | (go_at_call 57; refine (HAW.out _).mono ?_; rintro e w5 ⟨rfl, hb5⟩))
    go_ret
    exact ⟨rfl, HB2.out.trans ((hb3.trans (hb5.mono hb3.size)).mono HB2.out.size)⟩
  · have h0 : ¬ 0 < mx := by omega
    have HC2 : Hid (Calls Try.prog 61 #[.pointer (some ⟨s, 0, none⟩), .int .i64 mx] w1 fun e w' => e = .returned (.int .i64 0) ∧ Below w1.heap.size w1 w') := Lib.hid (by have := HCN.out w1 hb11; rw [if_neg h1] at this; exact this)
    clear HCN HMO h1
    go_wp2_with (first
      | (go_at_call 61; refine HC2.out.mono ?_; rintro e w3 ⟨rfl, hb3⟩)
      | (go_at_call 57; refine (HAW.out _).mono ?_; rintro e w5 ⟨rfl, hb5⟩))
    go_ret
    exact ⟨rfl, HB1.out.trans ((hb3.trans (hb5.mono hb3.size)).mono HB1.out.size)⟩
open Go.ChangeShapes Go.WideShapes Go.ChangeAt in
set_option maxRecDepth 100000 in
theorem satCounts_walk {H : Type} {enc : TypeId × Value → H} (W : World) {base : Nat} (v0 v1 v2 : Value) {d0 d1 d2 : DataW H} {p0 p1 p2 : List MemPlace}
    (h0 : DataW.Trod enc Try.prog W 0 (fun _ => true) true 3 v0 d0 p0) (o0 : Value.okWide Try.prog W .any base 3 v0)
    (h1 : DataW.Trod enc Try.prog W 0 (fun _ => true) true 28 v1 d1 p1) (o1 : Value.okWide Try.prog W .any base 28 v1)
    (h2 : DataW.Trod enc Try.prog W 0 (fun _ => true) true 3 v2 d2 p2) (o2 : Value.okWide Try.prog W .any base 3 v2)
    (hk : Rows.uptoBulkAll [d0, d1, d2] ≤ 1048576) :
    Calls Try.prog 19 #[v0, v1, v2] W fun e w' => e = .returned (.bool true) ∧ Below W.heap.size W w' := by
  obtain ⟨x, rfl, rfl, rfl, wx⟩ := open_int Try.underlying3 o0 h0
  obtain ⟨y, rfl, rfl, rfl, wy⟩ := open_int Try.underlying3 o2 h2
  obtain ⟨Z, hz, hZ, _⟩ := open_cls h1 o1
  simp only [Rows.uptoBulkAll] at hk
  exact satCounts_any x y (by simpa [Ok, Lit.wf, IntKind.min, IntKind.max, IntKind.signed, IntKind.bits] using wy) v1 Z W hz (by omega)
end Go.Proofs.Ytghfelfljblkbaa
