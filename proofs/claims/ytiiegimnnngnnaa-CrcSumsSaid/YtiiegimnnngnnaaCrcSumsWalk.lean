/- The law CrcSums, walked. -/
import Derived.Test.YtiiegimnnngnnaaCrc
import Derived.Test.YtiiegimnnngnnaaOpen
namespace Go.Proofs.Ytiiegimnnngnnaa
open Go.RowKit
set_option linter.unusedVariables false

theorem u32_nat {x : Int} (h : (Lit.int .u32 x).wf = true) : ∃ n : Nat, x = (n : Int) ∧ n < 4294967296 := by
  have h2 : 0 ≤ x ∧ x ≤ 4294967295 := by simpa [Lit.wf, IntKind.min, IntKind.max, IntKind.signed, IntKind.bits] using h
  exact ⟨x.toNat, by omega, by omega⟩

theorem sums (A : Option Addr) (n cp : Nat) (bs : List Nat) (s : Nat) (w : World) (hs : s < 4294967296) (hb : Bytes w A n bs) (hn : n ≤ maxLen) :
    Calls Try.prog 3 #[.slice A n cp, .int .u32 (s : Int)] w fun e w' => e = .returned (.bool true) ∧ Below w.heap.size w w' := by
  have H1 := Lib.hid (Sum_any A n cp bs w hb hn)
  have H2 := Lib.hid (RefSum_any A n cp bs w hb hn)
  have H3 := Lib.hid (More_any s A n cp bs w hs hb hn)
  have H4 := Lib.hid (RefMore_any s A n cp bs w hs hb hn)
  clear hb
  generalize CrcLaw.sum bs = x at *
  generalize CrcLaw.more s bs = y at *
  go_enter Try.func3, Try.ntmps3
  go_wp2_with (first
    | (go_at_call 23; refine H1.out.mono ?_; rintro e w' ⟨rfl, rfl⟩)
    | (go_at_call 24; refine H2.out.mono ?_; rintro e w' ⟨rfl, rfl⟩)
    | (go_at_call 25; refine H3.out.mono ?_; rintro e w' ⟨rfl, rfl⟩)
    | (go_at_call 26; refine H4.out.mono ?_; rintro e w' ⟨rfl, rfl⟩)
    | (go_at_call 27; refine (awake1 _).mono ?_; rintro e w' ⟨rfl, hbel⟩))
  go_ret
  exact ⟨rfl, hbel⟩

section
open Go.ChangeShapes Go.WideShapes Go.ChangeAt
theorem crcSums_walk {H : Type} {enc : TypeId × Value → H} (W : World) {base : Nat} (v0 v1 : Value) {d0 d1 : DataW H} {p0 p1 : List MemPlace} (h0 : DataW.Trod enc Try.prog W 0 (fun _ => true) true 22 v0 d0 p0) (o0 : Value.okWide Try.prog W .any base 22 v0)
    (h1 : DataW.Trod enc Try.prog W 0 (fun _ => true) true 23 v1 d1 p1) (o1 : Value.okWide Try.prog W .any base 23 v1) :
    Calls Try.prog 3 #[v0, v1] W fun e w' => e = .returned (.bool true) ∧ Below W.heap.size W w' := by
  obtain ⟨A, n, cp, bs, rfl, hb, hn, hc, _⟩ := open_bytes h0 o0
  obtain ⟨x, rfl, rfl, rfl, wx⟩ := open_int Try.underlying23 o1 h1
  obtain ⟨s, rfl, hs⟩ := u32_nat wx
  exact sums A n cp bs s W hs hb (Nat.le_trans hn hc)
end
end Go.Proofs.Ytiiegimnnngnnaa
