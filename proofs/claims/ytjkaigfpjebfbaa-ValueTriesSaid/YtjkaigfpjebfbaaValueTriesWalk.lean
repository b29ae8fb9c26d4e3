/- ValueTries: the walk. -/
import Derived.Test.YtjkaigfpjebfbaaVaw2
import Derived.Test.YtjkaigfpjebfbaaRows
import Derived.ShutString
import Derived.ChangeOld
namespace Go.Proofs.Ytjkaigfpjebfbaa
open Go.RowKit
set_option linter.unusedVariables false

theorem ent_vt : ∀ (args : Array Value) (w : World), (callFunc 8 args).run Try.prog w = .ok (.enter 8 args) w := enters_of Try.func8 (by kernel_rfl) rfl
set_option maxRecDepth 100000 in
theorem vt1_any (p q : Addr) (n x : Int) (w : World) (hp : w.cell? p = some (.int .i64 n)) (hq : w.cell? q = some (.int .i64 x)) (hz : w.frozen? q = false) :
    Calls Try.prog 8 #[.pointer (some p), .pointer (some q)] w fun e w' => e = .returned (.tuple #[]) ∧ w' = w.setCell q (.int .i64 n) := by
  go_enter Try.func8, Try.ntmps8
  go_wp2_with fail
  go_end0
  exact ⟨rfl, rfl⟩
set_option maxRecDepth 100000 in
set_option maxHeartbeats 1000000 in
theorem valueTries_any (n : Int) (s : ByteArray) (w : World) : Calls Try.prog 3 #[.int .i64 n, .string s] w fun e w' => e = .returned (.bool true) ∧ Below w.heap.size w w' := by
  obtain ⟨w2, hw2⟩ : ∃ w2, w2 = (w.alloc (.cells #[.int .i64 n] 3)).alloc (.cells #[.int .i64 0] 3) := ⟨_, rfl⟩
  have hz1 : (w.alloc (.cells #[.int .i64 n] 3)).heap.size = w.heap.size + 1 := by simp
  have hz2 : w2.heap.size = w.heap.size + 2 := by rw [hw2]; simp
  have hk2 : Blk w2 (w.heap.size + 1) 3 #[.int .i64 0] := by rw [hw2, ← hz1]; exact Blk.new _ _ _
  have hk1 : Blk w2 w.heap.size 3 #[.int .i64 n] := by rw [hw2]; exact (Blk.new w _ _).alloc _
  have hB2 : Below w.heap.size w w2 := by rw [hw2]; exact ((Below.refl _ _).alloc (Nat.le_refl _) _).alloc (by simp) _
  have hT := Try_ret 8 #[.pointer (some ⟨w.heap.size, 0, none⟩), .pointer (some ⟨w.heap.size + 1, 0, none⟩)] w2 (fun w' => w' = (w2.alloc (.cells #[.pointer none] 22)).setCell ⟨w.heap.size + 1, 0, none⟩ (.int .i64 n)) ent_vt
    (vt1_any _ _ n 0 _ ((hk1.alloc _).cell 0) ((hk2.alloc _).cell 0) ((hk2.alloc _).frozen 0)) (by
      rintro w' rfl
      have := (Blk.new w2 22 #[.pointer none]).far (p := ⟨w.heap.size + 1, 0, none⟩) (by show w2.heap.size ≠ w.heap.size + 1; omega) (.int .i64 n)
      exact ⟨this.cell 0, this.frozen 0⟩)
  have HT : Hid (Calls Try.prog 7 #[.func (Fn.func 8) #[] #[.pointer (some ⟨w.heap.size, 0, none⟩), .pointer (some ⟨w.heap.size + 1, 0, none⟩)]] w2 fun e w' => e = .returned (.pointer none) ∧ Hid (Blk w' w.heap.size 3 #[.int .i64 n] ∧ Blk w' (w.heap.size + 1) 3 #[.int .i64 n] ∧ Below w.heap.size w w')) := Lib.hid (by
    refine hT.mono ?_
    rintro e w' ⟨rfl, w1, rfl, rfl⟩
    refine ⟨rfl, Lib.hid ⟨?_, ?_, ?_⟩⟩
    · exact ((hk1.alloc _).far (p := ⟨w.heap.size + 1, 0, none⟩) (by show w.heap.size ≠ w.heap.size + 1; omega) _).far (p := ⟨w2.heap.size, 0, none⟩) (by show w.heap.size ≠ w2.heap.size; omega) _
    · exact ((hk2.alloc _).set_ 0 _).far (p := ⟨w2.heap.size, 0, none⟩) (by show w.heap.size + 1 ≠ w2.heap.size; omega) _
    · exact ((hB2.alloc hB2.size _).setCell (by show w.heap.size ≤ w.heap.size + 1; omega) _).setCell (by show w.heap.size ≤ w2.heap.size; omega) _)
  have HN := Lib.hid (fun W => Try_nil W)
  have HE := Lib.hid (fun W => Error_nil W)
  have HO := Lib.hid (fun W => out_any s W)
  have HA := Lib.hid (fun W => awake_any W)
  have hmf := mf_any
  have q1 : (s.toList == s.toList) = true := by simp
  have q2 : (n != n) = false := by simp
  clear hT hk1 hk2 hB2 hz1 hz2
  go_enter Try.func3, Try.ntmps3
  go_wp2_with (first | (go_at_call 7; rw [← hw2]; refine (HT.out).mono ?_; rintro e w3 ⟨rfl, hq⟩; have k0 : w3.cell? ⟨w.heap.size, 0, none⟩ = some (.int .i64 n) := hq.out.1.cell 0; have k1 : w3.cell? ⟨w.heap.size + 1, 0, none⟩ = some (.int .i64 n) := hq.out.2.1.cell 0) | (go_at_call 7; refine (HN.out _).mono ?_; rintro e w4 ⟨rfl, hb4⟩; have HB4 := Lib.hid (hq.out.2.2.trans (hb4.mono hq.out.2.2.size)); clear hb4) | (go_at_call 9; refine (HE.out _).mono ?_; rintro e w5 ⟨rfl, rfl⟩) | (go_at_call 10; refine (HO.out _).mono ?_; rintro e w6 ⟨rfl, hb6⟩; have HB6 := Lib.hid (HB4.out.trans (hb6.mono HB4.out.size)); clear hb6) | (go_at_call 11; refine (HA.out _).mono ?_; rintro e w7 ⟨rfl, hb7⟩; have HB7 := Lib.hid (HB6.out.trans (hb7.mono HB6.out.size)); clear hb7))
  go_ret
  exact ⟨rfl, HB7.out⟩
section
open Go.ChangeShapes Go.WideShapes Go.ChangeAt Go.ChangeMaps
set_option maxRecDepth 100000 in
theorem valueTries_walk {H : Type} {enc : TypeId × Value → H} (W : World) {base : Nat} (v0 v1 : Value) {d0 d1 : DataW H} {p0 p1 : List MemPlace}
    (h0 : DataW.Trod enc Try.prog W 0 (fun _ => true) true 3 v0 d0 p0) (o0 : Value.okWide Try.prog W .any base 3 v0)
    (h1 : DataW.Trod enc Try.prog W 0 (fun _ => true) true 9 v1 d1 p1) (o1 : Value.okWide Try.prog W .any base 9 v1) :
    Calls Try.prog 3 #[v0, v1] W fun e w' => e = .returned (.bool true) ∧ Below W.heap.size W w' := by
  obtain ⟨n, rfl, rfl, rfl, w0⟩ := open_int Try.underlying3 o0 h0
  obtain ⟨s, rfl, rfl, rfl, w1⟩ := open_string Try.underlying9 o1 h1
  exact valueTries_any n s W
end
end Go.Proofs.Ytjkaigfpjebfbaa
