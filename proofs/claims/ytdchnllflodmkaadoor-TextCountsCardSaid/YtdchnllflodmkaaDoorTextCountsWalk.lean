/- TextCounts: the walk. -/
import Derived.Test.YtdchnllflodmkaaDoorTxt4
import Derived.Test.YtdchnllflodmkaaDoorNumber2
import Derived.Test.YtdchnllflodmkaaDoorAwake4
import Derived.ProofKit
import Derived.Laws.BytesArg
import Derived.Lib.Bytes
import Derived.OpenShut
import Derived.ShutString
import Derived.RegionTactic
import Derived.Deep.DeepCutAuto
import Derived.Deep.CutBlock
namespace Go.Proofs.YtdchnllflodmkaaDoor
open Go.RowKit
set_option linter.unusedVariables false

theorem small_num (m : Int) : ∃ N : Nat, wrap64 ((IntKind.u64.wrap m).tmod 1000000000) = (N : Int) ∧ N < 1000000000 := by
  obtain ⟨z, hz⟩ : ∃ z, z = IntKind.u64.wrap m := ⟨_, rfl⟩
  have e : IntKind.u64.wrap m = m % 18446744073709551616 := rfl
  have h0 : 0 ≤ z := by rw [hz, e]; omega
  rw [← hz, Int.tmod_eq_emod_of_nonneg h0]
  refine ⟨(z % 1000000000).toNat, ?_, by omega⟩
  unfold wrap64
  omega
theorem one_byte (c : Nat) (hc : c < 256) (w : World) :
    ∃ b : ByteArray, b.size = 1 ∧ byteAt b 0 = c ∧
      (convert 29 9 (.slice (some ⟨w.heap.size, 0, none⟩) 1 1)).run Tryd.prog (w.alloc (.cells #[.int .u8 (c : Int)] 5)) = .ok (.string b) (w.alloc (.cells #[.int .u8 (c : Int)] 5)) := by
  refine ⟨ByteArray.mk #[UInt8.ofNat c], rfl, ?_, ?_⟩
  · show (UInt8.ofNat c).toNat = c
    simp
    omega
  · have h := run_convert_bytes_arg (P := Tryd.prog) (w.alloc (.cells #[.int .u8 (c : Int)] 5)) 29 5 Tryd.underlying29 Tryd.underlying5 w.heap.size 0 1 1 [(c : Int)] rfl (by
      intro i hi
      obtain rfl : i = 0 := by omega
      show (w.alloc (.cells #[.int .u8 (c : Int)] 5)).cell? ⟨w.heap.size, 0, none⟩ = _
      rw [World.cell?_alloc_new]
      rfl) 9 Tryd.underlying9
    rw [h]
    rfl
set_option maxRecDepth 100000 in
set_option maxHeartbeats 4000000 in
theorem textCounts_any (m : Int) (w : World) (hT : Lib.Utf8Tabs 0 1 w) :
    Calls Tryd.prog 6 #[.int .i64 m] w fun e w' => e = .returned (.bool true) ∧ Below w.heap.size w w' := by
  have HT := Lib.hid hT
  clear hT
  go_enter Tryd.func6, Tryd.ntmps6
  go_wp2
  obtain ⟨n, hn, hn9⟩ := small_num m
  rw [hn]
  clear hn
  go_loopw [3, 4] (fun v k wr => ∃ (s : ByteArray) (a j : Nat), v = .string s ∧ k = .int .i64 a ∧ Below w.heap.size w wr ∧ Hid (Inv n a j s) ∧ a ≤ n) (fun _ k _ => match k with | .int _ a => a.toNat | _ => 0)
  case atStart => exact ⟨_, n, 0, rfl, rfl, Below.refl _ _, Lib.hid (Inv.start n), Nat.le_refl _⟩
  case round =>
    obtain ⟨s, a, j, rfl, rfl, hb, HI, han⟩ := hrel
    obtain ⟨b, hb1, hb0, hcv⟩ := one_byte (48 + a % 10) (by omega) wr
    have ecast : ((48 + a % 10 : Nat) : Int) = 48 + (a : Int) % 10 := by omega
    rw [ecast] at hcv
    have hs8 : s.size ≤ 8 := by rw [HI.out.size]; exact HI.out.short hn9
    have hb' : Below w.heap.size w (wr.alloc (.cells #[.int .u8 (48 + (a : Int) % 10)] 5)) := hb.alloc hb.size _
    by_cases hk : a < 10
    · have HL := Lib.hid (HI.out.last b hb1 hb0 hk hn9)
      have hS := HL.out.2.2
      have hS1 := HL.out.2.1
      have h1 := fun W => Number_any (b ++ s) W (by omega)
      have h2 := fun W => Number_any (ByteArray.mk #[48] ++ (b ++ s)) W (by rw [app_size]; show 1 + _ ≤ _; omega)
      have h3 := fun W => Number_any (ByteArray.mk #[45] ++ (b ++ s)) W (by rw [app_size]; show 1 + _ ≤ _; omega)
      have h4 := fun W => Number_any ((b ++ s) ++ ByteArray.mk #[48, 49, 50, 51, 52, 53, 54, 55, 56, 57]) W (by rw [app_size]; show _ + 10 ≤ _; omega)
      rw [HL.out.1] at h1
      rw [no_zero _ hS1] at h2
      rw [no_minus _ hS1] at h3
      rw [no_long] at h4
      unfold numV at h1 h2 h3 h4
      have H1 := Lib.hid h1
      have H2 := Lib.hid h2
      have H3 := Lib.hid h3
      have H4 := Lib.hid h4
      have HB := Lib.hid hb'
      clear h1 h2 h3 h4 hb' hb hb0
      go_wp2_with fail
      generalize b ++ s = S at *
      refine (H1.out _).mono ?_
      rintro e w1 ⟨rfl, hb1⟩
      have hb1' := HB.out.trans (hb1.mono HB.out.size)
      go_wp2_with fail
      refine (H2.out _).mono ?_
      rintro e w2 ⟨rfl, hb2⟩
      have hb2' := hb1'.trans (hb2.mono hb1'.size)
      go_wp2_with fail
      refine (H3.out _).mono ?_
      rintro e w3 ⟨rfl, hb3⟩
      have hb3' := hb2'.trans (hb3.mono hb2'.size)
      go_wp2_with fail
      refine (H4.out _).mono ?_
      rintro e w4 ⟨rfl, hb4⟩
      have hb4' := hb3'.trans (hb4.mono hb3'.size)
      go_wp2_with fail
      refine (awake4_any _ (tabs_later HT.out hb4')).mono ?_
      rintro e w5 ⟨rfl, hb5⟩
      go_wp2_with fail
      go_ret
      exact ⟨rfl, hb4'.trans (hb5.mono hb4'.size)⟩
    · have HI2 := Lib.hid (HI.out.step b hb1 hb0 (by omega))
      have HB := Lib.hid hb'
      clear hb' hb
      go_wp2
      refine ⟨⟨b ++ s, a / 10, j + 1, rfl, by go_num, HB.out, HI2, by omega⟩, ?_⟩
      show ((a : Int) / 10).toNat < (a : Int).toNat
      omega
section
open Go.ChangeShapes Go.WideShapes Go.ChangeAt Go.ChangeMaps
theorem textCounts_walk {H : Type} {enc : TypeId × Value → H} (W : World) {base : Nat} (v0 : Value) {d0 : DataW H} {p0 : List MemPlace} (h0 : DataW.Trod enc Tryd.prog W 0 (fun _ => true) true 3 v0 d0 p0) (o0 : Value.okWide Tryd.prog W .any base 3 v0)
    (hT : Lib.Utf8Tabs 0 1 W) :
    Calls Tryd.prog 6 #[v0] W fun e w' => e = .returned (.bool true) ∧ Below W.heap.size W w' := by
  obtain ⟨n, rfl, rfl, rfl, wn⟩ := open_int Tryd.underlying3 o0 h0
  exact textCounts_any n W hT
end
end Go.Proofs.YtdchnllflodmkaaDoor
