/- TextLines: the walk. -/
import Derived.Test.YtdchnllflodmkaaDoorRefLines
import Derived.Test.YtdchnllflodmkaaDoorRows
import Derived.Test.YtdchnllflodmkaaDoorOpen
namespace Go.Proofs.YtdchnllflodmkaaDoor
open Go.RowKit Go.Shelf Go.Lib
set_option linter.unusedVariables false

theorem rl_len : ∀ (t cur : List UInt8), (rl t cur).length ≤ t.length + 1
  | [], cur => by
    show (if cur = [] then [] else [cur]).length ≤ _
    split <;> simp
  | c :: t, cur => by
    show (if c = 10 then cur :: rl t [] else rl t (cur ++ [c])).length ≤ _
    have h1 := rl_len t []
    have h2 := rl_len t (cur ++ [c])
    rw [List.length_cons]
    split
    · rw [List.length_cons]; omega
    · omega
theorem got_len (s : ByteArray) : (linesGot s).length ≤ s.size + 1 := by
  unfold linesGot
  split
  · unfold linesOf
    rw [List.length_map]
    exact rl_len (bl s) []
  · simp
set_option maxRecDepth 100000 in
set_option maxHeartbeats 1000000 in
theorem textLines_any (A : Option Addr) (n cp : Nat) (bs : List Nat) (w : World) (hb : Bytes w A n bs) (hcp : n ≤ cp) (hn : n < 4294967281) (hT : Lib.Utf8Tabs 0 1 w) (hM : MaxLenAt w) :
    Calls Tryd.prog 9 #[.slice A n cp] w fun e w' => e = .returned (.bool true) ∧ Below w.heap.size w w' := by
  have HBT := Lib.hid hb
  have hl := hb.1
  have hlen : (linesGot (toS bs)).length ≤ 9223372036854775807 := by
    have := got_len (toS bs)
    rw [toS_size] at this
    omega
  have HL1 := Lib.hid (Lines_any A n cp bs w hb hn hT hM)
  have HL2 := Lib.hid (fun W (hW : Below w.heap.size w W) => RefLines_any A n cp bs W (hb.below hW) hcp hn)
  obtain ⟨M, hM2⟩ : ∃ M, M = linesGot (toS bs) := ⟨_, rfl⟩
  obtain ⟨q, hq⟩ : ∃ q, q = linesErr (toS bs) := ⟨_, rfl⟩
  obtain ⟨x, y⟩ := q
  simp only [← hM2, ← hq] at HL1 HL2 hlen
  have HSM := Lib.hid (fun (W : World) (v1 v2 : Value) (x1 : TextsAt W v1 M) (x2 : TextsAt W v2 M) => SameTexts_any M v1 v2 W x1 x2 hlen)
  have HT := Lib.hid hT
  clear hT hM hM2 hq hlen hb hl
  go_enter Tryd.func9, Tryd.ntmps9
  go_wp2_with fail
  go_at_call 24
  refine (HL1.out).mono ?_
  rintro e w1 ⟨v1, rfl, ht1, hb1⟩
  have HT1 := Lib.hid ht1
  clear ht1
  obtain ⟨W1, hW1⟩ : ∃ W1, W1 = w1.alloc (Obj.cells #[Value.int IntKind.i64 (x : Int), Value.int IntKind.i64 (y : Int)] 38) := ⟨_, rfl⟩
  have HB1 : Hid (Below w1.heap.size w1 W1) := Lib.hid (by rw [hW1]; exact (Below.refl _ _).alloc (Nat.le_refl _) _)
  have HK1 : Hid (Blk W1 w1.heap.size 38 #[Value.int IntKind.i64 (x : Int), Value.int IntKind.i64 (y : Int)]) := Lib.hid (by rw [hW1]; exact Blk.new _ _ _)
  have HBW1 := Lib.hid (hb1.trans (HB1.out.mono hb1.size))
  have HP1 := Lib.hid (HT1.out.later HB1.out)
  go_wp2_with fail
  rw [← hW1]
  clear hW1
  go_at_call 25
  refine (HL2.out _ HBW1.out).mono ?_
  rintro e w2 ⟨v2, rfl, ht2, hb2⟩
  have HT2 := Lib.hid ht2
  clear ht2
  obtain ⟨W2, hW2⟩ : ∃ W2, W2 = w2.alloc (Obj.cells #[Value.int IntKind.i64 (x : Int), Value.int IntKind.i64 (y : Int)] 38) := ⟨_, rfl⟩
  have HB2 : Hid (Below w2.heap.size w2 W2) := Lib.hid (by rw [hW2]; exact (Below.refl _ _).alloc (Nat.le_refl _) _)
  have HK2 : Hid (Blk W2 w2.heap.size 38 #[Value.int IntKind.i64 (x : Int), Value.int IntKind.i64 (y : Int)]) := Lib.hid (by rw [hW2]; exact Blk.new _ _ _)
  have HB12 := Lib.hid (hb2.trans (HB2.out.mono hb2.size))
  have HP2 := Lib.hid (HP1.out.later HB12.out)
  have HQ2 := Lib.hid (HT2.out.later HB2.out)
  have HJ1 : Hid (Blk W2 w1.heap.size 38 #[Value.int IntKind.i64 (x : Int), Value.int IntKind.i64 (y : Int)]) := Lib.hid (HK1.out.below HB12.out HK1.out.lt)
  have HBW2 := Lib.hid (HBW1.out.trans (HB12.out.mono HBW1.out.size))
  go_wp2_with fail
  rw [← hW2]
  clear hW2
  go_at_call 19
  refine (HSM.out _ _ _ HP2.out HQ2.out).mono ?_
  rintro e w3 ⟨rfl, hb3⟩
  have HBW3 := Lib.hid (HBW2.out.trans (hb3.mono HBW2.out.size))
  have k1 := HJ1.out.below hb3 HJ1.out.lt
  have k2 := HK2.out.below hb3 HK2.out.lt
  have c1 : w3.cell? ⟨w1.heap.size, 0, none⟩ = some (.int .i64 (x : Int)) := k1.cell 0
  have c2 : w3.cell? ⟨w1.heap.size, 1, none⟩ = some (.int .i64 (y : Int)) := k1.cell 1
  have c3 : w3.cell? ⟨w2.heap.size, 0, none⟩ = some (.int .i64 (x : Int)) := k2.cell 0
  have c4 : w3.cell? ⟨w2.heap.size, 1, none⟩ = some (.int .i64 (y : Int)) := k2.cell 1
  clear k1 k2 hb1 hb2 hb3
  go_wp2_with fail
  go_at_call 14
  refine (awake4_any _ (tabs_later HT.out HBW3.out)).mono ?_
  rintro e w6 ⟨rfl, hb6⟩
  go_wp2_with fail
  go_ret
  exact ⟨rfl, HBW3.out.trans (hb6.mono HBW3.out.size)⟩
section
open Go.ChangeShapes Go.WideShapes Go.ChangeAt Go.ChangeMaps
theorem textLines_walk {H : Type} {enc : TypeId × Value → H} (W : World) {base : Nat} (v0 : Value) {d0 : DataW H} {p0 : List MemPlace} (h0 : DataW.Trod enc Tryd.prog W 0 (fun _ => true) true 29 v0 d0 p0) (o0 : Value.okWide Tryd.prog W .any base 29 v0)
    (hT : Lib.Utf8Tabs 0 1 W) (hS : W.ShapedOpen Tryd.prog) (hk : Rows.uptoBulkAll [d0] ≤ 1048576) :
    Calls Tryd.prog 9 #[v0] W fun e w' => e = .returned (.bool true) ∧ Below W.heap.size W w' := by
  obtain ⟨A, n, cp, bs, rfl, hb, hcp, _, hd, _⟩ := open_bytes h0 o0
  simp only [Rows.uptoBulkAll] at hk
  exact textLines_any A n cp bs W hb hcp (by omega) hT (MaxLenAt.of hS)
end
end Go.Proofs.YtdchnllflodmkaaDoor
