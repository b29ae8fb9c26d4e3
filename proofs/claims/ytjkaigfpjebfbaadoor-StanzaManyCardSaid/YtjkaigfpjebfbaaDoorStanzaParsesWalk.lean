/- StanzaParses: the walk. -/
import Derived.Test.YtjkaigfpjebfbaaDoorB8
import Derived.Test.YtjkaigfpjebfbaaDoorSt11
import Derived.Test.YtjkaigfpjebfbaaDoorRows
import Derived.Test.YtjkaigfpjebfbaaDoorOpen
namespace Go.Proofs.YtjkaigfpjebfbaaDoor
open Go.RowKit Go.Shelf Go.Lib
set_option linter.unusedVariables false

set_option maxRecDepth 100000 in
set_option maxHeartbeats 4000000 in
theorem stanzaParses_any (A : Option Addr) (n cp : Nat) (bs : List Nat) (w : World) (hb : Bytes w A n bs) (hcp : n ≤ cp) (hn : n < 4294967281) (hT : Lib.Utf8Tabs 0 1 w) (hM : MaxLenAt w) :
    Calls Tryd.prog 3 #[.slice A n cp] w fun e w' => e = .returned (.bool true) ∧ Below w.heap.size w w' := by
  have hlim := parse_lim (toS bs)
  have HL1 := Lib.hid (Parse_any A n cp bs w hb hn hT hM)
  have HL2 := Lib.hid (fun W (hW : Below w.heap.size w W) => Stanzas_any A n cp bs W (hb.below hW) hcp hn)
  obtain ⟨M, hM2⟩ : ∃ M, M = gotS (parseS (toS bs)) := ⟨_, rfl⟩
  obtain ⟨q, hq⟩ : ∃ q, q = errS (parseS (toS bs)) := ⟨_, rfl⟩
  obtain ⟨x, y⟩ := q
  rw [← hM2] at hlim
  simp only [← hM2, ← hq] at HL1 HL2
  have HSM := Lib.hid (fun (W : World) (v1 v2 : Value) (x1 : StzAt W v1 M) (x2 : StzAt W v2 M) => SameStanzas_any true v1 v2 M M W x1 x2 (SameL.refl true M) (by have := hlim.1; omega) (fun s hs => ⟨by have := (hlim.2 s hs).1; omega, fun f hf => by have := (hlim.2 s hs).2 f hf; omega⟩))
  have HAW := Lib.hid (fun W (hW : Below w.heap.size w W) => awake_any W (tabs_later hT hW) (hM.later hW))
  clear hT hM hM2 hq hlim hb hcp hn
  go_enter Tryd.func3, Tryd.ntmps3
  go_wp2_with fail
  go_at_call 11
  refine (HL1.out).mono ?_
  rintro e w1 ⟨v1, rfl, ht1, hb1⟩
  have HT1 := Lib.hid ht1
  clear ht1
  obtain ⟨W1, hW1⟩ : ∃ W1, W1 = w1.alloc (Obj.cells #[Value.int IntKind.i64 x, Value.int IntKind.i64 (y : Int)] 26) := ⟨_, rfl⟩
  have HB1 : Hid (Below w1.heap.size w1 W1) := Lib.hid (by rw [hW1]; exact (Below.refl _ _).alloc (Nat.le_refl _) _)
  have HK1 : Hid (Blk W1 w1.heap.size 26 #[Value.int IntKind.i64 x, Value.int IntKind.i64 (y : Int)]) := Lib.hid (by rw [hW1]; exact Blk.new _ _ _)
  have HBW1 := Lib.hid (hb1.trans (HB1.out.mono hb1.size))
  have HP1 := Lib.hid (HT1.out.below HB1.out)
  go_wp2_with fail
  rw [← hW1]
  clear hW1
  go_at_call 12
  refine (HL2.out _ HBW1.out).mono ?_
  rintro e w2 ⟨v2, rfl, ht2, hb2⟩
  have HT2 := Lib.hid ht2
  clear ht2
  obtain ⟨W2, hW2⟩ : ∃ W2, W2 = w2.alloc (Obj.cells #[Value.int IntKind.i64 x, Value.int IntKind.i64 (y : Int)] 26) := ⟨_, rfl⟩
  have HB2 : Hid (Below w2.heap.size w2 W2) := Lib.hid (by rw [hW2]; exact (Below.refl _ _).alloc (Nat.le_refl _) _)
  have HK2 : Hid (Blk W2 w2.heap.size 26 #[Value.int IntKind.i64 x, Value.int IntKind.i64 (y : Int)]) := Lib.hid (by rw [hW2]; exact Blk.new _ _ _)
  have HB12 := Lib.hid (hb2.trans (HB2.out.mono hb2.size))
  have HP2 := Lib.hid (HP1.out.below HB12.out)
  have HQ2 := Lib.hid (HT2.out.below HB2.out)
  have HJ1 : Hid (Blk W2 w1.heap.size 26 #[Value.int IntKind.i64 x, Value.int IntKind.i64 (y : Int)]) := Lib.hid (HK1.out.below HB12.out HK1.out.lt)
  have HBW2 := Lib.hid (HBW1.out.trans (HB12.out.mono HBW1.out.size))
  go_wp2_with fail
  rw [← hW2]
  clear hW2
  go_at_call 13
  refine (HSM.out _ _ _ HP2.out HQ2.out).mono ?_
  rintro e w3 ⟨rfl, hb3⟩
  have HBW3 := Lib.hid (HBW2.out.trans (hb3.mono HBW2.out.size))
  have k1 := HJ1.out.below hb3 HJ1.out.lt
  have k2 := HK2.out.below hb3 HK2.out.lt
  have c1 : w3.cell? ⟨w1.heap.size, 0, none⟩ = some (.int .i64 x) := k1.cell 0
  have c2 : w3.cell? ⟨w1.heap.size, 1, none⟩ = some (.int .i64 (y : Int)) := k1.cell 1
  have c3 : w3.cell? ⟨w2.heap.size, 0, none⟩ = some (.int .i64 x) := k2.cell 0
  have c4 : w3.cell? ⟨w2.heap.size, 1, none⟩ = some (.int .i64 (y : Int)) := k2.cell 1
  clear k1 k2 hb1 hb2 hb3
  go_wp2_with fail
  go_at_call 14
  refine (HAW.out _ HBW3.out).mono ?_
  rintro e w6 ⟨rfl, hb6⟩
  go_wp2_with fail
  go_ret
  exact ⟨rfl, HBW3.out.trans (hb6.mono HBW3.out.size)⟩
section
open Go.ChangeShapes Go.WideShapes Go.ChangeAt Go.ChangeMaps
set_option maxRecDepth 100000 in
theorem stanzaParses_walk {H : Type} {enc : TypeId × Value → H} (W : World) {base : Nat} (v0 : Value) {d0 : DataW H} {p0 : List MemPlace} (h0 : DataW.Trod enc Tryd.prog W 0 (fun _ => true) true 22 v0 d0 p0) (o0 : Value.okWide Tryd.prog W .any base 22 v0)
    (hT : Lib.Utf8Tabs 0 1 W) (hS : W.ShapedOpen Tryd.prog) (hk : Rows.uptoBulkAll [d0] ≤ 1048576) :
    Calls Tryd.prog 3 #[v0] W fun e w' => e = .returned (.bool true) ∧ Below W.heap.size W w' := by
  obtain ⟨A, n, cp, bs, rfl, hb, hcp, _, hd, _⟩ := open_bytes h0 o0
  simp only [Rows.uptoBulkAll] at hk
  exact stanzaParses_any A n cp bs W hb hcp (by omega) hT (MaxLenAt.of hS)
end
end Go.Proofs.YtjkaigfpjebfbaaDoor
