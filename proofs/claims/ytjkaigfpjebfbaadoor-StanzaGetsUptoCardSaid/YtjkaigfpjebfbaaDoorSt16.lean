/- A stanza that every program must know: chandlerlaw5.awake. -/
import Derived.Test.YtjkaigfpjebfbaaDoorSt15
import Derived.Test.YtjkaigfpjebfbaaDoorSt9
import Derived.Lib.SmallJoins
namespace Go.Proofs.YtjkaigfpjebfbaaDoor
open Go.RowKit
set_option linter.unusedVariables false

theorem bytes_alloc (w : World) (t : TypeId) (fr : Nat × Nat) (C : Array Value) (n : Nat) (bs : List Nat) (hn : bs.length = n) (hl : ∀ x ∈ bs, x < 256) (hc : C.toList = bs.map fun x => Value.int .u8 ((x : Nat) : Int)) : Bytes (w.alloc (.cells C t fr)) (some ⟨w.heap.size, 0, none⟩) n bs :=
  ⟨hn, hl, fun _ => ⟨w.heap.size, 0, rfl, by simp, fun k hk => by
    rw [Nat.zero_add, cell_of_row _ _ _ _ _ _ (heap_alloc_new w _), ← Array.getElem?_toList, hc, List.getElem?_map, List.getD_eq_getElem?_getD]
    rw [List.getElem?_eq_getElem (by omega)]
    rfl⟩⟩
theorem StzAt.one {w : World} {A : Option Addr} {c : Nat} {ln : Int} {fs : List Fd} (h : StzAt w (.slice A 1 c) [⟨ln, fs⟩]) : ∃ G g o FA fc fx, A = some ⟨g, o, none⟩ ∧ w.cell? ⟨g, o, none⟩ = some (.int .i64 ln) ∧ w.cell? ⟨g, o + 1, none⟩ = some (.slice FA fs.length fc) ∧ RowG w G 2 FA fs.length fx ∧ FV w G fx fs := by
  obtain ⟨G, A', c', xs, e, hc, hr, hs⟩ := h
  injection e with e1 _ e3
  subst e1 e3
  obtain ⟨g, o, rfl, _, _, hcell⟩ := hr.2 Nat.one_pos
  obtain ⟨FA, fc, fx, ys, rfl, _, h1, h2, _⟩ := hs
  exact ⟨G, g, o, FA, fc, fx, rfl, hcell 0 _ rfl, hcell 1 _ rfl, h1, h2⟩
def awkL : List Nat := [80,97,99,107,97,103,101,58,32,97,10,68,101,112,101,110,100,115,58,32,98,44,10,9,99,10]
theorem awkBytes (w : World) : Bytes (w.alloc (.cells #[.int .u8 80, .int .u8 97, .int .u8 99, .int .u8 107, .int .u8 97, .int .u8 103, .int .u8 101, .int .u8 58, .int .u8 32, .int .u8 97, .int .u8 10, .int .u8 68, .int .u8 101, .int .u8 112, .int .u8 101, .int .u8 110, .int .u8 100, .int .u8 115, .int .u8 58, .int .u8 32, .int .u8 98, .int .u8 44, .int .u8 10, .int .u8 9, .int .u8 99, .int .u8 10] 5 (26, 27))) (some ⟨w.heap.size, 0, none⟩) 26 awkL := bytes_alloc w _ _ _ 26 awkL rfl (by decide) (by kernel_rfl)
def awkF : List Fd := [⟨⟨#[80,97,99,107,97,103,101]⟩, [⟨#[97]⟩]⟩, ⟨⟨#[68,101,112,101,110,100,115]⟩, [⟨#[98,44]⟩, ⟨#[99]⟩]⟩]
theorem awk1 : errS (parseS (toS awkL)) = (0, 0) := by kernel_rfl
theorem awk2 : gotS (parseS (toS awkL)) = [⟨1, awkF⟩] := by kernel_rfl
theorem awk3 : gotF awkF ⟨#[100, 101, 112, 101, 110, 100, 115]⟩ = (⟨#[98, 44, 32, 99]⟩, true) := by kernel_rfl
theorem awk4 : ∀ f ∈ awkF, f.n.size ≤ 1048576 ∧ lsum f.ls ≤ 1073741824 := by
  intro f hf
  unfold awkF at hf
  rcases List.mem_cons.1 hf with rfl | hf
  · decide +kernel
  · rw [List.mem_singleton] at hf
    subst hf
    decide +kernel
set_option maxRecDepth 100000 in
set_option maxHeartbeats 4000000 in
theorem awake_any (w : World) (hT : Lib.Utf8Tabs 0 1 w) (hM : MaxLenAt w) :
    Calls Tryd.prog 14 #[] w fun e w' => e = .returned (.bool true) ∧ Below w.heap.size w w' := by
  have HP : Hid (∀ W g, Below w.heap.size w W → Bytes W (some ⟨g, 0, none⟩) 26 awkL → Calls Tryd.prog 11 #[.slice (some ⟨g, 0, none⟩) 26 26] W fun e w' => ∃ A c, e = .returned (.tuple #[.slice A 1 c, .agg #[.int .i64 0, .int .i64 0]]) ∧ StzAt w' (.slice A 1 c) [⟨1, awkF⟩] ∧ Below W.heap.size W w') := Lib.hid (fun W g hW hb => by
    have h := Parse_any (some ⟨g, 0, none⟩) 26 26 awkL W hb (by decide) (tabs_later hT hW) (hM.later hW)
    rw [awk1, awk2] at h
    refine h.mono fun e w' ⟨v, he, hv, hb⟩ => ?_
    obtain ⟨G, A, c, xs, rfl, h2⟩ := hv
    exact ⟨A, c, he, ⟨G, A, c, xs, rfl, h2⟩, hb⟩)
  have HT := Lib.hid hT
  clear hT hM
  go_enter Tryd.func14, Tryd.ntmps14
  have kc := fun (w : World) (C : Array Value) (n c : Nat) => Lib.run_convert_bytes_const (P := Tryd.prog) w 22 5 C n c Tryd.underlying22 Tryd.underlying5
  go_upto_region 2 with (go_at_call 11; refine (HP.out _ _ ((Below.refl _ _).alloc (Nat.le_refl _) _) (awkBytes w)).mono ?_; rintro e w2 ⟨A, c, rfl, hv, hb2⟩; obtain ⟨G, g, o, FA, fc, fx, rfl, kv1, kv2, hr, hf⟩ := hv.one; have HB2 := Lib.hid (((Below.refl w.heap.size w).alloc (Nat.le_refl _) _).trans (hb2.mono (by simp))); have HRF := Lib.hid (And.intro hr hf); have HKV := Lib.hid (And.intro kv1 kv2); clear hv hb2 hr hf kv1 kv2)
  clear kc
  have hgl : g < w2.heap.size := World.block_lt_of_cell? w2 _ HKV.out.1
  obtain ⟨w3, hw3⟩ : ∃ w3, w3 = w2.alloc (.cells #[.int .i64 0, .int .i64 0] 26) := ⟨_, rfl⟩
  obtain ⟨b, hb⟩ : ∃ b, b = w2.heap.size := ⟨_, rfl⟩
  have hu : Below w2.heap.size w2 w3 := by rw [hw3]; exact (Below.refl _ _).alloc (Nat.le_refl _) _
  have kb : w3.cell? ⟨b, 0, none⟩ = some (.int .i64 0) := by rw [hw3, hb]; exact (Blk.new w2 26 #[.int .i64 0, .int .i64 0]).cell 0
  have k1 : w3.cell? ⟨g, o, none⟩ = some (.int .i64 1) := (hu.cell (p := ⟨g, o, none⟩) hgl).trans HKV.out.1
  have k2 : w3.cell? ⟨g, o + 1, none⟩ = some (.slice FA 2 fc) := (hu.cell (p := ⟨g, o + 1, none⟩) hgl).trans HKV.out.2
  have HB3 : Hid (Below w.heap.size w w3) := Lib.hid (HB2.out.trans (hu.mono HB2.out.size))
  have hu' : Upd (fun _ => False) w2 w3 := Upd.of_below hu (fun k h1 h2 => by omega)
  have HG : Hid (∀ W, w3 = W → Calls Tryd.prog 16 #[.agg #[.int .i64 1, .slice FA 2 fc], .string ⟨#[100, 101, 112, 101, 110, 100, 115]⟩] W fun e w' => e = .returned (.tuple #[.string ⟨#[98, 44, 32, 99]⟩, .bool true]) ∧ Below W.heap.size W w') := Lib.hid (fun W hW => by
    subst hW
    have h := Get_any G 1 FA 2 fc fx awkF ⟨#[100, 101, 112, 101, 110, 100, 115]⟩ w3 (HRF.out.1.upd hu' (fun _ _ h => h)) (HRF.out.2.upd hu' (fun _ _ h => h)) rfl (by decide) awk4 (by decide) (tabs_later HT.out HB3.out)
    rw [awk3] at h
    exact h)
  rw [← hw3, ← hb]
  clear hw3 hb hu hu' hgl
  go_wp2_with (go_at_call 16; refine (HG.out _ rfl).mono ?_; rintro e w4 ⟨rfl, hb4⟩; have HB4 := Lib.hid hb4; clear hb4)
  go_ret
  exact ⟨rfl, HB3.out.trans (HB4.out.mono HB3.out.size)⟩
end Go.Proofs.YtjkaigfpjebfbaaDoor
