/- A crash that every program must know: chandlerlaw2.awake. -/
import Derived.Test.YtiiegimnnngnnaaCrash2
namespace Go.Proofs.Ytiiegimnnngnnaa
open Go.RowKit Go.Sort
set_option linter.unusedVariables false

theorem Blk.bytes_ {w : World} {g : Nat} {t : TypeId} {C : Array Value} (h : Blk w g t C) (n : Nat) (bs : List Nat) (hn : bs.length = n) (hl : ∀ x ∈ bs, x < 256) (hc : C.toList = bs.map fun x => Value.int .u8 ((x : Nat) : Int)) : Bytes w (some ⟨g, 0, none⟩) n bs :=
  ⟨hn, hl, fun _ => ⟨g, 0, rfl, h.lt, fun k hk => by
    rw [Nat.zero_add, h.cell k, ← Array.getElem?_toList, hc, List.getElem?_map, List.getD_eq_getElem?_getD]
    rw [List.getElem?_eq_getElem (by omega)]
    rfl⟩⟩
theorem byte_parts : (Try.prog.info? 5).map (fun i => (i.zero, i.size, i.bytes)) = some (some (.int .u8 0), 1, 1) := by kernel_rfl
/-- 64 noughts. -/
def noughts (n : Nat) : Array Value := (List.replicate n (Value.int .u8 0)).toArray
theorem make_bytes (n : Nat) (hn : n ≤ 281474976710656) (W : World) : (Instr.makeSlice 22 (.int .i64 (n : Int)) (.int .i64 (n : Int))).run Try.prog W = .ok (.slice (some ⟨W.heap.size, 0, none⟩) n n) (W.alloc (.cells (noughts n) 5)) := by
  obtain ⟨i0, hi0, hz0, hz1, hz2⟩ := info_parts byte_parts
  have := make_rows 22 5 i0 (.int .u8 0) Try.underlying22 hi0 hz0 .i64 .i64 n (by rw [hz2]; omega) (by omega) W
  have e : madeCells (Value.int .u8 0).cells (n * i0.size) = noughts n := by
    rw [hz1, Nat.mul_one]
    unfold noughts madeCells
    apply Array.ext
    · simp
    · intro k h1 h2
      simp [Value.cells, Nat.mod_one]
  rw [this, e]
namespace Dk
def wakeBytes : List Nat := 255 :: List.replicate 63 0
def woken : Dk := ((new 1).write 0 wakeBytes).crash [15]
theorem woken_err : woken.readErr 0 = 0 := by decide +kernel
theorem woken_at : (woken.sector 0).getD 0 0 = 15 := by decide +kernel
theorem wake_err : (new 1).writeErr 0 64 = 0 := by decide +kernel
theorem wake_lt : ∀ x ∈ wakeBytes, x < 256 := by decide +kernel
end Dk
set_option maxRecDepth 100000 in
set_option maxHeartbeats 2000000 in
theorem awake2_any (w : World) : Calls Try.prog 33 #[] w fun e w' => e = .returned (.bool true) ∧ Below w.heap.size w w' := by
  have hmk : ∀ W : World, (Instr.makeSlice 22 (.int .i64 64) (.int .i64 64)).run Try.prog W = .ok (.slice (some ⟨W.heap.size, 0, none⟩) 64 64) (W.alloc (.cells (noughts 64) 5)) := make_bytes 64 (by omega)
  have hset : ((noughts 64).setIfInBounds 0 (.int .u8 255)).toList = Dk.wakeBytes.map (fun x => Value.int .u8 ((x : Nat) : Int)) := by kernel_rfl
  have hz0 : (noughts 64)[0]? = some (.int .u8 0) := by rfl
  have hzs : (noughts 64).size = 64 := by rfl
  have HSet := Lib.hid hset
  clear hset
  generalize noughts 64 = Z at *
  go_enter Try.func33, Try.ntmps33
  go_wp2_with (first
    | (go_at_call 30; refine (New_any 1 1 (by decide) (by decide) (by decide) _).mono ?_; rintro e w1 ⟨p, r, s, rfl, hd1, hb1, hp, hr, hs⟩; have HD1 := Lib.hid hd1; have HB1 := Lib.hid hb1; clear hd1 hb1)
    | (go_at_call 34
       have hlt := HD1.out.lt
       have hw := Write_any p r s 1 1 (Dk.new 1) 0 (some ⟨w1.heap.size, 0, none⟩) 64 64 Dk.wakeBytes _ (HD1.out.below ((Below.refl _ _).alloc (Nat.le_refl _) (.cells (Z.setIfInBounds 0 (.int .u8 255)) 5))) (Bytes.of_new w1 _ 5 (0, 0) 64 Dk.wakeBytes rfl Dk.wake_lt HSet.out)
         (fun g o h _ => by simp only [Option.some.injEq, Addr.mk.injEq, and_true] at h; obtain ⟨rfl, rfl⟩ := h; unfold dT; omega) (by decide)
       rw [Dk.wake_err] at hw
       refine hw.mono ?_
       rintro e w2 ⟨rfl, hd2, hu2⟩
       have HB2 : Hid (Below w.heap.size w w2) := Lib.hid ((HB1.out.alloc HB1.out.size _).trans (hu2.below (fun k hk => by unfold dT at hk; omega) (by have := HB1.out.size; simp; omega)))
       have HD2 := Lib.hid hd2
       clear hw hd2 hu2 hlt)
    | (go_at_call 37
       have hlt := HD2.out.lt
       have hw := Crash_any p r s 1 1 _ (some ⟨w2.heap.size, 0, none⟩) 1 1 [15] _ (HD2.out.below ((Below.refl _ _).alloc (Nat.le_refl _) (.cells #[.int .u8 15] 5))) (Bytes.of_new w2 _ 5 (0, 0) 1 [15] rfl (by simp) rfl) (by omega) (by unfold maxLen; omega)
         (fun g o h _ => by simp only [Option.some.injEq, Addr.mk.injEq, and_true] at h; obtain ⟨rfl, rfl⟩ := h; unfold dT; omega)
       refine hw.mono ?_
       rintro e w3 ⟨rfl, hd3, hu3⟩
       have HB3 : Hid (Below w.heap.size w w3) := Lib.hid ((HB2.out.alloc HB2.out.size _).trans (hu3.below (fun k hk => by unfold dT at hk; omega) (by have := HB2.out.size; simp; omega)))
       have HD3 : Hid (DiskAt w3 p r s 1 1 Dk.woken) := Lib.hid hd3
       clear hw hd3 hu3 hlt)
    | (go_at_call 31
       have hw := Read_any p r s 1 1 Dk.woken 0 w3 HD3.out
       rw [Dk.woken_err] at hw
       refine hw.mono ?_
       rintro e w4 ⟨v, n, bs, rfl, hown, hb4, hg0, hg1⟩
       obtain ⟨rfl, rfl, _, _⟩ := hg0 rfl
       obtain ⟨A, cp, rfl, hbts⟩ := Bytes.of_own hown (HD3.out.ok.sector _)
       obtain ⟨g, o, rfl, hgl, hc⟩ := hbts.2.2 (by omega)
       have hc0 := hc 0 (by omega)
       rw [show (0 : Int).toNat = 0 from rfl, Dk.woken_at] at hc0
       have hc1 : w4.cell? ⟨g, o, none⟩ = some (.int .u8 15) := hc0
       have HB4 : Hid (Below w.heap.size w w4) := Lib.hid (HB3.out.trans (hb4.mono HB3.out.size))
       clear hw hown hb4 hg0 hg1 hbts hc hc0))
  go_ret
  exact ⟨rfl, HB4.out⟩
end Go.Proofs.Ytiiegimnnngnnaa
