/- More contracts of package disk: New. -/
import Derived.Test.YtiiegimnnngnnaaDisk5
namespace Go.Proofs.Ytiiegimnnngnnaa
open Go.RowKit Go.Sort
set_option linter.unusedVariables false

section
variable {P : Program}
theorem make_rows (t e : TypeId) (i : TypeInfo) (z : Value) (ht : P.underlying t = some (.slice e)) (hi : P.info? e = some i) (hz : i.zero = some z)
    (kl kc : IntKind) (n : Nat) (hbytes : i.bytes * n ≤ 281474976710656) (h63 : n ≤ 9223372036854775807) (w : World) :
    (Instr.makeSlice t (.int kl (n : Int)) (.int kc (n : Int))).run P w = .ok (.slice (some ⟨w.heap.size, 0, none⟩) n n) (w.alloc (.cells (madeCells z.cells (n * i.size)) e)) := by
  have hb : (i.bytes : Int) * (n : Int) ≤ 281474976710656 := by
    have h : ((i.bytes * n : Nat) : Int) ≤ 281474976710656 := by omega
    rwa [Int.natCast_mul] at h
  have hr := run_make (P := P) w t e i z ht hi hz kl kc n n (by omega) (by omega) hb (by omega)
  simp only [Int.toNat_natCast] at hr
  exact hr
end
def zero64 : Value := .agg (List.replicate 64 (Value.int .u8 0)).toArray
theorem sector_row : (Try.prog.info? 92).map (fun i => (i.zero, i.size, i.bytes)) = some (some zero64, 64, 64) := by kernel_rfl
/-- n sectors of noughts. -/
def zeros (n : Nat) : Array Value := madeCells zero64.cells (n * 64)
theorem Sect.zeros (w : World) (n : Nat) (t : TypeId) (g : Nat) (h : Blk w g t (zeros n)) : Sect w g t n (fun _ => 0) := by
  refine ⟨_, h, by simp only [Proofs.Ytiiegimnnngnnaa.zeros, size_madeCells]; omega, fun i hi => ?_⟩
  have hz : zero64.cells = (List.replicate 64 (Value.int .u8 0)).toArray := rfl
  simp only [Proofs.Ytiiegimnnngnnaa.zeros, madeCells, hz]
  rw [Array.getElem?_map, Array.getElem?_range, if_pos (by omega)]
  simp only [Option.map_some]
  congr 1
  have h64 : i % (List.replicate 64 (Value.int .u8 0)).toArray.size < (List.replicate 64 (Value.int .u8 0)).toArray.size := Nat.mod_lt _ (by simp)
  rw [getElem!_pos (List.replicate 64 (Value.int .u8 0)).toArray _ h64, List.getElem_toArray, List.getElem_replicate]
  rfl

set_option maxRecDepth 100000 in
set_option maxHeartbeats 1000000 in
theorem New_any (i : Int) (n : Nat) (hn : (n : Int) = max 0 (min i 4096)) (hlo : -9223372036854775808 ≤ i) (hhi : i ≤ 9223372036854775807) (w : World) :
    Calls Try.prog 30 #[.int .i64 i] w fun e w' => ∃ p r s, e = .returned (.pointer (some ⟨p, 0, none⟩)) ∧ DiskAt w' p r s n n (Dk.new n) ∧ Below w.heap.size w w' ∧ w.heap.size ≤ p ∧ w.heap.size ≤ r ∧ w.heap.size ≤ s := by
  obtain ⟨i0, hi0, hz0, hz1, hz2⟩ := info_parts sector_row
  have hn4 : n ≤ 4096 := by omega
  have hmk : ∀ W : World, (Instr.makeSlice 88 (.int .i64 (n : Int)) (.int .i64 (n : Int))).run Try.prog W = .ok (.slice (some ⟨W.heap.size, 0, none⟩) n n) (W.alloc (.cells (zeros n) 92)) := fun W => by
    have := make_rows 88 92 i0 zero64 Try.underlying88 hi0 hz0 .i64 .i64 n (by rw [hz2]; omega) (by omega) W
    rw [hz1] at this
    exact this
  have HN := Lib.hid hn
  have fin : ∀ (w' : World) (r s : Nat), Blk w' (w.heap.size + 2) 90 #[.slice (some ⟨r, 0, none⟩) n n, .slice (some ⟨s, 0, none⟩) n n, .int .i64 0, .int .i64 0, .bool false] → Blk w' r 92 (zeros n) → Blk w' s 92 (zeros n) → r ≠ s →
      DiskAt w' (w.heap.size + 2) r s n n (Dk.new n) := fun w' r s hb hr hs hne =>
    ⟨hb, Sect.zeros _ _ _ _ hr, Sect.zeros _ _ _ _ hs, hne, Nat.le_refl _, Nat.le_refl _, Dk.Ok.new hn4⟩
  have HFin := Lib.hid fin
  clear hn fin hi0 hz0 hz1 hz2
  have hcase : (i ≤ 0 ∧ n = 0) ∨ (0 < i ∧ i ≤ 4096 ∧ i = (n : Int)) ∨ (4096 < i ∧ n = 4096) := by have := HN.out; omega
  have tail : ∀ (w' : World) (p r s : Nat), p = w.heap.size + 2 → (r = w.heap.size ∧ s = w.heap.size + 1 ∨ s = w.heap.size ∧ r = w.heap.size + 1) →
      w' = (((w.alloc (.cells (zeros n) 92)).alloc (.cells (zeros n) 92)).alloc (.cells #[.slice (some ⟨r, 0, none⟩) n n, .slice (some ⟨s, 0, none⟩) n n, .int .i64 0, .int .i64 0, .bool false] 90)).drew →
      DiskAt w' p r s n n (Dk.new n) ∧ Below w.heap.size w w' ∧ w.heap.size ≤ p ∧ w.heap.size ≤ r ∧ w.heap.size ≤ s := by
    rintro w' p r s rfl hrs rfl
    have b0 : Blk (((w.alloc (.cells (zeros n) 92)).alloc (.cells (zeros n) 92)).alloc (.cells #[.slice (some ⟨r, 0, none⟩) n n, .slice (some ⟨s, 0, none⟩) n n, .int .i64 0, .int .i64 0, .bool false] 90)).drew w.heap.size 92 (zeros n) :=
      (((Blk.new w 92 (zeros n)).alloc _).alloc _).drew
    have b1 := (((Blk.new (w.alloc (.cells (zeros n) 92)) 92 (zeros n))).alloc (.cells #[.slice (some ⟨r, 0, none⟩) n n, .slice (some ⟨s, 0, none⟩) n n, .int .i64 0, .int .i64 0, .bool false] 90)).drew
    have b2 := (Blk.new ((w.alloc (.cells (zeros n) 92)).alloc (.cells (zeros n) 92)) 90 #[.slice (some ⟨r, 0, none⟩) n n, .slice (some ⟨s, 0, none⟩) n n, .int .i64 0, .int .i64 0, .bool false]).drew
    simp only [World.size_alloc] at b1 b2
    refine ⟨?_, ((((Below.refl _ _).alloc (Nat.le_refl _) _).alloc (by simp) _).alloc (by simp; omega) _).drew, by omega, by omega, by omega⟩
    rcases hrs with ⟨rfl, rfl⟩ | ⟨rfl, rfl⟩
    · exact HFin.out _ _ _ b2 b0 b1 (by omega)
    · exact HFin.out _ _ _ b2 b1 b0 (by omega)
  have HTail := Lib.hid tail
  clear tail HFin hn4
  rcases hcase with ⟨h1, rfl⟩ | ⟨h1, h2, rfl⟩ | ⟨h1, rfl⟩
  · have hmk0 : ∀ W : World, (Instr.makeSlice 88 (.int .i64 0) (.int .i64 0)).run Try.prog W = .ok (.slice (some ⟨W.heap.size, 0, none⟩) 0 0) (W.alloc (.cells (zeros 0) 92)) := hmk
    clear hmk
    generalize zeros 0 = Z at *
    go_enter Try.func30, Try.ntmps30
    go_wp2
    go_region
    all_goals
      go_wp2_with fail
      go_ret
      refine ⟨_, _, _, rfl, HTail.out _ _ _ _ (by simp) ?_ rfl⟩
      simp
  · generalize zeros n = Z at *
    go_enter Try.func30, Try.ntmps30
    go_wp2
    go_region
    all_goals
      go_wp2_with fail
      go_ret
      refine ⟨_, _, _, rfl, HTail.out _ _ _ _ (by simp) ?_ rfl⟩
      simp
  · have hmk0 : ∀ W : World, (Instr.makeSlice 88 (.int .i64 4096) (.int .i64 4096)).run Try.prog W = .ok (.slice (some ⟨W.heap.size, 0, none⟩) 4096 4096) (W.alloc (.cells (zeros 4096) 92)) := hmk
    clear hmk
    generalize zeros 4096 = Z at *
    go_enter Try.func30, Try.ntmps30
    go_wp2
    go_region
    all_goals
      go_wp2_with fail
      go_ret
      refine ⟨_, _, _, rfl, HTail.out _ _ _ _ (by simp) ?_ rfl⟩
      simp
end Go.Proofs.Ytiiegimnnngnnaa
