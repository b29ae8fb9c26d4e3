/- More contracts of package disk: Flush, Read (and slices.Clone at bytes). -/
import Derived.Test.YtiiegimnnngnnaaDisk3
namespace Go.Proofs.Ytiiegimnnngnnaa
open Go.RowKit Go.Sort
set_option linter.unusedVariables false

/-- A block's first cells as a list. -/
theorem Sect.list {w : World} {g t n : Nat} {f : Nat → Nat} (h : Sect w g t n f) : ∀ j v, (((List.range (64 * n)).map f).map fun x => Value.int .u8 ((x : Nat) : Int))[j]? = some v → w.cell? ((⟨g, 0, none⟩ : Addr).add j) = some v := fun j v hv => by
  have hj : j < 64 * n := by
    rcases Nat.lt_or_ge j (64 * n) with h1 | h1
    · exact h1
    · rw [List.getElem?_eq_none (by simpa using h1)] at hv; cases hv
  have e2 : (⟨g, 0, none⟩ : Addr).add j = ⟨g, j, none⟩ := by unfold Addr.add; split <;> simp_all
  rw [e2, h.cell hj, ← hv, List.getElem?_map, List.getElem?_map, List.getElem?_range hj]
  rfl

set_option maxRecDepth 100000 in
set_option maxHeartbeats 1000000 in
theorem Flush_any (p r s cr cs : Nat) (D : Dk) (w : World) (h : DiskAt w p r s cr cs D) (hc : D.calls < 4611686018427387904) :
    Calls Try.prog 36 #[.pointer (some ⟨p, 0, none⟩)] w fun e w' =>
      e = .returned (.int .i64 D.flushErr) ∧ DiskAt w' p r s cr cs D.flush ∧ Upd (dT p r s) w w' := by
  have hok := h.ok.flush hc
  have HC := Lib.hid (change_any p r s cr cs D w h hc)
  clear h
  have hcase : D.down = true ∨ (D.down = false ∧ D.tick.down = true) ∨ (D.down = false ∧ D.tick.down = false) := by
    cases D.down <;> cases D.tick.down <;> simp
  have htd : D.down = true → D.tick.down = true := fun hd => by unfold Dk.tick; rw [hd]; simp
  rcases hcase with hd | ⟨hd, ht⟩ | ⟨hd, ht⟩
  · have ht := htd hd
    have e2 : D.flushErr = 7 := by unfold Dk.flushErr; rw [ht]; rfl
    have e3 : D.flush = D.tick := by unfold Dk.flush; rw [ht]; rfl
    rw [e2, e3]
    rw [hd, ht] at HC
    clear e2 e3 hd ht htd hok
    generalize D.tick = D1 at *
    go_enter Try.func36, Try.ntmps36
    go_wp2_with (go_at_call 63; refine HC.out.mono ?_; rintro e w1 ⟨rfl, hd1, hu1⟩; have HD1 := Lib.hid hd1; clear hd1)
    go_ret
    exact ⟨rfl, HD1.out, hu1⟩
  · have e2 : D.flushErr = 7 := by unfold Dk.flushErr; rw [ht]; rfl
    have e3 : D.flush = D.tick := by unfold Dk.flush; rw [ht]; rfl
    rw [e2, e3]
    rw [hd, ht] at HC
    clear e2 e3 hd ht htd hok
    generalize D.tick = D1 at *
    go_enter Try.func36, Try.ntmps36
    go_wp2_with (go_at_call 63; refine HC.out.mono ?_; rintro e w1 ⟨rfl, hd1, hu1⟩; have HD1 := Lib.hid hd1; clear hd1)
    go_ret
    exact ⟨rfl, HD1.out, hu1⟩
  · have e2 : D.flushErr = 0 := by unfold Dk.flushErr; rw [ht]; rfl
    have e3 : D.flush = { D.tick with S := D.R } := by unfold Dk.flush; rw [ht]; rfl
    rw [e2, e3]
    rw [e3] at hok
    rw [hd, ht] at HC
    have hrr := D.tick_R
    rw [← hrr] at hok ⊢
    clear e2 e3 hd ht htd hrr
    generalize D.tick = D1 at *
    obtain ⟨n, R, S, calls, fuse, down⟩ := D1
    simp only at *
    have HOk := Lib.hid hok
    clear hok hc
    go_enter Try.func36, Try.ntmps36
    go_wp2_with (go_at_call 63; refine HC.out.mono ?_; rintro e w1 ⟨rfl, hd1, hu1⟩; have HD1 := Lib.hid hd1; clear hd1)
    have c0 : w1.cell? ⟨p, 0, none⟩ = some (.slice (some ⟨r, 0, none⟩) n cr) := HD1.out.1.cell 0
    have c1 : w1.cell? ⟨p, 1, none⟩ = some (.slice (some ⟨s, 0, none⟩) n cs) := HD1.out.1.cell 1
    obtain ⟨hb1, hr1, ⟨C, hCb, hCs0, hCc⟩, hrs, hcr, hcs, hok1⟩ := HD1.out
    have hCs : 64 * n ≤ C.size := hCs0
    have hCc' : ∀ i, i < 64 * n → C[i]? = some (.int .u8 ((S i : Nat) : Int)) := hCc
    clear hCs0 hCc
    obtain ⟨X, hX⟩ : ∃ X, X = ((List.range (64 * n)).map R).map (fun x => Value.int .u8 ((x : Nat) : Int)) := ⟨_, rfl⟩
    have hXl : X.length = 64 * n := by rw [hX]; simp
    have hcopy := run_copy_rows (P := Try.prog) w1.drew 88 88 3 92 s 0 n cs ⟨r, 0, none⟩ n cr 64 C 92 X Try.underlying88 sector_size hCb (by rw [hXl, show n.min n = n from Nat.min_self n, Nat.mul_comm]) (by rw [hX]; exact hr1.list) (by omega) (by rw [hX]; exact bytes_one _)
    have HX := Lib.hid hX
    have HXl := Lib.hid hXl
    have HCb := Lib.hid hCb
    have HCc := Lib.hid hCc'
    have HR := Lib.hid hr1
    clear hX hXl hCb hCc' hr1 hok1 hb1
    go_still_tail 8, (by kernel_rfl)
    go_wp2_with fail
    go_ret
    have hne := (HD1.out).ne
    refine ⟨rfl, ⟨HD1.out.1.rowFar hne.2 _, HR.out.rowFar hrs _, ?_, hrs, hcr, hcs, HOk.out⟩, (hu1.drew).setRow (.inl (.inr (.inr rfl))) _⟩
    have hb' : Blk (w1.drew.setRow s (splice C.toList 0 X).toArray) s 92 (splice C.toList 0 X).toArray := Blk.row (w := w1.drew) HCb.out _
    rw [HX.out] at hb' ⊢
    refine (Sect.splice_ (w := w1.drew) (f := S) ⟨C, HCb.out, hCs, HCc.out, hb'⟩ (by simp)).congr fun k hk => ?_
    simp only [List.length_map, List.length_range]
    have h3 : 0 ≤ k ∧ k < 0 + 64 * n := ⟨by omega, by omega⟩
    simp only [h3, and_self, if_true]
    rw [List.getD_eq_getElem?_getD, Nat.sub_zero, List.getElem?_map, List.getElem?_range (by omega)]
    rfl
end Go.Proofs.Ytiiegimnnngnnaa
