/- The reference's disk: Flush. -/
import Derived.Test.YtiiegimnnngnnaaRef2
namespace Go.Proofs.Ytiiegimnnngnnaa
open Go.RowKit Go.Sort
set_option linter.unusedVariables false

/-- All is sure: the rows of Now are laid over those of Sure. -/
theorem RefAt.copied {w : World} {T : Nat → Prop} {m r s cA cB : Nat} {D : Dk} (h : RefAt w T m (some ⟨r, 0, none⟩) (some ⟨s, 0, none⟩) cA cB D) (hn : 0 < D.n) (Cs : Array Value) (hCs : Blk w s 22 Cs) (hS : D.n ≤ Cs.size) (Cn : Array Value) (hCn : Blk w r 22 Cn) (hN : D.n ≤ Cn.size) :
    RefAt (w.setRow s (splice Cs.toList 0 (Cn.toList.take D.n)).toArray) T m (some ⟨r, 0, none⟩) (some ⟨s, 0, none⟩) cA cB { D with S := D.R } := by
  have hrs : r ≠ s := fun e => h.ne r hn rfl (by rw [e])
  have hms : m ≠ s := fun e => by subst e; exact hCs.ne_ h.blk (by decide) rfl
  have hts : T s := by obtain ⟨_, _, e, _, _, ht, _⟩ := h.sure hn; cases e; exact ht
  have hu : Upd (fun k => k = s) w (w.setRow s (splice Cs.toList 0 (Cn.toList.take D.n)).toArray) := Upd.setRow (T := fun k => k = s) (Upd.refl _ w) (.inl rfl) _
  have hlen : (Cn.toList.take D.n).length = D.n := by simp; omega
  refine ⟨h.blk.rowFar hms _, h.tm, ?_, ?_, h.ne, h.cA, h.cB, ⟨h.ok.R, h.ok.R, h.ok.n, h.ok.calls, h.ok.fuse⟩⟩
  · exact h.now.upd hu (fun k _ e => by subst e; exact hts) (fun r' e => by cases e; exact hrs)
  · intro _
    obtain ⟨r', C', e, hb, hs, ht, hi⟩ := h.now hn
    cases e
    have hCC : C' = Cn := by
      have := hb.symm.trans hCn
      injection this with this
      injection this
    subst hCC
    refine ⟨s, _, rfl, hCs.row _, ?_, hts, fun i him => ?_⟩
    · have := length_splice Cs.toList 0 (C'.toList.take D.n) (by rw [hlen]; simp; omega)
      simp only [List.size_toArray, this, Array.length_toList]; exact hS
    · obtain ⟨v, hv, hr⟩ := hi i him
      refine ⟨v, ?_, hr.upd hu (fun k _ e => by subst e; exact hts)⟩
      rw [List.getElem?_toArray]
      unfold splice
      rw [List.take_zero, List.nil_append, List.getElem?_append_left (by rw [hlen]; exact him), List.getElem?_take, if_pos him, Array.getElem?_toList, hv]
theorem row_one {w : World} {T : Nat → Prop} {r : Nat} {n : Nat} {f : Nat → List Nat} (h : TabAt w T (some ⟨r, 0, none⟩) n f) (hn : 0 < n) (C : Array Value) (hC : Blk w r 22 C) : ∀ v ∈ C.toList.take n, v.oneCell' = true := by
  obtain ⟨r', C', e, hb, hs, ht, hi⟩ := h hn
  cases e
  have hCC : C' = C := by
    have := hb.symm.trans hC
    injection this with this
    injection this
  subst hCC
  intro v hv
  obtain ⟨i, hi', rfl⟩ := List.mem_iff_getElem.1 hv
  have h1 : i < n := by simp at hi'; omega
  obtain ⟨u, hu, g, o, c, e, _⟩ := hi i h1
  have : (C'.toList.take n)[i]'hi' = u := by
    have h2 : (C'.toList.take n)[i]? = some u := by rw [List.getElem?_take, if_pos h1, Array.getElem?_toList, hu]
    rw [List.getElem?_eq_getElem hi'] at h2
    exact Option.some.inj h2
  rw [this, e]
  rfl
theorem rows_src {w : World} {r n : Nat} (C : Array Value) (hC : Blk w r 22 C) : ∀ j v, (C.toList.take n)[j]? = some v → w.cell? ((⟨r, 0, none⟩ : Addr).add j) = some v := fun j v hv => by
  have e2 : (⟨r, 0, none⟩ : Addr).add j = ⟨r, j, none⟩ := by unfold Addr.add; split <;> simp_all
  rw [e2, hC.cell, ← Array.getElem?_toList]
  rw [List.getElem?_take] at hv
  split at hv
  · exact hv
  · cases hv
set_option maxRecDepth 100000 in
set_option maxHeartbeats 1000000 in
theorem RefFlush_any (w : World) (T : Nat → Prop) (m : Nat) (A B : Option Addr) (cA cB : Nat) (D : Dk) (h : RefAt w T m A B cA cB D) (hc : D.calls < 4611686018427387904) :
    Calls Try.prog 65 #[.pointer (some ⟨m, 0, none⟩)] w fun e w' =>
      e = .returned (.int .i64 D.flushErr) ∧ RefAt w' T m A B cA cB D.flush ∧ Upd (rT m A B) w w' := by
  have HC := Lib.hid (call_any w T m A B cA cB D h hc)
  clear h
  have hmono : ∀ w w' : World, Upd (fun k => k = m) w w' → Upd (rT m A B) w w' := fun w w' h => h.mono (fun k _ e => .inl e)
  have HMono := Lib.hid hmono
  clear hmono
  have hcase : D.down = true ∨ (D.down = false ∧ D.tick.down = true) ∨ (D.down = false ∧ D.tick.down = false) := by
    cases D.down <;> cases D.tick.down <;> simp
  have htd : D.down = true → D.tick.down = true := fun hd => by unfold Dk.tick; rw [hd]; simp
  rcases hcase with hd | ⟨hd, ht⟩ | ⟨hd, ht⟩
  · have ht := htd hd
    have e2 : D.flushErr = 7 := by unfold Dk.flushErr; rw [ht]; rfl
    have e3 : D.flush = D.tick := by unfold Dk.flush; rw [ht]; rfl
    rw [e2, e3]
    rw [hd, ht] at HC
    clear e2 e3 hd ht htd
    generalize D.tick = D1 at *
    go_enter Try.func65, Try.ntmps65
    go_wp2_with (first
      | (go_at_call 75; refine HC.out.mono ?_; rintro e w1 ⟨rfl, hd1, hu1⟩; have HD1 := Lib.hid hd1; clear hd1)
      | (go_at_call 76; refine (end_any _ _ _).mono ?_; rintro e w5 ⟨rfl, rfl⟩))
    go_ret
    exact ⟨rfl, HD1.out, HMono.out _ _ hu1⟩
  · have e2 : D.flushErr = 7 := by unfold Dk.flushErr; rw [ht]; rfl
    have e3 : D.flush = D.tick := by unfold Dk.flush; rw [ht]; rfl
    rw [e2, e3]
    rw [hd, ht] at HC
    clear e2 e3 hd ht htd
    generalize D.tick = D1 at *
    go_enter Try.func65, Try.ntmps65
    go_wp2_with (first
      | (go_at_call 75; refine HC.out.mono ?_; rintro e w1 ⟨rfl, hd1, hu1⟩; have HD1 := Lib.hid hd1; clear hd1)
      | (go_at_call 76; refine (end_any _ _ _).mono ?_; rintro e w5 ⟨rfl, rfl⟩))
    go_ret
    exact ⟨rfl, HD1.out, HMono.out _ _ hu1⟩
  · have e2 : D.flushErr = 0 := by unfold Dk.flushErr; rw [ht]; rfl
    have e3 : D.flush = { D.tick with S := D.tick.R } := by unfold Dk.flush; rw [ht]; simp [D.tick_R]
    rw [e2, e3]
    rw [hd, ht] at HC
    clear e2 e3 hd ht htd hc
    generalize D.tick = D1 at *
    have hn : D1.n = 0 ∨ 0 < D1.n := by omega
    rcases hn with hn | hn
    · have HN := Lib.hid hn
      clear hn
      go_enter Try.func65, Try.ntmps65
      go_wp2_with (go_at_call 75; refine HC.out.mono ?_; rintro e w1 ⟨rfl, hd1, hu1⟩; have HD1 := Lib.hid hd1; clear hd1)
      have hb1 := HD1.out.blk
      unfold refCells at hb1
      have c0 : w1.cell? ⟨m, 0, none⟩ = some (.slice A D1.n cA) := hb1.cell 0
      have c1 : w1.cell? ⟨m, 1, none⟩ = some (.slice B D1.n cB) := hb1.cell 1
      have hcopy := run_copy_none (P := Try.prog) (w := w1.drew) 57 57 3 22 B A D1.n cB D1.n cA Try.underlying57 slice_size (by rw [HN.out]; rfl)
      clear hb1
      go_still_tail 8, (by kernel_rfl)
      go_wp2_with fail
      go_ret
      have h1 := HD1.out.drew
      refine ⟨rfl, ⟨h1.blk, h1.tm, h1.now, fun h0 => ?_, h1.ne, h1.cA, h1.cB, ⟨h1.ok.R, h1.ok.R, h1.ok.n, h1.ok.calls, h1.ok.fuse⟩⟩, (HMono.out _ _ hu1).drew⟩
      have := HN.out
      have h00 : 0 < D1.n := h0
      omega
    · go_enter Try.func65, Try.ntmps65
      go_wp2_with (go_at_call 75; refine HC.out.mono ?_; rintro e w1 ⟨rfl, hd1, hu1⟩; have HD1 := Lib.hid hd1; clear hd1)
      have hb1 := HD1.out.blk
      unfold refCells at hb1
      have c0 : w1.cell? ⟨m, 0, none⟩ = some (.slice A D1.n cA) := hb1.cell 0
      have c1 : w1.cell? ⟨m, 1, none⟩ = some (.slice B D1.n cB) := hb1.cell 1
      obtain ⟨r, Cn, rfl, hCn, hNs, hTr, _⟩ := HD1.out.now hn
      obtain ⟨s, Cs, rfl, hCs, hSs, hTs, _⟩ := HD1.out.sure hn
      have hone := row_one HD1.out.now hn Cn hCn
      have hsrc := rows_src (n := D1.n) Cn hCn
      have hcp : RefAt (w1.drew.setRow s (splice Cs.toList 0 (Cn.toList.take D1.n)).toArray) T m (some ⟨r, 0, none⟩) (some ⟨s, 0, none⟩) cA cB { D1 with S := D1.R } := HD1.out.drew.copied hn Cs hCs.drew hSs Cn hCn.drew hNs
      obtain ⟨X, hX⟩ : ∃ X, X = Cn.toList.take D1.n := ⟨_, rfl⟩
      have hXl : X.length = D1.n := by rw [hX]; simp; omega
      rw [← hX] at hone hsrc hcp
      have hcopy := run_copy_rows (P := Try.prog) w1.drew 57 57 3 22 s 0 D1.n cB ⟨r, 0, none⟩ D1.n cA 1 Cs 22 X Try.underlying57 slice_size hCs.drew (by rw [hXl, show D1.n.min D1.n = D1.n from Nat.min_self _, Nat.mul_one]) hsrc (by omega) hone
      have HCp := Lib.hid hcp
      clear hX hXl hone hsrc hcp hb1 hCn hCs hNs hSs hTr hTs
      go_still_tail 8, (by kernel_rfl)
      go_wp2_with fail
      go_ret
      exact ⟨rfl, HCp.out, (HMono.out _ _ hu1).drew.setRow (.inl (.inr (.inr rfl))) _⟩
end Go.Proofs.Ytiiegimnnngnnaa
