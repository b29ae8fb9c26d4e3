/- A record that is written sector by sector, and its mark, is what an Append does. No program is named here. -/
import Derived.Test.YtiiegimnnngnnaaWl4
namespace Go.Proofs.Ytiiegimnnngnnaa
set_option linter.unusedVariables false
namespace Wl

/-- k sectors from q on have been written. -/
structure Wr (D D' : Dk) (q : Nat) (f : Nat → Nat) (k : Nat) : Prop where
  up : D'.down = false
  fuse : D'.fuse = 0
  n : D'.n = D.n
  calls : D'.calls = D.calls + k
  R : ∀ j, D'.R j = if 64 * q ≤ j ∧ j < 64 * (q + k) then f (j - 64 * q) else D.R j
theorem Wr.zero {D : Dk} {q : Nat} {f : Nat → Nat} (h1 : D.down = false) (h2 : D.fuse = 0) : Wr D D q f 0 := ⟨h1, h2, rfl, rfl, fun j => by rw [if_neg (by omega)]⟩
theorem Wr.step {D D' : Dk} {q k : Nat} {f : Nat → Nat} (h : Wr D D' q f k) (hk : q + k < D.n) : Wr D (D'.write ((q + k : Nat) : Int) (part f (64 * k) 64)) q f (k + 1) := by
  obtain ⟨h1, h2⟩ := tick_down h.up h.fuse
  refine ⟨by rw [write_down]; exact h1, by rw [write_fuse0]; exact h2, by rw [D'.write_n, h.n], by rw [D'.write_calls, h.calls]; omega, fun j => ?_⟩
  rw [write_R h.up (by rw [h.n]; exact hk), h.R]
  by_cases q1 : 64 * (q + k) ≤ j ∧ j < 64 * (q + k) + 64
  · rw [if_pos q1, if_pos (by omega)]
    congr 1; omega
  · rw [if_neg q1]
    by_cases q2 : 64 * q ≤ j ∧ j < 64 * (q + k)
    · rw [if_pos q2, if_pos (by omega)]
    · rw [if_neg q2, if_neg (by omega)]
/-- An area that begins at sector 1; beside it a plain disk of the same bytes. -/
structure Beside (n i : Nat) (D Dm : Dk) (L : Lg) (rs : List (List Nat)) : Prop where
  holds : Holds D L rs
  fr : L.fr = 1
  to : L.to = n + 1
  few : L.n ≤ i
  fuse : D.fuse = 0
  calls : D.calls ≤ 2 + 200 * i
  dn : D.n = n + 2
  mup : Dm.down = false
  mfuse : Dm.fuse = 0
  mn : Dm.n = n + 2
  mcalls : Dm.calls ≤ 200 * i
  same : ∀ j, j < 64 * (n + 2) → Dm.R j = D.R j
theorem Beside.nx {n i : Nat} {D Dm : Dk} {L : Lg} {rs : List (List Nat)} (h : Beside n i D Dm L rs) : 2 ≤ L.next ∧ L.next ≤ n + 1 := by
  have h1 := h.holds.area.laid.le
  have h2 := h.holds.area.nx
  rw [h.to] at h2
  rw [h.fr] at h1
  omega
theorem Beside.skip {n i : Nat} {D Dm : Dk} {L : Lg} {rs : List (List Nat)} (h : Beside n i D Dm L rs) : Beside n (i + 1) D Dm L rs :=
  ⟨h.holds, h.fr, h.to, Nat.le_succ_of_le h.few, h.fuse, by have := h.calls; omega, h.dn, h.mup, h.mfuse, h.mn, by have := h.mcalls; omega, h.same⟩
theorem Beside.step {n i : Nat} {D Dm Dy D' : Dk} {L L' : Lg} {rs : List (List Nat)} {b : List Nat} (h : Beside n i D Dm L rs) (hb : b.length ≤ 8192) (hd : Done D L rs b D' L') (hfr : L'.fr = L.fr) (hto : L'.to = L.to) (hf : D'.fuse = 0) (hn : D'.n = D.n)
    (hw : Wr Dm Dy L.next (fun k => (bin b).getD k 0) (need b.length)) : Beside n (i + 1) D' (Dy.write 1 (part (setMark L.m L.n) 0 64)) L' (rs ++ [b]) ∧ ∀ k, k < 64 → setMark L.m L.n k = L'.m k := by
  obtain ⟨x1, x2⟩ := h.nx
  have hnd := need_ge hb
  obtain ⟨t1, t2⟩ := tick_down hw.up hw.fuse
  have hmn := h.mn
  have hfr1 := h.fr
  refine ⟨⟨hd.holds, by rw [hfr, h.fr], by rw [hto, h.to], by rw [hd.n]; have := h.few; omega, hf, by rw [hd.calls]; have := h.calls; omega, by rw [hn, h.dn], by rw [write_down]; exact t1, by rw [write_fuse0]; exact t2, by rw [Dy.write_n, hw.n, h.mn], by rw [Dy.write_calls, hw.calls]; have := h.mcalls; omega, fun j hj => ?_⟩, fun k hk => ?_⟩
  · have := write_R (f := setMark L.m L.n) (q := 0) hw.up (i := 1) (by rw [hw.n, hmn]; omega) j
    rw [show ((1 : Nat) : Int) = 1 from rfl] at this
    rw [this, hw.R, hd.R, hfr1]
    by_cases q1 : 64 * 1 ≤ j ∧ j < 64 * 1 + 64
    · rw [if_pos q1, if_neg (by omega), if_pos q1]
      congr 1; omega
    · rw [if_neg q1, if_neg q1]
      by_cases q2 : 64 * L.next ≤ j ∧ j < 64 * (L.next + need b.length)
      · rw [if_pos q2, if_pos q2]
      · rw [if_neg q2, if_neg q2]
        exact h.same j hj
  · rw [← hd.holds.m k hk, hfr, hd.R, hfr1, if_neg (by omega), if_pos (by omega)]
    congr 1; omega
end Wl
end Go.Proofs.Ytiiegimnnngnnaa
