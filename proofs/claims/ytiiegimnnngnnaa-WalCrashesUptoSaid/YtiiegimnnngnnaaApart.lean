/- WalApart: what stands while two logs are written. -/
import Derived.Test.YtiiegimnnngnnaaRows3
import Derived.Test.YtiiegimnnngnnaaWl5
import Derived.Test.YtiiegimnnngnnaaWalOrderWalk
namespace Go.Proofs.Ytiiegimnnngnnaa
open Go.RowKit
set_option linter.unusedVariables false

theorem own_upd2 {T : Nat → Prop} {w w' : World} {base : Nat} {e : TypeId} {size n : Nat} {v : Value} {xs : List Value} (h : w.ownsRow base e size v n xs) (hu : Upd T w w') (hT : ∀ k, v.ownBlock = some k → ¬ T k) : w'.ownsRow base e size v n xs := own_upd h hu hT
/-- Where things lie. -/
structure Foot (W0 s0 s2 p r s lx gx ly gy : Nat) : Prop where
  a : W0 ≤ p ∧ W0 ≤ r ∧ W0 ≤ s ∧ W0 ≤ lx ∧ W0 ≤ gx ∧ W0 ≤ ly ∧ W0 ≤ gy
  b : p < s0 ∧ r < s0 ∧ s < s0 ∧ lx < s0 ∧ gx < s0 ∧ ly < s0 ∧ gy < s0
  c : s0 ≤ s2
  d : lx ≠ ly ∧ lx ≠ gy ∧ gx ≠ ly ∧ gx ≠ gy
theorem Foot.x {W0 s0 s2 p r s lx gx ly gy : Nat} (h : Foot W0 s0 s2 p r s lx gx ly gy) : ∀ k, aT p r s gx lx k → W0 ≤ k ∧ k < s0 := fun k hk => by
  have := h.a
  have := h.b
  rcases hk with (hk | hk) | hk
  · rcases hk with rfl | rfl | rfl <;> omega
  · omega
  · omega
theorem Foot.swap {W0 s0 s2 p r s lx gx ly gy : Nat} (h : Foot W0 s0 s2 p r s lx gx ly gy) : Foot W0 s0 s2 p r s ly gy lx gx := by
  have h1 := h.a
  have h2 := h.b
  have h3 := h.d
  exact ⟨by omega, by omega, h.c, by omega⟩
/-- Two logs on one disk; the rows that are written; the rows that were taken. -/
structure Ap (W0 s0 s2 : Nat) (w0 w : World) (p r s lx gx cx ly gy cy : Nat) (vP vQ : Value) (P Q : List (List Nat)) (c : Nat) (D : Dk) (Lx Ly : Wl.Lg) (rx ry : List (List Nat)) : Prop where
  sx : Sys w p r s 60 60 lx gx cx D Lx
  sy : Sys w p r s 60 60 ly gy cy D Ly
  hx : Wl.Holds D Lx rx
  hy : Wl.Holds D Ly ry
  fuse : D.fuse = 0
  calls : D.calls ≤ c
  dn : D.n = 60
  apart : ∀ j, 64 * Lx.fr ≤ j → j < 64 * Lx.to → ¬ (64 * Ly.fr ≤ j ∧ j < 64 * Ly.to)
  rP : RowsT w (fun k => k < W0 ∨ (s0 ≤ k ∧ k < s2)) vP P
  rQ : RowsT w (fun k => k < W0 ∨ (s0 ≤ k ∧ k < s2)) vQ Q
  bel : Below W0 w0 w
  top : W0 ≤ w.heap.size
theorem Ap.swap {W0 s0 s2 : Nat} {w0 w : World} {p r s lx gx cx ly gy cy : Nat} {vP vQ : Value} {P Q : List (List Nat)} {c : Nat} {D : Dk} {Lx Ly : Wl.Lg} {rx ry : List (List Nat)} (h : Ap W0 s0 s2 w0 w p r s lx gx cx ly gy cy vP vQ P Q c D Lx Ly rx ry) : Ap W0 s0 s2 w0 w p r s ly gy cy lx gx cx vQ vP Q P c D Ly Lx ry rx :=
  ⟨h.sy, h.sx, h.hy, h.hx, h.fuse, h.calls, h.dn, fun j h1 h2 h3 => h.apart j h3.1 h3.2 ⟨h1, h2⟩, h.rQ, h.rP, h.bel, h.top⟩
theorem Ap.step {W0 s0 s2 : Nat} {w0 w w' : World} {p r s lx gx cx ly gy cy : Nat} {vP vQ : Value} {P Q : List (List Nat)} {c : Nat} {D D' : Dk} {Lx Ly Lx' : Wl.Lg} {rx rx' ry : List (List Nat)} (h : Ap W0 s0 s2 w0 w p r s lx gx cx ly gy cy vP vQ P Q c D Lx Ly rx ry)
    (F : Foot W0 s0 s2 p r s lx gx ly gy) (hs : Sys w' p r s 60 60 lx gx cx D' Lx') (hu : Upd (aT p r s gx lx) w w') (hn : D'.n = D.n) (hf : D'.fuse = 0) (hfr : Lx'.fr = Lx.fr) (hto : Lx'.to = Lx.to) (hc : D'.calls ≤ D.calls + 200)
    (ho : ∀ j, ¬ (64 * Lx.fr ≤ j ∧ j < 64 * Lx.to) → D'.R j = D.R j ∧ (D'.S j = D.S j ∨ D'.S j = D.R j)) (hh : Wl.Holds D' Lx' rx') :
    Ap W0 s0 s2 w0 w' p r s lx gx cx ly gy cy vP vQ P Q (c + 200) D' Lx' Ly rx' ry := by
  have hcc := h.calls
  refine ⟨hs, ⟨hs.d, h.sy.lg.upd hu ?_ ?_, h.sy.lT, h.sy.gT⟩, hh, h.hy.keep hh.area.up hn (fun j h1 h2 => ho j fun h3 => h.apart j h3.1 h3.2 ⟨h1, h2⟩), hf, by omega, by rw [hn]; exact h.dn, by rw [hfr, hto]; exact h.apart, h.rP.upd hu ?_, h.rQ.upd hu ?_, h.bel.trans (hu.below (fun k hk => (F.x k hk).1) h.top), Nat.le_trans h.top hu.size⟩
  · rintro ((hk | hk) | hk)
    · exact h.sy.lT hk
    · exact F.d.2.2.1 hk.symm
    · exact F.d.1 hk.symm
  · rintro ((hk | hk) | hk)
    · exact h.sy.gT hk
    · exact F.d.2.2.2 hk.symm
    · exact F.d.2.1 hk.symm
  · intro k hq _ hT
    have := F.x k hT
    omega
  · intro k hq _ hT
    have := F.x k hT
    omega
/-- A change elsewhere. -/
theorem Ap.upd {T : Nat → Prop} {W0 s0 s2 : Nat} {w0 w w' : World} {p r s lx gx cx ly gy cy : Nat} {vP vQ : Value} {P Q : List (List Nat)} {c : Nat} {D : Dk} {Lx Ly : Wl.Lg} {rx ry : List (List Nat)} (h : Ap W0 s0 s2 w0 w p r s lx gx cx ly gy cy vP vQ P Q c D Lx Ly rx ry)
    (F : Foot W0 s0 s2 p r s lx gx ly gy) (hu : Upd T w w') (hT : ∀ k, T k → s2 ≤ k) : Ap W0 s0 s2 w0 w' p r s lx gx cx ly gy cy vP vQ P Q c D Lx Ly rx ry := by
  have h1 := F.a
  have h2 := F.b
  have h3 := F.c
  refine ⟨h.sx.upd hu fun k hk => ?_, h.sy.upd hu fun k hk => ?_, h.hx, h.hy, h.fuse, h.calls, h.dn, h.apart, h.rP.upd hu fun k hq _ hk => ?_, h.rQ.upd hu fun k hq _ hk => ?_, h.bel.trans (hu.below (fun k hk => ?_) h.top), Nat.le_trans h.top hu.size⟩ <;>
  · have := hT k hk
    omega
/-- Rows that were taken: slices of the rows at hand. -/
def Took (W0 s0 s2 : Nat) (w : World) (v : Value) (n : Nat) (l : List (List Nat)) : Prop := n = l.length ∧ ∃ xs, w.ownsRow s2 22 1 v n xs ∧ RowsX w (fun k => k < W0 ∨ (s0 ≤ k ∧ k < s2)) xs l
theorem Took.upd {T : Nat → Prop} {W0 s0 s2 : Nat} {w w' : World} {v : Value} {n : Nat} {l : List (List Nat)} (h : Took W0 s0 s2 w v n l) (hu : Upd T w w') (h1 : ∀ k, v.ownBlock = some k → ¬ T k) (h2 : ∀ k, (k < W0 ∨ (s0 ≤ k ∧ k < s2)) → ¬ T k) : Took W0 s0 s2 w' v n l := by
  obtain ⟨hn, xs, h3, h4⟩ := h
  exact ⟨hn, xs, own_upd h3 hu h1, h4.upd hu fun k hk _ => h2 k hk⟩
theorem Took.lt {W0 s0 s2 : Nat} {w : World} {v : Value} {n : Nat} {l : List (List Nat)} (h : Took W0 s0 s2 w v n l) : ∀ k, v.ownBlock = some k → s2 ≤ k ∧ k < w.heap.size := by
  obtain ⟨_, xs, h3, _⟩ := h
  exact h3.lt
theorem Took.at {W0 s0 s2 : Nat} {w : World} {v : Value} {n : Nat} {l : List (List Nat)} (h : Took W0 s0 s2 w v n l) : RowsAt w v l := by
  obtain ⟨_, xs, h3, h4⟩ := h
  exact (h4.row h3).at
theorem alloc_ge (W : World) (o : Obj) : W.heap.size ≤ (W.alloc o).heap.size := by simp
theorem one_read (w : World) (x : Value) (t : TypeId) : Reads (w.alloc (.cells #[x] t)) (w.heap.size + 1) 1 (some ⟨w.heap.size, 0, none⟩) 1 [x] := ⟨rfl, fun _ => ⟨_, rfl, Nat.lt_succ_self _, cell_one_new _ _ _⟩⟩
end Go.Proofs.Ytiiegimnnngnnaa
