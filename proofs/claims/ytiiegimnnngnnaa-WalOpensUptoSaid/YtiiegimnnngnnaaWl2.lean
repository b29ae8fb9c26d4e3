/- Records on sectors: what is written. No program is named here. -/
import Derived.Test.YtiiegimnnngnnaaWl
namespace Go.Proofs.Ytiiegimnnngnnaa
set_option linter.unusedVariables false
namespace Wl

def wrs (D : Dk) (p : Nat) (f : Nat → Nat) : Nat → Nat → Dk × Int
  | 0, _ => (D.flush, D.flushErr)
  | k + 1, i => if D.writeErr ((p + i : Nat) : Int) 64 = 0 then wrs (D.write ((p + i : Nat) : Int) (part f (64 * i) 64)) p f k (i + 1)
      else (D.write ((p + i : Nat) : Int) (part f (64 * i) 64), D.writeErr ((p + i : Nat) : Int) 64)
structure Wrote (D D' : Dk) (e : Int) (lo hi : Nat) (f : Nat → Nat) (c : Nat) : Prop where
  n : D'.n = D.n
  calls : D'.calls ≤ D.calls + c
  fuse : D'.fuse ≤ D.fuse
  out : (e = 0 ∧ D'.down = false ∧ (∀ j, D'.R j = if lo ≤ j ∧ j < hi then f j else D.R j) ∧ D'.S = D'.R ∧ D'.calls = D.calls + c) ∨
    (e = 7 ∧ D'.down = true ∧ D'.S = D.S ∧ ∀ j, D'.R j = D.R j ∨ (lo ≤ j ∧ j < hi ∧ D'.R j = f j))
  free : D.fuse = 0 → e = 0 ∧ D'.fuse = 0
theorem tick_down {D : Dk} (hd : D.down = false) (hf : D.fuse = 0) : D.tick.down = false ∧ D.tick.fuse = 0 := by
  unfold Dk.tick
  rw [if_neg (by rw [hd]; decide), if_pos hf]
  exact ⟨hd, hf⟩
theorem write_down (D : Dk) (i : Int) (b : List Nat) : (D.write i b).down = D.tick.down := by unfold Dk.write; split <;> rfl
theorem write_fuse0 (D : Dk) (i : Int) (b : List Nat) : (D.write i b).fuse = D.tick.fuse := by unfold Dk.write; split <;> rfl
theorem may_in {D : Dk} {i : Nat} (h : i < D.n) : D.may (i : Int) 64 = true := by
  unfold Dk.may
  have : (0 : Int) ≤ (i : Int) ∧ (i : Int) < (D.n : Int) := ⟨by omega, by omega⟩
  simp [this]
theorem write_R {D : Dk} {i : Nat} {f : Nat → Nat} {q : Nat} (hd : D.down = false) (hi : i < D.n) (j : Nat) : (D.write (i : Int) (part f q 64)).R j = if 64 * i ≤ j ∧ j < 64 * i + 64 then f (q + (j - 64 * i)) else D.R j := by
  unfold Dk.write
  rw [part_len, may_in hi, hd, if_pos (show (!false && true) = true from rfl)]
  show Dk.lay D.R (i : Int).toNat (fun k => (part f q 64).getD k 0) j = _
  unfold Dk.lay
  rw [Int.toNat_natCast]
  split
  · rename_i h
    exact part_getD _ _ _ _ (by omega)
  · rfl
theorem wrs_wrote (p : Nat) (f : Nat → Nat) : ∀ (k i : Nat) (D : Dk), D.down = false → p + i + k ≤ D.n → Wrote D (wrs D p f k i).1 (wrs D p f k i).2 (64 * (p + i)) (64 * (p + i + k)) (fun j => f (j - 64 * p)) (k + 1)
  | 0, i, D, hd, hn => by
    show Wrote D D.flush D.flushErr _ _ _ _
    refine ⟨D.flush_n, by rw [D.flush_calls]; omega, D.flush_fuse, ?_, fun hf => ?_⟩
    · unfold Dk.flush Dk.flushErr
      by_cases ht : D.tick.down = true
      · rw [if_pos ht, if_pos ht]
        exact .inr ⟨rfl, ht, D.tick_S, fun j => .inl (by rw [D.tick_R])⟩
      · rw [if_neg ht, if_neg ht]
        refine .inl ⟨rfl, by simpa using ht, fun j => ?_, ?_, ?_⟩
        · rw [if_neg (by omega)]
          show D.tick.R j = _
          rw [D.tick_R]
        · show D.R = D.tick.R
          rw [D.tick_R]
        · show D.tick.calls = _
          rw [D.tick_calls]
    · obtain ⟨h1, h2⟩ := tick_down hd hf
      unfold Dk.flush Dk.flushErr
      rw [if_neg (by rw [h1]; decide), if_neg (by rw [h1]; decide)]
      exact ⟨rfl, h2⟩
  | k + 1, i, D, hd, hn => by
    have hi : p + i < D.n := by omega
    unfold wrs
    have eR : ∀ j, (D.write ((p + i : Nat) : Int) (part f (64 * i) 64)).R j = if 64 * (p + i) ≤ j ∧ j < 64 * (p + i) + 64 then f (j - 64 * p) else D.R j := fun j => by
      rw [write_R hd hi]
      split
      · congr 1; omega
      · rfl
    by_cases ht : D.tick.down = true
    · have e1 : D.writeErr ((p + i : Nat) : Int) 64 = 7 := by unfold Dk.writeErr; rw [if_pos ht]
      rw [e1, if_neg (by decide)]
      refine ⟨D.write_n _ _, by simp only [D.write_calls]; omega, D.write_fuse _ _, .inr ⟨rfl, by rw [write_down]; exact ht, D.write_S _ _, fun j => ?_⟩, fun hf => ?_⟩
      · simp only [eR]
        by_cases h : 64 * (p + i) ≤ j ∧ j < 64 * (p + i) + 64
        · rw [if_pos h]; exact .inr ⟨by omega, by omega, rfl⟩
        · rw [if_neg h]; exact .inl rfl
      · have := (tick_down hd hf).1
        rw [ht] at this; cases this
    · have ht' : D.tick.down = false := by simpa using ht
      have e1 : D.writeErr ((p + i : Nat) : Int) 64 = 0 := by unfold Dk.writeErr; rw [if_neg ht, may_in hi]; rfl
      rw [e1, if_pos rfl]
      have ih := wrs_wrote p f k (i + 1) (D.write ((p + i : Nat) : Int) (part f (64 * i) 64)) (by rw [write_down]; exact ht') (by rw [D.write_n]; omega)
      generalize wrs (D.write ((p + i : Nat) : Int) (part f (64 * i) 64)) p f k (i + 1) = q at ih ⊢
      obtain ⟨D', e⟩ := q
      simp only at ih ⊢
      obtain ⟨h1, h2, h3, h4, h5⟩ := ih
      refine ⟨by rw [h1, D.write_n], by rw [D.write_calls] at h2; omega, Nat.le_trans h3 (D.write_fuse _ _), ?_, fun hf => h5 (by rw [write_fuse0]; exact (tick_down hd hf).2)⟩
      rcases h4 with ⟨a1, a2, a3, a4, a5⟩ | ⟨a1, a2, a3, a4⟩
      · refine .inl ⟨a1, a2, fun j => ?_, a4, by rw [a5, D.write_calls]; omega⟩
        rw [a3, eR]
        by_cases q1 : 64 * (p + (i + 1)) ≤ j ∧ j < 64 * (p + (i + 1) + k)
        · rw [if_pos q1, if_pos (by omega)]
        · rw [if_neg q1]
          by_cases q2 : 64 * (p + i) ≤ j ∧ j < 64 * (p + i) + 64
          · rw [if_pos q2, if_pos (by omega)]
          · rw [if_neg q2, if_neg (by omega)]
      · refine .inr ⟨a1, a2, by rw [a3, D.write_S], fun j => ?_⟩
        rcases a4 j with b | ⟨b1, b2, b3⟩
        · rw [eR] at b
          by_cases q2 : 64 * (p + i) ≤ j ∧ j < 64 * (p + i) + 64
          · rw [if_pos q2] at b
            exact .inr ⟨by omega, by omega, b⟩
          · rw [if_neg q2] at b
            exact .inl b
        · exact .inr ⟨by omega, by omega, b3⟩
/-- A log: its area, how many records, the sector behind them, its marks. -/
structure Lg where
  fr : Nat
  to : Nat
  n : Nat
  next : Nat
  m : Nat → Nat
  failed : Bool
def put (D : Dk) (L : Lg) (b : List Nat) : Dk × Lg × Int :=
  if (wrs D L.next (fun k => (bin b).getD k 0) (need b.length) 0).2 = 0 then
    ((wrs (wrs D L.next (fun k => (bin b).getD k 0) (need b.length) 0).1 L.fr (setMark L.m L.n) 1 0).1, { L with m := setMark L.m L.n },
      (wrs (wrs D L.next (fun k => (bin b).getD k 0) (need b.length) 0).1 L.fr (setMark L.m L.n) 1 0).2)
  else ((wrs D L.next (fun k => (bin b).getD k 0) (need b.length) 0).1, L, (wrs D L.next (fun k => (bin b).getD k 0) (need b.length) 0).2)
def append (D : Dk) (L : Lg) (b : List Nat) : Dk × Lg × Int :=
  if 8192 < b.length then (D, L, 2)
  else if L.n = 512 ∨ L.to - L.next < need b.length then (D, L, 6)
  else if L.failed = true then (D, L, 13)
  else if (put D L b).2.2 = 0 then ((put D L b).1, { (put D L b).2.1 with next := L.next + need b.length, n := L.n + 1 }, 0)
  else ((put D L b).1, { (put D L b).2.1 with failed := true }, (put D L b).2.2)
/-- The records rs lie between the sectors fr and to; what is there is sure. -/
structure Area (D : Dk) (fr to nx : Nat) (rs : List (List Nat)) : Prop where
  up : D.down = false
  fit : to ≤ D.n
  lt : fr < to
  laid : Laid D.R (fr + 1) rs nx
  nx : nx ≤ to
  few : rs.length ≤ 512
  marks : ∀ j, j < 512 → mk D.R fr j = decide (j < rs.length)
  sure : ∀ k, 64 * fr ≤ k → k < 64 * to → D.S k = D.R k
/-- An open log of them. -/
structure Holds (D : Dk) (L : Lg) (rs : List (List Nat)) : Prop where
  area : Area D L.fr L.to L.next rs
  n : L.n = rs.length
  fine : L.failed = false
  m : ∀ k, k < 64 → D.R (64 * L.fr + k) = L.m k
theorem Area.opens {D : Dk} {fr to nx : Nat} {rs : List (List Nat)} (h : Area D fr to nx rs) : opens D.R fr to = some (rs, nx) := opens_of h.marks h.nx h.few h.laid
theorem Area.holds {D : Dk} {fr to nx : Nat} {rs : List (List Nat)} (h : Area D fr to nx rs) : Holds D ⟨fr, to, rs.length, nx, fun k => D.R (64 * fr + k), false⟩ rs := ⟨h, rfl, rfl, fun _ _ => rfl⟩
theorem Holds.append_long {D : Dk} {L : Lg} {b : List Nat} (hb : 8192 < b.length) : append D L b = (D, L, 2) := by unfold append; rw [if_pos hb]
theorem Holds.append_room {D : Dk} {L : Lg} {b : List Nat} (hb : b.length ≤ 8192) (h : L.n = 512 ∨ L.to - L.next < need b.length) : append D L b = (D, L, 6) := by unfold append; rw [if_neg (by omega), if_pos h]
/-- What an Append makes of a disk with power: all of it, or the power goes. -/
theorem Holds.append {D : Dk} {L : Lg} {rs : List (List Nat)} {b : List Nat} (h : Holds D L rs) (hb : b.length ≤ 8192) (hr : L.n ≠ 512) (hroom : L.next + need b.length ≤ L.to) :
    ∃ D' L' e, append D L b = (D', L', e) ∧ D'.n = D.n ∧ D'.calls ≤ D.calls + need b.length + 3 ∧ D'.fuse ≤ D.fuse ∧ (D.fuse = 0 → e = 0 ∧ D'.fuse = 0) ∧
      (∀ j, ¬ (64 * L.fr ≤ j ∧ j < 64 * L.to) → D'.R j = D.R j ∧ (D'.S j = D.S j ∨ D'.S j = D.R j)) ∧
      L'.fr = L.fr ∧ L'.to = L.to ∧
      ((e = 0 ∧ Holds D' L' (rs ++ [b]) ∧ D'.S = D'.R ∧ D'.calls = D.calls + need b.length + 3 ∧ L'.n = L.n + 1 ∧ L'.next = L.next + need b.length ∧
          (∀ j, D'.R j = if 64 * L.next ≤ j ∧ j < 64 * (L.next + need b.length) then (bin b).getD (j - 64 * L.next) 0 else if 64 * L.fr ≤ j ∧ j < 64 * L.fr + 64 then setMark L.m L.n (j - 64 * L.fr) else D.R j)) ∨
       (e = 7 ∧ D'.down = true ∧ L'.failed = true ∧ L'.n = L.n ∧ L'.next = L.next ∧
          ((∀ j, D'.S j = D.S j ∧ (D'.R j = D.R j ∨ 64 * L.next ≤ j)) ∨
           (∃ M : Nat → Nat, D'.S = M ∧ Laid M (L.fr + 1) (rs ++ [b]) (L.next + need b.length) ∧ (∀ k, k < 64 → M (64 * L.fr + k) = L.m k) ∧ ∀ j, D'.R j = M j ∨ (64 * L.fr ≤ j ∧ j < 64 * L.fr + 64 ∧ D'.R j = setMark L.m L.n (j - 64 * L.fr)))))) := by
  obtain ⟨ha, hn, hf, hm⟩ := h
  obtain ⟨up, fit, lt, laid, nx, few, marks, sure⟩ := ha
  have hnd := need_ge hb
  have hle := laid.le
  have w1 := wrs_wrote L.next (fun k => (bin b).getD k 0) (need b.length) 0 D up (by omega)
  have hbl := bin_len hb
  unfold Wl.append
  rw [if_neg (by omega), if_neg (by omega), if_neg (by rw [hf]; decide)]
  unfold put
  obtain ⟨D1, e1, hq⟩ : ∃ D1 e1, wrs D L.next (fun k => (bin b).getD k 0) (need b.length) 0 = (D1, e1) := ⟨_, _, rfl⟩
  rw [hq] at w1 ⊢
  simp only at w1 ⊢
  obtain ⟨n1, c1, f1, o1, z1⟩ := w1
  rcases o1 with ⟨rfl, d1, r1, s1, k1⟩ | ⟨rfl, d1, s1, r1⟩
  · rw [if_pos rfl]
    have w2 := wrs_wrote L.fr (setMark L.m L.n) 1 0 D1 d1 (by omega)
    obtain ⟨D2, e2, hq2⟩ : ∃ D2 e2, wrs D1 L.fr (setMark L.m L.n) 1 0 = (D2, e2) := ⟨_, _, rfl⟩
    rw [hq2] at w2 ⊢
    simp only at w2 ⊢
    obtain ⟨n2, c2, f2, o2, z2⟩ := w2
    have laid1 : Laid D1.R (L.fr + 1) (rs ++ [b]) (L.next + need b.length) := by
      refine Laid.snoc hb ?_ (laid.congr fun k h1 h2 => ?_)
      · rw [← hbl]
        refine part_of fun j hj => ?_
        rw [r1, if_pos (by omega)]
        congr 1; omega
      · rw [r1, if_neg (by omega)]
    have m1 : ∀ k, k < 64 → D1.R (64 * L.fr + k) = L.m k := fun k hk => by rw [r1, if_neg (by omega)]; exact hm k hk
    rcases o2 with ⟨rfl, d2, r2, s2, k2⟩ | ⟨rfl, d2, s2, r2⟩
    · rw [if_pos rfl]
      have r3 : ∀ j, D2.R j = if 64 * L.next ≤ j ∧ j < 64 * (L.next + need b.length) then (bin b).getD (j - 64 * L.next) 0 else if 64 * L.fr ≤ j ∧ j < 64 * L.fr + 64 then setMark L.m L.n (j - 64 * L.fr) else D.R j := fun j => by
        rw [r2, r1]
        by_cases q1 : 64 * L.fr ≤ j ∧ j < 64 * L.fr + 64
        · rw [if_pos (by omega), if_neg (by omega), if_pos q1]
        · rw [if_neg (by omega)]
          by_cases q2 : 64 * L.next ≤ j ∧ j < 64 * (L.next + need b.length)
          · rw [if_pos (by omega), if_pos q2]
          · rw [if_neg (by omega), if_neg q2, if_neg q1]
      refine ⟨_, _, _, rfl, by rw [n2, n1], by omega, by omega, fun h0 => ⟨rfl, (z2 (z1 h0).2).2⟩, fun j hj => ?_, rfl, rfl, .inl ⟨rfl, ⟨⟨d2, by rw [n2, n1]; exact fit, lt, ?_, hroom, by rw [List.length_append]; simp only [List.length_cons, List.length_nil]; omega, ?_, fun k _ _ => by rw [s2]⟩, by rw [List.length_append, ← hn]; rfl, hf, fun k hk => ?_⟩, s2, by omega, rfl, rfl, r3⟩⟩
      · have e : D2.R j = D.R j := by rw [r3, if_neg (by omega), if_neg (by omega)]
        exact ⟨e, .inr (by rw [s2, e])⟩
      · exact laid1.congr fun k h1 h2 => by rw [r2, if_neg (by omega)]
      · have e : ∀ k, k < 64 → D2.R (64 * L.fr + k) = setMark L.m L.n k := fun k hk => by rw [r2, if_pos (by omega)]; congr 1; omega
        intro j hj
        rw [mk_at e, List.length_append, ← hn]
        exact mk_set_all (by omega) (fun i hi => by rw [← mk_at hm, marks i hi, hn]) j hj
      · show D2.R (64 * L.fr + k) = setMark L.m L.n k
        rw [r2, if_pos (by omega)]
        congr 1; omega
    · rw [if_neg (by decide)]
      refine ⟨_, _, _, rfl, by rw [n2, n1], by omega, by omega, fun h0 => absurd (z2 (z1 h0).2).1 (by decide), fun j hj => ?_, rfl, rfl, .inr ⟨rfl, d2, rfl, rfl, rfl, .inr ⟨D1.R, by rw [s2, s1], laid1, m1, fun j => ?_⟩⟩⟩
      · have e1 : D1.R j = D.R j := by rw [r1, if_neg (by omega)]
        have e : D2.R j = D.R j := by
          rcases r2 j with q | q
          · rw [q, e1]
          · omega
        refine ⟨e, ?_⟩
        rw [s2, s1, e1]
        exact .inr rfl
      · rcases r2 j with q | q
        · exact .inl q
        · exact .inr ⟨by omega, by omega, q.2.2⟩
  · rw [if_neg (show ¬ (7 : Int) = 0 by decide)]
    simp only
    rw [if_neg (show ¬ (7 : Int) = 0 by decide)]
    refine ⟨_, _, _, rfl, n1, by omega, f1, fun h0 => absurd (z1 h0).1 (by decide), fun j hj => ?_, rfl, rfl, .inr ⟨rfl, d1, rfl, rfl, rfl, .inl fun j => ⟨by rw [s1], ?_⟩⟩⟩
    · refine ⟨?_, .inl (by rw [s1])⟩
      rcases r1 j with q | q
      · exact q
      · omega
    · rcases r1 j with q | q
      · exact .inl q
      · exact .inr (by omega)
end Wl
end Go.Proofs.Ytiiegimnnngnnaa
