/- The disk's plain law: a state, what each call makes of it. No program is named here. -/
namespace Go.Proofs.Ytiiegimnnngnnaa

/-- n sectors of 64 bytes; what the bytes read as (R), and as they are sure (S); how many calls changed; the fuse; is the power gone? -/
structure Dk where
  n : Nat
  R : Nat → Nat
  S : Nat → Nat
  calls : Nat
  fuse : Nat
  down : Bool

namespace Dk
def new (n : Nat) : Dk := ⟨n, fun _ => 0, fun _ => 0, 0, 0, false⟩
def tick (D : Dk) : Dk :=
  if D.down then { D with calls := D.calls + 1 }
  else if D.fuse = 0 then { D with calls := D.calls + 1 }
  else { D with calls := D.calls + 1, fuse := D.fuse - 1, down := D.fuse == 1 }
def may (D : Dk) (i : Int) (l : Nat) : Bool := decide (0 ≤ i ∧ i < D.n) && (l == 64)
def lay (R : Nat → Nat) (i : Nat) (b : Nat → Nat) : Nat → Nat := fun k => if 64 * i ≤ k ∧ k < 64 * i + 64 then b (k - 64 * i) else R k
def write (D : Dk) (i : Int) (b : List Nat) : Dk :=
  if !D.down && D.may i b.length then { D.tick with R := lay D.R i.toNat (fun k => b.getD k 0) } else D.tick
def writeErr (D : Dk) (i : Int) (l : Nat) : Int := if D.tick.down then 7 else if D.may i l then 0 else 1
def flush (D : Dk) : Dk := if D.tick.down then D.tick else { D.tick with S := D.R }
def flushErr (D : Dk) : Int := if D.tick.down then 7 else 0
def setFuse (D : Dk) (n : Int) : Dk := { D with fuse := n.toNat }
def readErr (D : Dk) (i : Int) : Int := if D.down then 7 else if 0 ≤ i ∧ i < D.n then 0 else 1
def sector (D : Dk) (i : Nat) : List Nat := (List.range 64).map fun k => D.R (64 * i + k)
def same (D : Dk) (i : Nat) : Bool := (List.range 64).all fun k => D.R (64 * i + k) == D.S (64 * i + k)
def mix (x y p : Nat) : Nat := (x &&& p) ||| (y &&& (255 - p))
def used (D : Dk) : Nat → Nat
  | 0 => 0
  | i + 1 => D.used i + if D.same i then 0 else 64
def crashR (D : Dk) (picks : List Nat) (k : Nat) : Nat :=
  if D.same (k / 64) then D.R k else mix (D.R k) (D.S k) (picks.getD (D.used (k / 64) + k % 64) 0)
def crash (D : Dk) (picks : List Nat) : Dk := { D with R := D.crashR picks, S := D.crashR picks, down := false, fuse := 0 }

theorem tick_n (D : Dk) : D.tick.n = D.n := by unfold tick; split <;> (try split) <;> rfl
theorem tick_R (D : Dk) : D.tick.R = D.R := by unfold tick; split <;> (try split) <;> rfl
theorem tick_S (D : Dk) : D.tick.S = D.S := by unfold tick; split <;> (try split) <;> rfl
theorem tick_calls (D : Dk) : D.tick.calls = D.calls + 1 := by unfold tick; split <;> (try split) <;> rfl
theorem tick_fuse (D : Dk) : D.tick.fuse ≤ D.fuse := by unfold tick; split <;> (try split) <;> simp
theorem write_n (D : Dk) (i : Int) (b : List Nat) : (D.write i b).n = D.n := by unfold write; split <;> simp [tick_n]
theorem write_calls (D : Dk) (i : Int) (b : List Nat) : (D.write i b).calls = D.calls + 1 := by unfold write; split <;> simp [tick_calls]
theorem write_S (D : Dk) (i : Int) (b : List Nat) : (D.write i b).S = D.S := by unfold write; split <;> simp [tick_S]
theorem write_fuse (D : Dk) (i : Int) (b : List Nat) : (D.write i b).fuse ≤ D.fuse := by unfold write; split <;> simp [tick_fuse]
theorem flush_n (D : Dk) : D.flush.n = D.n := by unfold flush; split <;> simp [tick_n]
theorem flush_calls (D : Dk) : D.flush.calls = D.calls + 1 := by unfold flush; split <;> simp [tick_calls]
theorem flush_fuse (D : Dk) : D.flush.fuse ≤ D.fuse := by unfold flush; split <;> simp [tick_fuse]
theorem mix_lt {x y p : Nat} (hx : x < 256) (hy : y < 256) : mix x y p < 256 := by
  unfold mix
  exact Nat.or_lt_two_pow (n := 8) (Nat.lt_of_le_of_lt Nat.and_le_left hx) (Nat.lt_of_le_of_lt Nat.and_le_left hy)

/-- The bytes are bytes. -/
structure Ok (D : Dk) : Prop where
  R : ∀ k, D.R k < 256
  S : ∀ k, D.S k < 256
  n : D.n ≤ 4096
  calls : D.calls ≤ 4611686018427387904
  fuse : D.fuse ≤ 9223372036854775807
theorem Ok.new {n : Nat} (h : n ≤ 4096) : (new n).Ok := ⟨fun _ => by simp [Dk.new], fun _ => by simp [Dk.new], h, by simp [Dk.new], by simp [Dk.new]⟩
theorem Ok.tick {D : Dk} (h : D.Ok) (hc : D.calls < 4611686018427387904) : D.tick.Ok :=
  ⟨by rw [tick_R]; exact h.R, by rw [tick_S]; exact h.S, by rw [tick_n]; exact h.n, by rw [tick_calls]; omega, Nat.le_trans D.tick_fuse h.fuse⟩
theorem lay_lt {R b : Nat → Nat} (hR : ∀ k, R k < 256) (hb : ∀ k, b k < 256) (i k : Nat) : lay R i b k < 256 := by unfold lay; split; exact hb _; exact hR _
theorem getD_lt {b : List Nat} (hb : ∀ x ∈ b, x < 256) (k : Nat) : b.getD k 0 < 256 := by
  rcases Nat.lt_or_ge k b.length with h | h
  · rw [List.getD_eq_getElem?_getD, List.getElem?_eq_getElem h]; exact hb _ (List.getElem_mem h)
  · rw [List.getD_eq_getElem?_getD, List.getElem?_eq_none h]; simp
theorem Ok.write {D : Dk} (h : D.Ok) (hc : D.calls < 4611686018427387904) {i : Int} {b : List Nat} (hb : ∀ x ∈ b, x < 256) : (D.write i b).Ok := by
  refine ⟨fun k => ?_, by rw [write_S]; exact h.S, by rw [write_n]; exact h.n, by rw [write_calls]; omega, Nat.le_trans (D.write_fuse i b) h.fuse⟩
  unfold Dk.write
  split
  · exact lay_lt h.R (getD_lt hb) _ _
  · rw [tick_R]; exact h.R k
theorem Ok.flush {D : Dk} (h : D.Ok) (hc : D.calls < 4611686018427387904) : D.flush.Ok := by
  have ht := h.tick hc
  unfold Dk.flush
  split
  · exact ht
  · exact ⟨ht.R, h.R, ht.n, ht.calls, ht.fuse⟩
theorem Ok.setFuse {D : Dk} (h : D.Ok) {n : Int} (hn : n ≤ 9223372036854775807) : (D.setFuse n).Ok := ⟨h.R, h.S, h.n, h.calls, by simp only [Dk.setFuse]; omega⟩
theorem crashR_lt {D : Dk} (h : D.Ok) (picks : List Nat) (k : Nat) : D.crashR picks k < 256 := by
  unfold crashR
  split
  · exact h.R k
  · exact mix_lt (h.R k) (h.S k)
theorem Ok.crash {D : Dk} (h : D.Ok) (picks : List Nat) : (D.crash picks).Ok := ⟨crashR_lt h picks, crashR_lt h picks, h.n, h.calls, by simp [Dk.crash]⟩
theorem sector_length (D : Dk) (i : Nat) : (D.sector i).length = 64 := by simp [sector]
theorem sector_getD (D : Dk) (i k : Nat) (hk : k < 64) : (D.sector i).getD k 0 = D.R (64 * i + k) := by
  unfold sector
  rw [List.getD_eq_getElem?_getD, List.getElem?_map, List.getElem?_range hk]; rfl
theorem Ok.sector {D : Dk} (h : D.Ok) (i : Nat) : ∀ x ∈ D.sector i, x < 256 := fun x hx => by
  obtain ⟨k, _, rfl⟩ := List.mem_map.1 hx
  exact h.R _
theorem same_iff (D : Dk) (i : Nat) : D.same i = true ↔ ∀ k, k < 64 → D.R (64 * i + k) = D.S (64 * i + k) := by
  unfold same
  rw [List.all_eq_true]
  exact ⟨fun h k hk => by simpa using h k (List.mem_range.2 hk), fun h k hk => by simpa using h k (List.mem_range.1 hk)⟩
end Dk
end Go.Proofs.Ytiiegimnnngnnaa
