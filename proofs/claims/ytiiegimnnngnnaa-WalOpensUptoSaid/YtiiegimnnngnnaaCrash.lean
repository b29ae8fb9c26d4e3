/- The contract of disk.Crash. -/
import Derived.Test.YtiiegimnnngnnaaEqArr
import Derived.Deep.MidRow
import Derived.Deep.RegionHeld3
import Derived.Deep.DrawnRows
namespace Go.Proofs.Ytiiegimnnngnnaa
open Go.RowKit Go.Sort
set_option linter.unusedVariables false
attribute [local go_sem ↓] Go.wp_at_zero Go.wp_at_succ

/-- The bytes behind so many sectors and bytes of a crash. -/
def Dk.upto (D : Dk) (picks : List Nat) (i k : Nat) (x : Nat) : Nat := if x / 64 < i ∨ (x / 64 = i ∧ x % 64 < k) then D.crashR picks x else D.R x

theorem Sect.range {w : World} {g t n : Nat} {f : Nat → Nat} (h : Sect w g t n f) (i : Nat) (hi : i < n) : w.rangeAt g (i * 64) (rowA 64 fun k => f (64 * i + k)).toList := fun j v hv => by
  have hj : j < 64 := by
    rcases Nat.lt_or_ge j 64 with h1 | h1
    · exact h1
    · rw [List.getElem?_eq_none (by simpa [rowA] using h1)] at hv; cases hv
  rw [Array.getElem?_toList, rowA_get 64 _ j hj] at hv
  rw [h.cell (show i * 64 + j < 64 * n by omega), ← hv, Nat.mul_comm i 64]

theorem sector_eq (f g : Nat → Nat) (w : World) : (binOp .eql 92 (.agg (rowA 64 f)) (.agg (rowA 64 g))).run Try.prog w = .ok (.bool ((List.range 64).all fun k => f k == g k)) w := by
  have h := run_eq_bytes (P := Try.prog) w 9998 92 5 64 f g Try.underlying92 Try.underlying5 (by kernel_rfl)
  simp only [binOp, Op.equal, Op.maxDepth, Sem.run_bind, h, Result.andThen_ok]
  rfl

namespace Dk
theorem upto_now (D : Dk) (picks : List Nat) (i k : Nat) (hk : k < 64) : D.upto picks i k (64 * i + k) = D.R (64 * i + k) := by
  unfold upto
  rw [if_neg (by omega)]
theorem upto_same_all (D : Dk) (picks : List Nat) (j : Nat) : ((List.range 64).all fun k => D.upto picks j 0 (64 * j + k) == D.S (64 * j + k)) = D.same j := by
  rw [Bool.eq_iff_iff, same_iff]
  simp only [List.all_eq_true, List.mem_range, beq_iff_eq]
  have hu : ∀ k, k < 64 → D.upto picks j 0 (64 * j + k) = D.R (64 * j + k) := fun k hk => by unfold upto; rw [if_neg (by omega)]
  exact ⟨fun h k hk => (hu k hk).symm.trans (h k hk), fun h k hk => (hu k hk).trans (h k hk)⟩
theorem upto_step (D : Dk) (picks : List Nat) (i k : Nat) (hk : k < 64) (hs : D.same i = false) :
    (fun x => if x = 64 * i + k then mix (D.R (64 * i + k)) (D.S (64 * i + k)) (picks.getD (D.used i + k) 0) else D.upto picks i k x) = D.upto picks i (k + 1) := by
  funext x
  by_cases e : x = 64 * i + k
  · subst e
    simp only [if_true]
    unfold upto crashR
    rw [if_pos (by omega), show (64 * i + k) / 64 = i by omega, show (64 * i + k) % 64 = k by omega, hs]
    rfl
  · simp only [e, if_false]
    unfold upto
    by_cases h : x / 64 < i ∨ (x / 64 = i ∧ x % 64 < k)
    · rw [if_pos h, if_pos (by omega)]
    · rw [if_neg h, if_neg (by omega)]
theorem upto_full (D : Dk) (picks : List Nat) (i : Nat) : D.upto picks i 64 = D.upto picks (i + 1) 0 := by
  funext x
  unfold upto
  by_cases h : x / 64 < i ∨ (x / 64 = i ∧ x % 64 < 64)
  · rw [if_pos h, if_pos (by omega)]
  · rw [if_neg h, if_neg (by omega)]
theorem upto_same (D : Dk) (picks : List Nat) (i : Nat) (hs : D.same i = true) : D.upto picks i 0 = D.upto picks (i + 1) 0 := by
  funext x
  unfold upto
  by_cases h : x / 64 < i ∨ (x / 64 = i ∧ x % 64 < 0)
  · rw [if_pos h, if_pos (by omega)]
  · by_cases h2 : x / 64 = i
    · rw [if_neg h, if_pos (by omega)]
      unfold crashR
      rw [h2, hs]; rfl
    · rw [if_neg h, if_neg (by omega)]
theorem upto_zero (D : Dk) (picks : List Nat) : D.upto picks 0 0 = D.R := by
  funext x
  unfold upto
  rw [if_neg (by omega)]
theorem upto_all (D : Dk) (picks : List Nat) (x : Nat) (hx : x < 64 * D.n) : D.upto picks D.n 0 x = D.crashR picks x := by
  unfold upto
  rw [if_pos (by omega)]
theorem upto_lt {D : Dk} (h : D.Ok) (picks : List Nat) (i k x : Nat) : D.upto picks i k x < 256 := by
  unfold upto
  split
  · exact crashR_lt h picks x
  · exact h.R x
end Dk
/-- The disk in the midst of a crash. -/
def Dk.mid (D : Dk) (picks : List Nat) (i k : Nat) : Dk := { D with R := D.upto picks i k }
theorem Dk.Ok.mid {D : Dk} (h : D.Ok) (picks : List Nat) (i k : Nat) : (D.mid picks i k).Ok := ⟨Dk.upto_lt h picks i k, h.S, h.n, h.calls, h.fuse⟩
theorem DiskAt.mid_step {w : World} {p r s cr cs : Nat} {D : Dk} {bs : List Nat} {j q : Nat} (h : DiskAt w p r s cr cs (D.mid bs j q)) (hok : D.Ok) (hq : q < 64) (hs : D.same j = false) :
    DiskAt (w.setCell ⟨r, j * 64 + q, none⟩ (.int .u8 ((Dk.mix (D.R (64 * j + q)) (D.S (64 * j + q)) (bs.getD (D.used j + q) 0) : Nat) : Int))) p r s cr cs (D.mid bs j (q + 1)) := by
  have hne := h.ne
  refine ⟨h.1.far hne.1 _, (h.2.1.set (j * 64 + q) _).congr fun x _ => ?_, h.2.2.1.far (Ne.symm h.2.2.2.1) _, h.2.2.2.1, h.2.2.2.2.1, h.2.2.2.2.2.1, hok.mid bs j (q + 1)⟩
  have := congrFun (D.upto_step bs j q hq hs) x
  rw [Nat.mul_comm j 64]
  exact this

/-- What is left of the picks. -/
def PickAt (T : Nat → Prop) (w : World) (bs : List Nat) (u : Nat) (v : Value) : Prop :=
  ∃ A m c, v = .slice A m c ∧ m ≤ c ∧ c ≤ maxLen ∧ Bytes w A m (bs.drop u) ∧ ∀ b o, A = some ⟨b, o, none⟩ → 0 < m → ¬ T b
theorem PickAt.upd {T : Nat → Prop} {w w' : World} {bs : List Nat} {u : Nat} {v : Value} (h : PickAt T w bs u v) (hu : Upd T w w') : PickAt T w' bs u v := by
  obtain ⟨A, m, c, e, hm, hc, hb, hT⟩ := h
  exact ⟨A, m, c, e, hm, hc, hb.upd hu hT, hT⟩
theorem PickAt.done {T : Nat → Prop} {w : World} {bs : List Nat} {u : Nat} {A : Option Addr} {c : Nat} (hc : c ≤ maxLen) (hb : Bytes w A 0 (bs.drop u)) : PickAt T w bs (u + 1) (.slice A 0 c) ∧ bs.getD u 0 = 0 := by
  have hl : bs.length ≤ u := by have := hb.1; simp at this; omega
  refine ⟨⟨A, 0, c, rfl, Nat.zero_le _, hc, ⟨by simp; omega, fun x hx => ?_, fun h => absurd h (by omega)⟩, fun _ _ _ h => absurd h (by omega)⟩, ?_⟩
  · rw [List.drop_of_length_le (by omega)] at hx; cases hx
  · rw [List.getD_eq_getElem?_getD, List.getElem?_eq_none hl]; rfl
theorem PickAt.next {T : Nat → Prop} {w : World} {bs : List Nat} {u b o m c : Nat} (hm : m + 1 ≤ c) (hc : c ≤ maxLen) (hb : Bytes w (some ⟨b, o, none⟩) (m + 1) (bs.drop u)) (hT : ¬ T b) (A : Option Addr) (hA : c ≠ 1 → A = some ⟨b, o + 1, none⟩) :
    PickAt T w bs (u + 1) (.slice A m (c - 1)) ∧ w.cell? ⟨b, o, none⟩ = some (.int .u8 ((bs.getD u 0 : Nat) : Int)) ∧ bs.getD u 0 < 256 := by
  have hl : bs.length = u + (m + 1) := by have := hb.1; simp at this; omega
  obtain ⟨b', o', e, hbl, hcell⟩ := hb.2.2 (by omega)
  simp only [Option.some.injEq, Addr.mk.injEq, and_true] at e
  obtain ⟨rfl, rfl⟩ := e
  have hg : ∀ k, (bs.drop u).getD k 0 = bs.getD (u + k) 0 := fun k => by simp [List.getD_eq_getElem?_getD]
  refine ⟨⟨A, m, c - 1, rfl, by omega, by omega, ⟨by simp; omega, fun x hx => hb.2.1 x ?_, fun h0 => ?_⟩, fun b' o' e h0 => ?_⟩, ?_, ?_⟩
  · rw [show u + 1 = u + 1 from rfl, ← List.drop_drop] at hx
    exact List.mem_of_mem_drop hx
  · refine ⟨b, o + 1, hA (by omega), hbl, fun k hk => ?_⟩
    have := hcell (k + 1) (by omega)
    rw [hg] at this
    rw [show o + 1 + k = o + (k + 1) by omega, this]
    simp only [List.getD_eq_getElem?_getD, List.getElem?_drop]
    rw [show u + 1 + k = u + (k + 1) by omega]
  · rw [hA (by omega)] at e
    simp only [Option.some.injEq, Addr.mk.injEq, and_true] at e
    rw [← e.1]; exact hT
  · have := hcell 0 (by omega)
    rw [hg] at this
    simpa using this
  · have := hb.lt 0
    rw [hg] at this
    simpa using this
theorem mix_bits {x y q : Nat} (hx : x < 256) (hy : y < 256) (hq : q < 256) :
    bits .and .u8 (x : Int) (q : Int) = ((x &&& q : Nat) : Int) ∧ bits .andNot .u8 (y : Int) (q : Int) = ((y &&& (255 - q) : Nat) : Int) ∧
      bits .or .u8 ((x &&& q : Nat) : Int) ((y &&& (255 - q) : Nat) : Int) = ((Dk.mix x y q : Nat) : Int) :=
  ⟨u8_and_nat x q hx hq, u8_andNot_nat y q hy hq, u8_or_nat _ _ (Nat.lt_of_le_of_lt Nat.and_le_left hx) (Nat.lt_of_le_of_lt Nat.and_le_left hy)⟩
end Go.Proofs.Ytiiegimnnngnnaa
