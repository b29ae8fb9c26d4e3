/- The reference's disk (chandlerref1.Disk): its state, and the contracts of its small calls. -/
import Derived.Test.YtiiegimnnngnnaaDiskSureWalk
namespace Go.Proofs.Ytiiegimnnngnnaa
open Go.RowKit Go.Sort
set_option linter.unusedVariables false

namespace Dk
def sectorS (D : Dk) (i : Nat) : List Nat := (List.range 64).map fun k => D.S (64 * i + k)
theorem Ok.sectorS {D : Dk} (h : D.Ok) (i : Nat) : ∀ x ∈ D.sectorS i, x < 256 := fun x hx => by
  obtain ⟨k, _, rfl⟩ := List.mem_map.1 hx
  exact h.S _
theorem sectorS_length (D : Dk) (i : Nat) : (D.sectorS i).length = 64 := by simp [sectorS]
theorem sectorS_getD (D : Dk) (i k : Nat) (hk : k < 64) : (D.sectorS i).getD k 0 = D.S (64 * i + k) := by
  unfold sectorS
  rw [List.getD_eq_getElem?_getD, List.getElem?_map, List.getElem?_range hk]; rfl
theorem sector_write (D : Dk) (i : Nat) (b : List Nat) (hb : b.length = 64) (hd : D.down = false) (hm : i < D.n) (j : Nat) : (D.write (i : Int) b).sector j = if j = i then b else D.sector j := by
  have hw : (D.write (i : Int) b).R = lay D.R i (fun k => b.getD k 0) := by
    unfold write
    rw [if_pos]
    · dsimp only; rw [Int.toNat_natCast]
    · unfold may; rw [hd, hb]; simp; omega
  unfold sector
  rw [hw]
  unfold lay
  by_cases e : j = i
  · subst e
    rw [if_pos rfl]
    apply List.ext_getElem?
    intro k
    rcases Nat.lt_or_ge k 64 with hk | hk
    · rw [List.getElem?_map, List.getElem?_range hk, List.getElem?_eq_getElem (by omega)]
      simp only [Option.map_some]
      rw [if_pos (by omega), show 64 * j + k - 64 * j = k by omega, List.getD_eq_getElem?_getD, List.getElem?_eq_getElem (by omega)]
      rfl
    · rw [List.getElem?_eq_none (by simpa using hk), List.getElem?_eq_none (by omega)]
  · rw [if_neg e]
    apply List.map_congr_left
    intro k hk
    have := List.mem_range.1 hk
    rw [if_neg (by omega)]
end Dk

/-- A slice of 64 bytes that lies in no block of T. -/
def RowVal (w : World) (T : Nat → Prop) (v : Value) (bs : List Nat) : Prop := ∃ g o c, v = .slice (some ⟨g, o, none⟩) 64 c ∧ 64 ≤ c ∧ c ≤ maxLen ∧ Bytes w (some ⟨g, o, none⟩) 64 bs ∧ ¬ T g
theorem RowVal.upd {w w' : World} {T T' : Nat → Prop} {v : Value} {bs : List Nat} (h : RowVal w T v bs) (hu : Upd T' w w') (hT : ∀ k, k < w.heap.size → T' k → T k) : RowVal w' T v bs := by
  obtain ⟨g, o, c, rfl, hc, hc2, hb, hg⟩ := h
  refine ⟨g, o, c, rfl, hc, hc2, hb.upd hu (fun b o' e h0 h4 => ?_), hg⟩
  cases e
  obtain ⟨_, _, e2, hl, _⟩ := hb.2.2 h0
  cases e2
  exact hg (hT _ hl h4)
/-- A slice of rows, in a block of T. -/
def TabAt (w : World) (T : Nat → Prop) (A : Option Addr) (n : Nat) (f : Nat → List Nat) : Prop :=
  0 < n → ∃ r C, A = some ⟨r, 0, none⟩ ∧ Blk w r 22 C ∧ n ≤ C.size ∧ T r ∧ ∀ i, i < n → ∃ v, C[i]? = some v ∧ RowVal w T v (f i)
theorem TabAt.upd {w w' : World} {T T' : Nat → Prop} {A : Option Addr} {n : Nat} {f : Nat → List Nat} (h : TabAt w T A n f) (hu : Upd T' w w') (hT : ∀ k, k < w.heap.size → T' k → T k) (hA : ∀ r, A = some ⟨r, 0, none⟩ → ¬ T' r) : TabAt w' T A n f := by
  intro hn
  obtain ⟨r, C, e, hb, hs, ht, hi⟩ := h hn
  refine ⟨r, C, e, hb.upd hu (hA r e), hs, ht, fun i him => ?_⟩
  obtain ⟨v, hv, hr⟩ := hi i him
  exact ⟨v, hv, hr.upd hu hT⟩
theorem TabAt.congr {w : World} {T : Nat → Prop} {A : Option Addr} {n : Nat} {f f' : Nat → List Nat} (h : TabAt w T A n f) (e : ∀ i, i < n → f i = f' i) : TabAt w T A n f' := by
  intro hn
  obtain ⟨r, C, ea, hb, hs, ht, hi⟩ := h hn
  refine ⟨r, C, ea, hb, hs, ht, fun i him => ?_⟩
  rw [← e i him]
  exact hi i him
def rT (m : Nat) (A B : Option Addr) : Nat → Prop := fun k => k = m ∨ A = some ⟨k, 0, none⟩ ∨ B = some ⟨k, 0, none⟩
def refCells (A B : Option Addr) (cA cB : Nat) (D : Dk) : Array Value := #[.slice A D.n cA, .slice B D.n cB, .int .i64 (D.calls : Int), .int .i64 (D.fuse : Int), .bool D.down]
structure RefAt (w : World) (T : Nat → Prop) (m : Nat) (A B : Option Addr) (cA cB : Nat) (D : Dk) : Prop where
  blk : Blk w m 59 (refCells A B cA cB D)
  tm : T m
  now : TabAt w T A D.n D.sector
  sure : TabAt w T B D.n D.sectorS
  ne : ∀ r, 0 < D.n → A = some ⟨r, 0, none⟩ → B ≠ some ⟨r, 0, none⟩
  cA : D.n ≤ cA
  cB : D.n ≤ cB
  ok : D.Ok
namespace RefAt
variable {w w' : World} {T T' : Nat → Prop} {m : Nat} {A B : Option Addr} {cA cB : Nat} {D : Dk}
theorem upd (h : RefAt w T m A B cA cB D) (hu : Upd T' w w') (hT : ∀ k, k < w.heap.size → T' k → T k) (hr : ∀ k, rT m A B k → ¬ T' k) : RefAt w' T m A B cA cB D :=
  ⟨h.blk.upd hu (hr _ (.inl rfl)), h.tm, h.now.upd hu hT (fun r e => hr _ (.inr (.inl e))), h.sure.upd hu hT (fun r e => hr _ (.inr (.inr e))), h.ne, h.cA, h.cB, h.ok⟩
theorem below (h : RefAt w T m A B cA cB D) (hb : Below w.heap.size w w') : RefAt w' T m A B cA cB D := by
  have hu : Upd (fun k => w.heap.size ≤ k) w w' := Upd.of_below hb (fun _ _ h => h)
  refine ⟨h.blk.upd hu (by have := h.blk.lt; omega), h.tm, ?_, ?_, h.ne, h.cA, h.cB, h.ok⟩
  · intro hn
    obtain ⟨r, C, e, hb, hs, ht, hi⟩ := h.now hn
    refine ⟨r, C, e, hb.upd hu (by have := hb.lt; omega), hs, ht, fun i him => ?_⟩
    obtain ⟨v, hv, hr⟩ := hi i him
    exact ⟨v, hv, hr.upd hu (fun k h1 h2 => absurd h1 (by omega))⟩
  · intro hn
    obtain ⟨r, C, e, hb, hs, ht, hi⟩ := h.sure hn
    refine ⟨r, C, e, hb.upd hu (by have := hb.lt; omega), hs, ht, fun i him => ?_⟩
    obtain ⟨v, hv, hr⟩ := hi i him
    exact ⟨v, hv, hr.upd hu (fun k h1 h2 => absurd h1 (by omega))⟩
theorem drew (h : RefAt w T m A B cA cB D) : RefAt w.drew T m A B cA cB D := h.below ⟨rfl, rfl, rfl, Nat.le_refl _, fun _ _ => rfl⟩
/-- Only the plain fields turn. -/
theorem plain {D' : Dk} (h : RefAt w T m A B cA cB D) (hu : Upd (fun k => k = m) w w') (hb : Blk w' m 59 (refCells A B cA cB D')) (hn : D'.n = D.n) (hR : D'.R = D.R) (hS : D'.S = D.S) (hok : D'.Ok) : RefAt w' T m A B cA cB D' := by
  have hA : ∀ r, 0 < D.n → A = some ⟨r, 0, none⟩ → ¬ r = m := by
    intro r hn e hr
    subst hr
    obtain ⟨r', C, e', hb', _⟩ := h.now hn
    rw [e] at e'
    cases e'
    exact hb'.ne_ h.blk (by decide) rfl
  have hB : ∀ r, 0 < D.n → B = some ⟨r, 0, none⟩ → ¬ r = m := by
    intro r hn e hr
    subst hr
    obtain ⟨r', C, e', hb', _⟩ := h.sure hn
    rw [e] at e'
    cases e'
    exact hb'.ne_ h.blk (by decide) rfl
  have hs1 : D'.sector = D.sector := by funext i; unfold Dk.sector; rw [hR]
  have hs2 : D'.sectorS = D.sectorS := by funext i; unfold Dk.sectorS; rw [hS]
  refine ⟨hb, h.tm, ?_, ?_, by rw [hn]; exact h.ne, by rw [hn]; exact h.cA, by rw [hn]; exact h.cB, hok⟩
  · rw [hn, hs1]
    intro h0
    exact (h.now.upd hu (fun k _ e => by subst e; exact h.tm) (fun r e => hA r h0 e)) h0
  · rw [hn, hs2]
    intro h0
    exact (h.sure.upd hu (fun k _ e => by subst e; exact h.tm) (fun r e => hB r h0 e)) h0
end RefAt

theorem upd0 (m : Nat) (w : World) : Upd (fun k => k = m) w w := Upd.refl _ _
theorem upd1 {m : Nat} {a w : World} (h : Upd (fun k => k = m) a w) (i : Nat) (u : Value) : Upd (fun k => k = m) a (w.setCell ⟨m, i, none⟩ u) := Upd.setCell (T := fun k => k = m) h (.inl rfl) u
theorem end_any (e : Int) (l : Bool) (w : World) : Calls Try.prog 76 #[.int .i64 e, .bool l] w fun x w' => x = .returned (.int .i64 (if l then 7 else e)) ∧ w = w' := by
  cases l
  · go_enter Try.func76, Try.ntmps76
    go_wp2
    go_ret
    exact ⟨rfl, rfl⟩
  · go_enter Try.func76, Try.ntmps76
    go_wp2
    go_ret
    exact ⟨rfl, rfl⟩
set_option maxRecDepth 100000 in
set_option maxHeartbeats 1000000 in
theorem call_any (w : World) (T : Nat → Prop) (m : Nat) (A B : Option Addr) (cA cB : Nat) (D : Dk) (h : RefAt w T m A B cA cB D) (hc : D.calls < 4611686018427387904) :
    Calls Try.prog 75 #[.pointer (some ⟨m, 0, none⟩)] w fun e w' =>
      e = .returned (.tuple #[.int .i64 (if D.down then 7 else 0), .bool (!D.down && D.tick.down)]) ∧ RefAt w' T m A B cA cB D.tick ∧ Upd (fun k => k = m) w w' := by
  have HR := Lib.hid h
  have hok := h.ok.tick hc
  have HOk := Lib.hid hok
  have hfu := h.ok.fuse
  have hb := h.blk
  unfold refCells at hb
  have c2 : w.cell? ⟨m, 2, none⟩ = some (.int .i64 (D.calls : Int)) := hb.cell 2
  have c3 : w.cell? ⟨m, 3, none⟩ = some (.int .i64 (D.fuse : Int)) := hb.cell 3
  have c4 : w.cell? ⟨m, 4, none⟩ = some (.bool D.down) := hb.cell 4
  have f2 := hb.frozen 2
  have f3 := hb.frozen 3
  have f4 := hb.frozen 4
  have HB := Lib.hid hb
  have HTn := Lib.hid D.tick_n
  have HTr := Lib.hid D.tick_R
  have HTs := Lib.hid D.tick_S
  clear h hok hb
  have fin : ∀ w', Upd (fun k => k = m) w w' → Blk w' m 59 (refCells A B cA cB D.tick) → RefAt w' T m A B cA cB D.tick := fun w' hu hb => HR.out.plain hu hb HTn.out HTr.out HTs.out HOk.out
  have HFin := Lib.hid fin
  clear fin
  have hnew : ∀ w', Blk w' m 59 #[.slice A D.n cA, .slice B D.n cB, .int .i64 (D.tick.calls : Int), .int .i64 (D.tick.fuse : Int), .bool D.tick.down] → Blk w' m 59 (refCells A B cA cB D.tick) := fun w' h => h.cast (by unfold refCells; rw [D.tick_n])
  have HNew := Lib.hid hnew
  clear hnew HOk HTn HTr HTs
  have hcalls : D.tick.calls = D.calls + 1 := D.tick_calls
  have HCalls := Lib.hid hcalls
  clear hcalls
  cases hd : D.down
  · rw [hd] at c4
    have hf1 : D.tick.fuse = D.fuse - 1 := by
      unfold Dk.tick; rw [hd]
      by_cases h0 : D.fuse = 0 <;> simp [h0]
    have hd1 : D.tick.down = (D.fuse == 1) := by
      unfold Dk.tick; rw [hd]
      by_cases h0 : D.fuse = 0 <;> simp [h0]
    have HF1 := Lib.hid hf1
    have HD1 := Lib.hid hd1
    rw [hd] at HB
    clear hf1 hd1 hd
    generalize D.tick = D1 at *
    generalize D.n = n at *
    generalize D.calls = calls at *
    generalize D.fuse = fuse at *
    have hf0 : (0 : Int) ≤ (fuse : Int) := by omega
    have hcase : fuse = 0 ∨ fuse = 1 ∨ 2 ≤ fuse := by omega
    rcases hcase with hf | hf | hf
    · have e1 : ((fuse : Int) == 1) = false := by simp; omega
      have e2 : (fuse : Int) ≤ 0 := by omega
      have HFu := Lib.hid hf
      clear hf
      go_enter Try.func75, Try.ntmps75
      go_wp2
      go_ret2
      rw [HD1.out, HFu.out]
      refine ⟨rfl, HFin.out _ (upd1 (upd1 (upd1 (upd0 m w) _ _) _ _) _ _) (HNew.out _ ?_), upd1 (upd1 (upd1 (upd0 m w) _ _) _ _) _ _⟩
      rw [HCalls.out, HF1.out, HD1.out, HFu.out]
      exact (((HB.out.set_ 2 (.int .i64 ((calls : Int) + 1))).set_ 3 (.int .i64 0)).set_ 4 (.bool false)).cast (by simp)
    · have e1 : ((fuse : Int) == 1) = true := by simp; omega
      have e2 : (fuse : Int) ≤ 1 := by omega
      have e3 : (1 : Int) ≤ fuse := by omega
      have HFu := Lib.hid hf
      clear hf
      go_enter Try.func75, Try.ntmps75
      go_wp2
      go_ret2
      rw [HD1.out, HFu.out]
      refine ⟨rfl, HFin.out _ (upd1 (upd1 (upd1 (upd0 m w) _ _) _ _) _ _) (HNew.out _ ?_), upd1 (upd1 (upd1 (upd0 m w) _ _) _ _) _ _⟩
      rw [HCalls.out, HF1.out, HD1.out, HFu.out]
      exact (((HB.out.set_ 2 (.int .i64 ((calls : Int) + 1))).set_ 3 (.int .i64 0)).set_ 4 (.bool true)).cast (by simp)
    · have e1 : ((fuse : Int) == 1) = false := by simp; omega
      have e2 : (2 : Int) ≤ (fuse : Int) := by omega
      have e4 : (fuse == 1) = false := by simp; omega
      have e5 : ((fuse - 1 : Nat) : Int) = (fuse : Int) - 1 := by omega
      have HFu := Lib.hid (And.intro e4 e5)
      clear hf e4 e5
      go_enter Try.func75, Try.ntmps75
      go_wp2
      go_ret2
      rw [HD1.out, HFu.out.1]
      refine ⟨rfl, HFin.out _ (upd1 (upd1 (upd1 (upd0 m w) _ _) _ _) _ _) (HNew.out _ ?_), upd1 (upd1 (upd1 (upd0 m w) _ _) _ _) _ _⟩
      rw [HCalls.out, HF1.out, HD1.out, HFu.out.1, HFu.out.2]
      exact (((HB.out.set_ 2 (.int .i64 ((calls : Int) + 1))).set_ 3 (.int .i64 ((fuse : Int) - 1))).set_ 4 (.bool false)).cast (by simp)
  · rw [hd] at c4
    have hf1 : D.tick.fuse = D.fuse := by unfold Dk.tick; rw [hd]; rfl
    have hd1 : D.tick.down = true := by unfold Dk.tick; rw [if_pos hd]; exact hd
    have HF1 := Lib.hid hf1
    have HD1 := Lib.hid hd1
    rw [hd] at HB
    clear hf1 hd1 hd
    generalize D.tick = D1 at *
    generalize D.n = n at *
    generalize D.calls = calls at *
    generalize D.fuse = fuse at *
    go_enter Try.func75, Try.ntmps75
    go_wp2
    go_ret2
    refine ⟨rfl, HFin.out _ (upd1 (upd0 m w) _ _) (HNew.out _ ?_), upd1 (upd0 m w) _ _⟩
    rw [HCalls.out, HF1.out, HD1.out]
    exact ((HB.out.set_ 2 (.int .i64 ((calls : Int) + 1)))).cast (by simp)
end Go.Proofs.Ytiiegimnnngnnaa
