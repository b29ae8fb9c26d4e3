/- chandlerlaw2.do and like: a call to both; does it read the same? -/
import Derived.Test.YtiiegimnnngnnaaRefNew
namespace Go.Proofs.Ytiiegimnnngnnaa
open Go.RowKit Go.Sort
set_option linter.unusedVariables false

/-- What a call makes of a disk. -/
def Dk.step (D : Dk) (c : CallD) : Dk :=
  if c.Do = 0 then D.write c.I (secBytes c.B c.sh) else if c.Do = 1 then D.flush else if c.Do = 2 then D.setFuse c.I else if c.Do = 3 then D.crash c.bs else D
theorem Dk.step_n (D : Dk) (c : CallD) : (D.step c).n = D.n := by
  unfold Dk.step
  split
  · exact D.write_n _ _
  · split
    · exact D.flush_n
    · split
      · rfl
      · split <;> rfl
theorem Dk.step_calls (D : Dk) (c : CallD) : (D.step c).calls ≤ D.calls + 1 := by
  unfold Dk.step
  split
  · rw [D.write_calls]; omega
  · split
    · rw [D.flush_calls]; omega
    · split
      · exact Nat.le_succ _
      · split <;> exact Nat.le_succ _
/-- The disk and the reference's, in one state. -/
structure Two (T : Nat → Prop) (w : World) (p r s cr cs m : Nat) (A B : Option Addr) (cA cB : Nat) (D : Dk) : Prop where
  d : DiskAt w p r s cr cs D
  ref : RefAt w T m A B cA cB D
  dt : ∀ k, dT p r s k → T k
  rt : ∀ k, rT m A B k → T k
  ap : ∀ k, rT m A B k → ¬ dT p r s k
  lt : ∀ k, T k → k < w.heap.size
def bT (p r s m : Nat) (A B : Option Addr) : Nat → Prop := fun k => dT p r s k ∨ rT m A B k
namespace Two
variable {T : Nat → Prop} {w w' : World} {p r s cr cs m : Nat} {A B : Option Addr} {cA cB : Nat} {D D' : Dk}
theorem below (h : Two T w p r s cr cs m A B cA cB D) (hb : Below w.heap.size w w') : Two T w' p r s cr cs m A B cA cB D :=
  ⟨h.d.below hb, h.ref.below hb, h.dt, h.rt, h.ap, fun k hk => Nat.lt_of_lt_of_le (h.lt k hk) hb.size⟩
theorem drew (h : Two T w p r s cr cs m A B cA cB D) : Two T w.drew p r s cr cs m A B cA cB D := h.below ⟨rfl, rfl, rfl, Nat.le_refl _, fun _ _ => rfl⟩
/-- Others may turn what is theirs. -/
theorem upd {T' : Nat → Prop} (h : Two T w p r s cr cs m A B cA cB D) (hu : Upd T' w w') (hT : ∀ k, k < w.heap.size → T' k → T k) (hn : ∀ k, bT p r s m A B k → ¬ T' k) : Two T w' p r s cr cs m A B cA cB D :=
  ⟨h.d.upd hu (hn _ (.inl (.inl rfl))) (hn _ (.inl (.inr (.inl rfl)))) (hn _ (.inl (.inr (.inr rfl)))), h.ref.upd hu hT (fun k hk => hn k (.inr hk)), h.dt, h.rt, h.ap, fun k hk => Nat.lt_of_lt_of_le (h.lt k hk) hu.size⟩
/-- The disk has turned, its reference not yet. -/
theorem half (h : Two T w p r s cr cs m A B cA cB D) (hu : Upd (dT p r s) w w') : RefAt w' T m A B cA cB D := h.ref.upd hu (fun k _ hk => h.dt k hk) (fun k hk => h.ap k hk)
theorem whole {w0 : World} {D0 : Dk} (h : Two T w0 p r s cr cs m A B cA cB D0) (hs : w0.heap.size ≤ w.heap.size) (h1 : DiskAt w p r s cr cs D') (hu : Upd (rT m A B) w w') (h2 : RefAt w' T m A B cA cB D') : Two T w' p r s cr cs m A B cA cB D' :=
  ⟨h1.upd hu (fun hk => h.ap _ hk (.inl rfl)) (fun hk => h.ap _ hk (.inr (.inl rfl))) (fun hk => h.ap _ hk (.inr (.inr rfl))), h2, h.dt, h.rt, h.ap, fun k hk => Nat.lt_of_lt_of_le (h.lt k hk) (Nat.le_trans hs hu.size)⟩
end Two
theorem Blk.upd_T {T : Nat → Prop} {w w' : World} {g : Nat} {t : TypeId} {cs : Array Value} (h : Blk w g t cs) (hu : Upd T w w') (hT : ∀ k, T k → k < g) : Blk w' g t cs := h.upd hu (fun hg => by have := hT g hg; omega)
def five0 (W : World) (b : Nat) (v0 v1 v2 v3 v4 : Value) : Prop := W.cell? ⟨b, 0, none⟩ = some v0 ∧ W.cell? ⟨b, 1, none⟩ = some v1 ∧ W.cell? ⟨b, 2, none⟩ = some v2 ∧ W.cell? ⟨b, 3, none⟩ = some v3 ∧ W.cell? ⟨b, 4, none⟩ = some v4
theorem five_blk {W : World} {b : Nat} {t : TypeId} {v0 v1 v2 v3 v4 : Value} (h : Blk W b t #[v0, v1, v2, v3, v4]) : five0 W b v0 v1 v2 v3 v4 := ⟨h.cell 0, h.cell 1, h.cell 2, h.cell 3, h.cell 4⟩
set_option maxRecDepth 100000 in
set_option maxHeartbeats 2000000 in
theorem do_write (T : Nat → Prop) (w : World) (p r s cr cs m : Nat) (A B : Option Addr) (cA cB : Nat) (D : Dk) (I : Int) (b : Nat) (sh : Bool) (PA : Option Addr) (pn pc : Nat) (h : Two T w p r s cr cs m A B cA cB D) (hc : D.calls < 4611686018427387904) (hb : b < 256) :
    Calls Try.prog 42 #[.pointer (some ⟨p, 0, none⟩), .pointer (some ⟨m, 0, none⟩), .agg #[.int .i64 0, .int .i64 I, .int .u8 (b : Int), .bool sh, .slice PA pn pc]] w fun e w' =>
      e = .returned (.bool true) ∧ Two T w' p r s cr cs m A B cA cB (D.write I (secBytes b sh)) ∧ Upd (bT p r s m A B) w w' := by
  have hbx : Blk (w.alloc (.cells #[.int .i64 0, .int .i64 I, .int .u8 (b : Int), .bool sh, .slice PA pn pc] 45)).drew w.heap.size 45 #[.int .i64 0, .int .i64 I, .int .u8 (b : Int), .bool sh, .slice PA pn pc] := (Blk.new _ _ _).drew
  have h1 := (h.below ((Below.refl _ _).alloc (Nat.le_refl _) (.cells #[.int .i64 0, .int .i64 I, .int .u8 (b : Int), .bool sh, .slice PA pn pc] 45))).drew
  have HBx := Lib.hid hbx
  have HLt := Lib.hid h.lt
  have H1 := Lib.hid h1
  have hb1 : Below w.heap.size w (w.alloc (.cells #[.int .i64 0, .int .i64 I, .int .u8 (b : Int), .bool sh, .slice PA pn pc] 45)).drew := ((Below.refl _ _).alloc (Nat.le_refl _) _).drew
  have HB1 := Lib.hid hb1
  have HCl := Lib.hid hc
  have tok1 : True := trivial
  clear h h1 hb1 hc
  go_enter Try.func42, Try.ntmps42
  go_wp2_with fail
  go_region_held3 (fun W => W.cell? ⟨w.heap.size, 0, none⟩ = some (.int .i64 0) ∧ W.cell? ⟨w.heap.size, 1, none⟩ = some (.int .i64 I) ∧ W.cell? ⟨w.heap.size, 2, none⟩ = some (.int .u8 (b : Int)) ∧ W.cell? ⟨w.heap.size, 3, none⟩ = some (.bool sh) ∧ W.cell? ⟨w.heap.size, 4, none⟩ = some (.slice PA pn pc))
    ((refine five_blk (t := 45) ?_; assumption))
    (first
      | (go_at_call 35
         have _t := tok1
         refine (sector_any 0 I b sh (.slice PA pn pc) _ hb).mono ?_
         rintro e w3 ⟨g, rfl, hg, hbt, hb3⟩
         have hbx3 := hbx.below hb3 hbx.lt
         have H3 := Lib.hid (H1.out.below hb3)
         have HU3 : Hid (Upd (bT p r s m A B) w w3) := Lib.hid (upd_below (HB1.out.trans (hb3.mono HB1.out.size)))
         have hg3 : w.heap.size ≤ g := Nat.le_trans HB1.out.size hg
         clear tok1 _t hg hb3)
      | (go_at_call 34
         refine (Write_any p r s cr cs D I (some ⟨g, 0, none⟩) (secLen sh) 64 (secBytes b sh) _ H3.out.d hbt (fun g' o' h _ hk => by simp only [Option.some.injEq, Addr.mk.injEq, and_true] at h; obtain ⟨rfl, rfl⟩ := h; have := HLt.out _ (H3.out.dt _ hk); omega) HCl.out).mono ?_
         rintro e w4 ⟨rfl, hd4, hu4⟩
         have hbx4 := hbx3.upd_T hu4 (fun k hk => HLt.out k (H3.out.dt k hk))
         have HR4 := Lib.hid (H3.out.half hu4)
         have HD4 := Lib.hid hd4
         have HU4 : Hid (Upd (bT p r s m A B) w w4) := Lib.hid (HU3.out.trans (hu4.mono (fun k _ hk => .inl hk)))
         have hs4 := hu4.size
         clear hbt hd4 hu4 hg3)
      | (go_at_call 35
         refine (sector_any 0 I b sh (.slice PA pn pc) _ hb).mono ?_
         rintro e w5 ⟨g5, rfl, hg5, hbt5, hb5⟩
         have hbx5 := hbx4.below hb5 hbx4.lt
         have HR5 := Lib.hid (HR4.out.below hb5)
         have HD5 := Lib.hid (HD4.out.below hb5)
         have HU5 : Hid (Upd (bT p r s m A B) w w5) := Lib.hid (HU4.out.trans (upd_below hb5))
         have hs5 := hb5.size
         have HT5 : Hid (∀ k, T k → k < g5) := Lib.hid (fun k hk => by have := H3.out.lt k hk; omega)
         clear hb5)
      | (go_at_call 59
         refine (RefWrite_any _ T m A B (some ⟨g5, 0, none⟩) cA cB (secLen sh) 64 D I (secBytes b sh) HR5.out hbt5 (by cases sh <;> simp [secLen]) (fun g' o' h _ hk => by simp only [Option.some.injEq, Addr.mk.injEq, and_true] at h; obtain ⟨rfl, rfl⟩ := h; have := HT5.out _ hk; omega) (fun k hk => by have := H3.out.lt k hk; omega) HCl.out).mono ?_
         rintro e w6 ⟨rfl, hr6, hu6⟩
         have hbx6 := hbx5.upd_T hu6 (fun k hk => HLt.out k (H3.out.rt k hk))
         have HTwo := Lib.hid (Two.whole H3.out (Nat.le_trans hs4 hs5) HD5.out hu6 hr6)
         have HU6 : Hid (Upd (bT p r s m A B) w w6) := Lib.hid (HU5.out.trans (hu6.mono (fun k _ hk => .inr hk)))
         clear hr6 hu6 hbt5))
  go_wp2_with fail
  go_ret
  exact ⟨rfl, HTwo.out, HU6.out⟩
end Go.Proofs.Ytiiegimnnngnnaa
