/- chandlerlaw2.do: the other calls; and all of them. -/
import Derived.Test.YtiiegimnnngnnaaDo
namespace Go.Proofs.Ytiiegimnnngnnaa
open Go.RowKit Go.Sort
set_option linter.unusedVariables false

set_option maxRecDepth 100000 in
set_option maxHeartbeats 2000000 in
theorem do_flush (T : Nat → Prop) (w : World) (p r s cr cs m : Nat) (A B : Option Addr) (cA cB : Nat) (D : Dk) (I b' : Int) (sh : Bool) (pk : Value) (h : Two T w p r s cr cs m A B cA cB D) (hc : D.calls < 4611686018427387904) :
    Calls Try.prog 42 #[.pointer (some ⟨p, 0, none⟩), .pointer (some ⟨m, 0, none⟩), .agg #[.int .i64 1, .int .i64 I, .int .u8 b', .bool sh, pk]] w fun e w' =>
      e = .returned (.bool true) ∧ Two T w' p r s cr cs m A B cA cB D.flush ∧ Upd (bT p r s m A B) w w' := by
  have hbx : Blk (w.alloc (.cells #[.int .i64 1, .int .i64 I, .int .u8 b', .bool sh, pk] 45)) w.heap.size 45 #[.int .i64 1, .int .i64 I, .int .u8 b', .bool sh, pk] := Blk.new _ _ _
  have c0 : (w.alloc (.cells #[.int .i64 1, .int .i64 I, .int .u8 b', .bool sh, pk] 45)).cell? ⟨w.heap.size, 0, none⟩ = some (.int .i64 1) := hbx.cell 0
  have hb1 : Below w.heap.size w (w.alloc (.cells #[.int .i64 1, .int .i64 I, .int .u8 b', .bool sh, pk] 45)) := (Below.refl _ _).alloc (Nat.le_refl _) _
  have H1 := Lib.hid (h.below hb1)
  have HB1 := Lib.hid hb1
  have HCl := Lib.hid hc
  clear h hb1 hc hbx
  go_enter Try.func42, Try.ntmps42
  go_wp2_with (first
    | (go_at_call 36
       refine (Flush_any p r s cr cs D _ H1.out.d HCl.out).mono ?_
       rintro e w4 ⟨rfl, hd4, hu4⟩
       have HR4 := Lib.hid (H1.out.half hu4)
       have HD4 := Lib.hid hd4
       have HU4 : Hid (Upd (bT p r s m A B) w w4) := Lib.hid ((upd_below HB1.out).trans (hu4.mono (fun k _ hk => .inl hk)))
       have hs4 := hu4.size
       clear hd4 hu4)
    | (go_at_call 65
       refine (RefFlush_any _ T m A B cA cB D HR4.out HCl.out).mono ?_
       rintro e w6 ⟨rfl, hr6, hu6⟩
       have HTwo := Lib.hid (Two.whole H1.out hs4 HD4.out hu6 hr6)
       have HU6 : Hid (Upd (bT p r s m A B) w w6) := Lib.hid (HU4.out.trans (hu6.mono (fun k _ hk => .inr hk)))
       clear hr6 hu6))
  go_ret
  exact ⟨rfl, HTwo.out, HU6.out⟩
set_option maxRecDepth 100000 in
set_option maxHeartbeats 2000000 in
theorem do_crash (T : Nat → Prop) (w : World) (p r s cr cs m : Nat) (A B : Option Addr) (cA cB : Nat) (D : Dk) (I b' : Int) (sh : Bool) (PA : Option Addr) (pn pc : Nat) (bs : List Nat) (h : Two T w p r s cr cs m A B cA cB D)
    (hb : Bytes w PA pn bs) (hnc : pn ≤ pc) (hpc : pc ≤ maxLen) (hP : ∀ g o, PA = some ⟨g, o, none⟩ → 0 < pn → ¬ T g) :
    Calls Try.prog 42 #[.pointer (some ⟨p, 0, none⟩), .pointer (some ⟨m, 0, none⟩), .agg #[.int .i64 3, .int .i64 I, .int .u8 b', .bool sh, .slice PA pn pc]] w fun e w' =>
      e = .returned (.bool true) ∧ Two T w' p r s cr cs m A B cA cB (D.crash bs) ∧ Upd (bT p r s m A B) w w' := by
  have hbx : Blk (w.alloc (.cells #[.int .i64 3, .int .i64 I, .int .u8 b', .bool sh, .slice PA pn pc] 45)) w.heap.size 45 #[.int .i64 3, .int .i64 I, .int .u8 b', .bool sh, .slice PA pn pc] := Blk.new _ _ _
  have c0 : (w.alloc (.cells #[.int .i64 3, .int .i64 I, .int .u8 b', .bool sh, .slice PA pn pc] 45)).cell? ⟨w.heap.size, 0, none⟩ = some (.int .i64 3) := hbx.cell 0
  have c4 : (w.alloc (.cells #[.int .i64 3, .int .i64 I, .int .u8 b', .bool sh, .slice PA pn pc] 45)).cell? ⟨w.heap.size, 4, none⟩ = some (.slice PA pn pc) := hbx.cell 4
  have hb1 : Below w.heap.size w (w.alloc (.cells #[.int .i64 3, .int .i64 I, .int .u8 b', .bool sh, .slice PA pn pc] 45)) := (Below.refl _ _).alloc (Nat.le_refl _) _
  have HBt := Lib.hid (hb.below hb1)
  have H1 := Lib.hid (h.below hb1)
  have HB1 := Lib.hid hb1
  have HP := Lib.hid hP
  have HBx := Lib.hid hbx
  have HLt := Lib.hid h.lt
  clear h hb1 hbx hb hP
  go_enter Try.func42, Try.ntmps42
  go_wp2_with (first
    | (go_at_call 37
       refine (Crash_any p r s cr cs D PA pn pc bs _ H1.out.d HBt.out hnc hpc (fun g o e h0 hk => HP.out g o e h0 (H1.out.dt _ hk))).mono ?_
       rintro e w4 ⟨rfl, hd4, hu4⟩
       have HR4 := Lib.hid (H1.out.half hu4)
       have HD4 := Lib.hid hd4
       have HU4 : Hid (Upd (bT p r s m A B) w w4) := Lib.hid ((upd_below HB1.out).trans (hu4.mono (fun k _ hk => .inl hk)))
       have HBt4 := Lib.hid (HBt.out.upd hu4 (fun g o e h0 hk => HP.out g o e h0 (H1.out.dt _ hk)))
       have d4 : w4.cell? ⟨w.heap.size, 4, none⟩ = some (.slice PA pn pc) := (HBx.out.upd_T hu4 (fun k hk => HLt.out k (H1.out.dt k hk))).cell 4
       have hs4 := hu4.size
       clear hd4 hu4)
    | (go_at_call 66
       refine (RefCrash_any _ T m A B PA cA cB pn pc D bs HR4.out HBt4.out hnc hpc HP.out (fun k hk => by have := H1.out.lt k hk; omega)).mono ?_
       rintro e w6 ⟨rfl, hr6, hu6⟩
       have HTwo := Lib.hid (Two.whole H1.out hs4 HD4.out hu6 hr6)
       have HU6 : Hid (Upd (bT p r s m A B) w w6) := Lib.hid (HU4.out.trans (hu6.mono (fun k _ hk => .inr hk)))
       clear hr6 hu6))
  go_ret
  exact ⟨rfl, HTwo.out, HU6.out⟩
theorem RefAt.setFuse {w : World} {T : Nat → Prop} {m : Nat} {A B : Option Addr} {cA cB : Nat} {D : Dk} (h : RefAt w T m A B cA cB D) (i x : Int) (hx : x = ((i.toNat : Nat) : Int)) (hi : i ≤ 9223372036854775807) : RefAt (w.setCell ⟨m, 3, none⟩ (.int .i64 x)) T m A B cA cB (D.setFuse i) := by
  subst hx
  refine h.plain (upd1 (upd0 m w) 3 _) ?_ rfl rfl rfl (h.ok.setFuse hi)
  have hb := h.blk
  unfold refCells at hb
  exact (hb.set_ 3 _).cast rfl
set_option maxRecDepth 100000 in
set_option maxHeartbeats 2000000 in
theorem do_fuse (T : Nat → Prop) (w : World) (p r s cr cs m : Nat) (A B : Option Addr) (cA cB : Nat) (D : Dk) (I b' : Int) (sh : Bool) (pk : Value) (h : Two T w p r s cr cs m A B cA cB D) (hi : I ≤ 9223372036854775807) :
    Calls Try.prog 42 #[.pointer (some ⟨p, 0, none⟩), .pointer (some ⟨m, 0, none⟩), .agg #[.int .i64 2, .int .i64 I, .int .u8 b', .bool sh, pk]] w fun e w' =>
      e = .returned (.bool true) ∧ Two T w' p r s cr cs m A B cA cB (D.setFuse I) ∧ Upd (bT p r s m A B) w w' := by
  have hbx : Blk (w.alloc (.cells #[.int .i64 2, .int .i64 I, .int .u8 b', .bool sh, pk] 45)) w.heap.size 45 #[.int .i64 2, .int .i64 I, .int .u8 b', .bool sh, pk] := Blk.new _ _ _
  have c0 : (w.alloc (.cells #[.int .i64 2, .int .i64 I, .int .u8 b', .bool sh, pk] 45)).cell? ⟨w.heap.size, 0, none⟩ = some (.int .i64 2) := hbx.cell 0
  have c1 : (w.alloc (.cells #[.int .i64 2, .int .i64 I, .int .u8 b', .bool sh, pk] 45)).cell? ⟨w.heap.size, 1, none⟩ = some (.int .i64 I) := hbx.cell 1
  have hb1 : Below w.heap.size w (w.alloc (.cells #[.int .i64 2, .int .i64 I, .int .u8 b', .bool sh, pk] 45)) := (Below.refl _ _).alloc (Nat.le_refl _) _
  have H1 := Lib.hid (h.below hb1)
  have HB1 := Lib.hid hb1
  have HBx := Lib.hid hbx
  have HLt := Lib.hid h.lt
  have hfin : ∀ (w4 : World) (x : Int), x = ((I.toNat : Nat) : Int) → DiskAt w4 p r s cr cs (D.setFuse I) → Upd (dT p r s) (w.alloc (.cells #[.int .i64 2, .int .i64 I, .int .u8 b', .bool sh, pk] 45)) w4 →
      Two T (w4.setCell ⟨m, 3, none⟩ (.int .i64 x)) p r s cr cs m A B cA cB (D.setFuse I) ∧ Upd (bT p r s m A B) w (w4.setCell ⟨m, 3, none⟩ (.int .i64 x)) := by
    intro w4 x hx hd4 hu4
    have hr4 := (H1.out.half hu4).setFuse I x hx hi
    have hu5 : Upd (rT m A B) w4 (w4.setCell ⟨m, 3, none⟩ (.int .i64 x)) := Upd.setCell (T := rT m A B) (Upd.refl _ _) (.inl (.inl rfl)) _
    exact ⟨Two.whole H1.out hu4.size hd4 hu5 hr4, ((upd_below HB1.out).trans (hu4.mono (fun k _ hk => .inl hk))).trans (hu5.mono (fun k _ hk => .inr hk))⟩
  have HFin := Lib.hid hfin
  clear h hb1 hbx hfin
  by_cases h0 : 0 < I
  · have HI := Lib.hid (show I = ((I.toNat : Nat) : Int) by omega)
    go_enter Try.func42, Try.ntmps42
    go_wp2_with (first
      | (go_at_call 38
         refine (Fuse_any p r s cr cs D I _ H1.out.d hi).mono ?_
         rintro e w4 ⟨rfl, hd4, hu4⟩
         have hr4 := (H1.out.half hu4).blk
         unfold refCells at hr4
         have k3 : w4.cell? ⟨m, 3, none⟩ = some (.int .i64 (D.fuse : Int)) := hr4.cell 3
         have l3 := hr4.frozen 3
         have d1 : w4.cell? ⟨w.heap.size, 1, none⟩ = some (.int .i64 I) := (HBx.out.upd_T hu4 (fun k hk => HLt.out k (H1.out.dt k hk))).cell 1
         have HD4 := Lib.hid hd4
         have HU4 := Lib.hid hu4
         clear hr4 hd4 hu4))
    go_ret
    exact ⟨rfl, HFin.out w4 I HI.out HD4.out HU4.out⟩
  · have HI := Lib.hid (show (0 : Int) = ((I.toNat : Nat) : Int) by omega)
    go_enter Try.func42, Try.ntmps42
    go_wp2_with (first
      | (go_at_call 38
         refine (Fuse_any p r s cr cs D I _ H1.out.d hi).mono ?_
         rintro e w4 ⟨rfl, hd4, hu4⟩
         have hr4 := (H1.out.half hu4).blk
         unfold refCells at hr4
         have k3 : w4.cell? ⟨m, 3, none⟩ = some (.int .i64 (D.fuse : Int)) := hr4.cell 3
         have l3 := hr4.frozen 3
         have d1 : w4.cell? ⟨w.heap.size, 1, none⟩ = some (.int .i64 I) := (HBx.out.upd_T hu4 (fun k hk => HLt.out k (H1.out.dt k hk))).cell 1
         have HD4 := Lib.hid hd4
         have HU4 := Lib.hid hu4
         clear hr4 hd4 hu4))
    go_ret
    exact ⟨rfl, HFin.out w4 0 HI.out HD4.out HU4.out⟩
end Go.Proofs.Ytiiegimnnngnnaa
