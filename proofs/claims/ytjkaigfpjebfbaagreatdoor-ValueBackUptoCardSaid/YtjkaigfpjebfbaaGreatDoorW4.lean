/- Put together: Any.made: a value, and as the reference has it; Any.made at no kind; at any; Arguments that are rows of atoms, of provides, of clauses, and an atom, opened. -/
import Derived.Test.YtjkaigfpjebfbaaGreatDoorW3
import Derived.Test.YtjkaigfpjebfbaaGreatDoorZB
import Derived.Test.YtjkaigfpjebfbaaGreatDoorRows
import Derived.Deep.RegionWith
import Derived.Deep.Slices
import Derived.Deep.Fields
import Derived.ChangeSame
import Derived.ShutString
import Derived.ChangeOld
import Derived.Lib.SmallJoins
/- Any.made: a value, and as the reference has it. -/
namespace Go.Proofs.YtjkaigfpjebfbaaGreatDoor
open Go.RowKit
set_option linter.unusedVariables false

theorem rv_size : (Tryz.prog.info? 32).map (·.size) = some 7 := by kernel_rfl
theorem results_made {fn : Func} {p q : Tmp} (h : fn.results = #[.cell p 30, .cell q 32]) (tmps : Array Value) (w : World) (g k : Nat) (cs ds : Array Value) (hp : tmps.getD p undef = .pointer (some ⟨g, 0, none⟩)) (hq : tmps.getD q undef = .pointer (some ⟨k, 0, none⟩)) (hg : Blk w g 30 cs) (hs : cs.size = 1) (hk : Blk w k 32 ds) (hs2 : ds.size = 7) :
    (results fn tmps).run Tryz.prog w = .ok (.tuple #[.agg cs, .agg ds]) w := by
  have hp' : tmps[p]?.getD undef = .pointer (some ⟨g, 0, none⟩) := by simpa using hp
  have hq' : tmps[q]?.getD undef = .pointer (some ⟨k, 0, none⟩) := by simpa using hq
  have hl := run_loadVar_row (P := Tryz.prog) w g 30 30 cs (0, 0) _ hg Tryz.underlying30 rfl (by rw [val_size, hs])
  have hm := run_loadVar_row (P := Tryz.prog) w k 32 32 ds (0, 0) _ hk Tryz.underlying32 rfl (by rw [rv_size, hs2])
  simp [results, h, hp', hq', asAddr, hl, hm]
theorem ret_made {fn : Func} {p q : Tmp} {R : Ending → World → Prop} {a : Act} {w : World} (h : fn.results = #[.cell p 30, .cell q 32]) (g k : Nat) (cs ds : Array Value) (hg : Blk w g 30 cs) (hs : cs.size = 1) (hk : Blk w k 32 ds) (hs2 : ds.size = 7)
    (hp : a.tmps.getD p undef = .pointer (some ⟨g, 0, none⟩)) (hq : a.tmps.getD q undef = .pointer (some ⟨k, 0, none⟩)) (hd : a.defers = []) (hR : R (.returned (.tuple #[.agg cs, .agg ds])) w) : bodyPost Tryz.prog fn R .ret a w :=
  bodyPost_ret (results_made h _ w g k cs ds hp hq hg hs hk hs2) hd hR
/-- The reference's value. -/
def rV (k : Nat) (s : ByteArray) (n : Int) (b : Bool) (vc va vp : Value) : Value := .agg #[.string (kindB k), .string s, .int .i64 n, .bool b, vc, va, vp]
/-- The argument's block, the two results' blocks. -/
structure Md (w : World) (B0 B : Nat) (C : Array Value) : Prop where
  a : Blk w B 26 C
  b : Blk w (B + 1) 30 #[.nilIface]
  c : Blk w (B + 1 + 1) 32 #[.string ⟨#[]⟩, .string ⟨#[]⟩, .int .i64 0, .bool false, .slice none 0 0, .slice none 0 0, .slice none 0 0]
theorem Md.later {w w' : World} {B0 B : Nat} {C : Array Value} (h : Md w B0 B C) (hb : Below w.heap.size w w') : Md w' B0 B C := ⟨h.a.below hb h.a.lt, h.b.below hb h.b.lt, h.c.below hb h.c.lt⟩
theorem Md.new (w : World) (C : Array Value) : Md (((w.alloc (.cells C 26)).alloc (.cells #[.nilIface] 30)).alloc (.cells #[.string ⟨#[]⟩, .string ⟨#[]⟩, .int .i64 0, .bool false, .slice none 0 0, .slice none 0 0, .slice none 0 0] 32)) w.heap.size w.heap.size C := by
  have h1 : (w.alloc (.cells C 26)).heap.size = w.heap.size + 1 := by simp
  have h2 : ((w.alloc (.cells C 26)).alloc (.cells #[.nilIface] 30)).heap.size = w.heap.size + 1 + 1 := by simp
  refine ⟨((Blk.new w _ _).alloc _).alloc _, ?_, ?_⟩
  · have := (Blk.new (w.alloc (.cells C 26)) 30 #[.nilIface]).alloc (.cells #[.string ⟨#[]⟩, .string ⟨#[]⟩, .int .i64 0, .bool false, .slice none 0 0, .slice none 0 0, .slice none 0 0] 32)
    rw [h1] at this
    exact this
  · have := Blk.new ((w.alloc (.cells C 26)).alloc (.cells #[.nilIface] 30)) 32 #[.string ⟨#[]⟩, .string ⟨#[]⟩, .int .i64 0, .bool false, .slice none 0 0, .slice none 0 0, .slice none 0 0]
    rw [h2] at this
    exact this
theorem Md.done {w : World} {B0 B : Nat} {C : Array Value} (h : Md w B0 B C) (x y0 y1 y2 y3 y4 y5 y6 : Value) :
    Blk ((((((((w.setCell ⟨B + 1, 0, none⟩ x).setCell ⟨B + 1 + 1, 0, none⟩ y0).setCell ⟨B + 1 + 1, 1, none⟩ y1).setCell ⟨B + 1 + 1, 2, none⟩ y2).setCell ⟨B + 1 + 1, 3, none⟩ y3).setCell ⟨B + 1 + 1, 4, none⟩ y4).setCell ⟨B + 1 + 1, 5, none⟩ y5).setCell ⟨B + 1 + 1, 6, none⟩ y6) (B + 1) 30 #[x] ∧
    Blk ((((((((w.setCell ⟨B + 1, 0, none⟩ x).setCell ⟨B + 1 + 1, 0, none⟩ y0).setCell ⟨B + 1 + 1, 1, none⟩ y1).setCell ⟨B + 1 + 1, 2, none⟩ y2).setCell ⟨B + 1 + 1, 3, none⟩ y3).setCell ⟨B + 1 + 1, 4, none⟩ y4).setCell ⟨B + 1 + 1, 5, none⟩ y5).setCell ⟨B + 1 + 1, 6, none⟩ y6) (B + 1 + 1) 32 #[y0, y1, y2, y3, y4, y5, y6] ∧
    Upd (fun k => k = B + 1 ∨ k = B + 1 + 1) w ((((((((w.setCell ⟨B + 1, 0, none⟩ x).setCell ⟨B + 1 + 1, 0, none⟩ y0).setCell ⟨B + 1 + 1, 1, none⟩ y1).setCell ⟨B + 1 + 1, 2, none⟩ y2).setCell ⟨B + 1 + 1, 3, none⟩ y3).setCell ⟨B + 1 + 1, 4, none⟩ y4).setCell ⟨B + 1 + 1, 5, none⟩ y5).setCell ⟨B + 1 + 1, 6, none⟩ y6) :=
  ⟨((((((((h.b.set_ 0 x).far (by simp) _).far (by simp) _).far (by simp) _).far (by simp) _).far (by simp) _).far (by simp) _).far (by simp) _),
   ((((((((h.c.far (by simp) _).set_ 0 y0).set_ 1 y1).set_ 2 y2).set_ 3 y3).set_ 4 y4).set_ 5 y5).set_ 6 y6),
   ((((((((Upd.refl _ w).setCell (.inl (.inl rfl)) _).setCell (.inl (.inr rfl)) _).setCell (.inl (.inr rfl)) _).setCell (.inl (.inr rfl)) _).setCell (.inl (.inr rfl)) _).setCell (.inl (.inr rfl)) _).setCell (.inl (.inr rfl)) _).setCell (.inl (.inr rfl)) _⟩

set_option maxRecDepth 100000 in
set_option maxHeartbeats 4000000 in
theorem made_text (s : ByteArray) (n : Int) (b : Bool) (Ac Aa Ap : Option Addr) (nc cc na ca np cp : Nat) (w : World) :
    Calls Tryz.prog 7 #[.agg #[.int .i64 1, .string s, .int .i64 n, .bool b, .slice Ac nc cc, .slice Aa na ca, .slice Ap np cp]] w fun e w' => e = .returned (.tuple #[.agg #[.iface 9 (.string s)], .agg #[.string (kindB 1), .string s, .int .i64 0, .bool false, .slice none 0 0, .slice none 0 0, .slice none 0 0]]) ∧ Below w.heap.size w w' := by
  obtain ⟨w3, hw3⟩ : ∃ w3, w3 = (((w.alloc (.cells #[.int .i64 1, .string s, .int .i64 n, .bool b, .slice Ac nc cc, .slice Aa na ca, .slice Ap np cp] 26)).alloc (.cells #[.nilIface] 30)).alloc (.cells #[.string ⟨#[]⟩, .string ⟨#[]⟩, .int .i64 0, .bool false, .slice none 0 0, .slice none 0 0, .slice none 0 0] 32)) := ⟨_, rfl⟩
  have HM : Hid (Md w3 w.heap.size w.heap.size #[.int .i64 1, .string s, .int .i64 n, .bool b, .slice Ac nc cc, .slice Aa na ca, .slice Ap np cp]) := Lib.hid (by rw [hw3]; exact Md.new w _)
  have HB : Hid (Below w.heap.size w w3) := Lib.hid (by rw [hw3]; exact (((Below.refl _ w).alloc (Nat.le_refl _) _).alloc (by simp) _).alloc (by simp; omega) _)
  have HZ : Hid (w3.drew.heap.size = w.heap.size + 3) := Lib.hid (by rw [hw3]; simp)
  have HMD := Lib.hid (HM.out.later ((Below.refl _ _).drew))
  have HBD : Hid (Below w.heap.size w w3.drew) := Lib.hid HB.out.drew
  have HO : Hid (∀ W, Calls Tryz.prog 23 #[.string s] W fun e w' => e = .returned (.agg #[.iface 9 (.string s)]) ∧ Below W.heap.size W w') := Lib.hid (fun W => OfText_any s W)
  go_enter Tryz.func7, Tryz.ntmps7
  go_upto_region 3 with fail
  rw [← hw3]
  clear hw3
  have k2 : w3.cell? ⟨w.heap.size, 1, none⟩ = some (.string s) := HM.out.a.cell 1
  go_region_with (go_at_call 23; refine (HO.out _).mono ?_; rintro e w4 ⟨rfl, hb4⟩; have HM4 := Lib.hid (HMD.out.later hb4); have k4 : w4.cell? ⟨w.heap.size, 1, none⟩ = some (.string s) := HM4.out.a.cell 1; have m0 : w4.cell? ⟨w.heap.size + 1, 0, none⟩ = some .nilIface := HM4.out.b.cell 0; have m1 : w4.frozen? ⟨w.heap.size + 1, 0, none⟩ = false := HM4.out.b.frozen 0; have n0 : w4.cell? ⟨w.heap.size + 1 + 1, 0, none⟩ = some (.string ⟨#[]⟩) := HM4.out.c.cell 0; have z0 : w4.frozen? ⟨w.heap.size + 1 + 1, 0, none⟩ = false := HM4.out.c.frozen 0; have n1 : w4.cell? ⟨w.heap.size + 1 + 1, 1, none⟩ = some (.string ⟨#[]⟩) := HM4.out.c.cell 1; have z1 : w4.frozen? ⟨w.heap.size + 1 + 1, 1, none⟩ = false := HM4.out.c.frozen 1; have n2 : w4.cell? ⟨w.heap.size + 1 + 1, 2, none⟩ = some (.int .i64 0) := HM4.out.c.cell 2; have z2 : w4.frozen? ⟨w.heap.size + 1 + 1, 2, none⟩ = false := HM4.out.c.frozen 2; have n3 : w4.cell? ⟨w.heap.size + 1 + 1, 3, none⟩ = some (.bool false) := HM4.out.c.cell 3; have z3 : w4.frozen? ⟨w.heap.size + 1 + 1, 3, none⟩ = false := HM4.out.c.frozen 3; have n4 : w4.cell? ⟨w.heap.size + 1 + 1, 4, none⟩ = some (.slice none 0 0) := HM4.out.c.cell 4; have z4 : w4.frozen? ⟨w.heap.size + 1 + 1, 4, none⟩ = false := HM4.out.c.frozen 4; have n5 : w4.cell? ⟨w.heap.size + 1 + 1, 5, none⟩ = some (.slice none 0 0) := HM4.out.c.cell 5; have z5 : w4.frozen? ⟨w.heap.size + 1 + 1, 5, none⟩ = false := HM4.out.c.frozen 5; have n6 : w4.cell? ⟨w.heap.size + 1 + 1, 6, none⟩ = some (.slice none 0 0) := HM4.out.c.cell 6; have z6 : w4.frozen? ⟨w.heap.size + 1 + 1, 6, none⟩ = false := HM4.out.c.frozen 6; have HB4 := Lib.hid (HBD.out.trans (hb4.mono HBD.out.size)); clear hb4)
  all_goals (go_wp2_with fail)
  all_goals exact ret_made Tryz.results7 (w.heap.size + 1) (w.heap.size + 1 + 1) #[.iface 9 (.string s)] #[.string (kindB 1), .string s, .int .i64 0, .bool false, .slice none 0 0, .slice none 0 0, .slice none 0 0] (HM4.out.done (.iface 9 (.string s)) (.string (kindB 1)) (.string s) (.int .i64 0) (.bool false) (.slice none 0 0) (.slice none 0 0) (.slice none 0 0)).1 rfl (HM4.out.done (.iface 9 (.string s)) (.string (kindB 1)) (.string s) (.int .i64 0) (.bool false) (.slice none 0 0) (.slice none 0 0) (.slice none 0 0)).2.1 rfl rfl rfl rfl ⟨rfl, HB4.out.trans ((HM4.out.done (.iface 9 (.string s)) (.string (kindB 1)) (.string s) (.int .i64 0) (.bool false) (.slice none 0 0) (.slice none 0 0) (.slice none 0 0)).2.2.below (fun k hk => by have hk : k = w.heap.size + 1 ∨ k = w.heap.size + 1 + 1 := hk; omega) HB4.out.size)⟩
set_option maxRecDepth 100000 in
set_option maxHeartbeats 4000000 in
theorem made_count (s : ByteArray) (n : Int) (b : Bool) (Ac Aa Ap : Option Addr) (nc cc na ca np cp : Nat) (w : World) :
    Calls Tryz.prog 7 #[.agg #[.int .i64 2, .string s, .int .i64 n, .bool b, .slice Ac nc cc, .slice Aa na ca, .slice Ap np cp]] w fun e w' => e = .returned (.tuple #[.agg #[.iface 3 (.int .i64 n)], .agg #[.string (kindB 2), .string ⟨#[]⟩, .int .i64 n, .bool false, .slice none 0 0, .slice none 0 0, .slice none 0 0]]) ∧ Below w.heap.size w w' := by
  obtain ⟨w3, hw3⟩ : ∃ w3, w3 = (((w.alloc (.cells #[.int .i64 2, .string s, .int .i64 n, .bool b, .slice Ac nc cc, .slice Aa na ca, .slice Ap np cp] 26)).alloc (.cells #[.nilIface] 30)).alloc (.cells #[.string ⟨#[]⟩, .string ⟨#[]⟩, .int .i64 0, .bool false, .slice none 0 0, .slice none 0 0, .slice none 0 0] 32)) := ⟨_, rfl⟩
  have HM : Hid (Md w3 w.heap.size w.heap.size #[.int .i64 2, .string s, .int .i64 n, .bool b, .slice Ac nc cc, .slice Aa na ca, .slice Ap np cp]) := Lib.hid (by rw [hw3]; exact Md.new w _)
  have HB : Hid (Below w.heap.size w w3) := Lib.hid (by rw [hw3]; exact (((Below.refl _ w).alloc (Nat.le_refl _) _).alloc (by simp) _).alloc (by simp; omega) _)
  have HZ : Hid (w3.drew.heap.size = w.heap.size + 3) := Lib.hid (by rw [hw3]; simp)
  have HMD := Lib.hid (HM.out.later ((Below.refl _ _).drew))
  have HBD : Hid (Below w.heap.size w w3.drew) := Lib.hid HB.out.drew
  have HO : Hid (∀ W, Calls Tryz.prog 24 #[.int .i64 n] W fun e w' => e = .returned (.agg #[.iface 3 (.int .i64 n)]) ∧ Below W.heap.size W w') := Lib.hid (fun W => OfCount_any n W)
  go_enter Tryz.func7, Tryz.ntmps7
  go_upto_region 5 with fail
  rw [← hw3]
  clear hw3
  have k2 : w3.cell? ⟨w.heap.size, 2, none⟩ = some (.int .i64 n) := HM.out.a.cell 2
  go_region_with (go_at_call 24; refine (HO.out _).mono ?_; rintro e w4 ⟨rfl, hb4⟩; have HM4 := Lib.hid (HMD.out.later hb4); have k4 : w4.cell? ⟨w.heap.size, 2, none⟩ = some (.int .i64 n) := HM4.out.a.cell 2; have m0 : w4.cell? ⟨w.heap.size + 1, 0, none⟩ = some .nilIface := HM4.out.b.cell 0; have m1 : w4.frozen? ⟨w.heap.size + 1, 0, none⟩ = false := HM4.out.b.frozen 0; have n0 : w4.cell? ⟨w.heap.size + 1 + 1, 0, none⟩ = some (.string ⟨#[]⟩) := HM4.out.c.cell 0; have z0 : w4.frozen? ⟨w.heap.size + 1 + 1, 0, none⟩ = false := HM4.out.c.frozen 0; have n1 : w4.cell? ⟨w.heap.size + 1 + 1, 1, none⟩ = some (.string ⟨#[]⟩) := HM4.out.c.cell 1; have z1 : w4.frozen? ⟨w.heap.size + 1 + 1, 1, none⟩ = false := HM4.out.c.frozen 1; have n2 : w4.cell? ⟨w.heap.size + 1 + 1, 2, none⟩ = some (.int .i64 0) := HM4.out.c.cell 2; have z2 : w4.frozen? ⟨w.heap.size + 1 + 1, 2, none⟩ = false := HM4.out.c.frozen 2; have n3 : w4.cell? ⟨w.heap.size + 1 + 1, 3, none⟩ = some (.bool false) := HM4.out.c.cell 3; have z3 : w4.frozen? ⟨w.heap.size + 1 + 1, 3, none⟩ = false := HM4.out.c.frozen 3; have n4 : w4.cell? ⟨w.heap.size + 1 + 1, 4, none⟩ = some (.slice none 0 0) := HM4.out.c.cell 4; have z4 : w4.frozen? ⟨w.heap.size + 1 + 1, 4, none⟩ = false := HM4.out.c.frozen 4; have n5 : w4.cell? ⟨w.heap.size + 1 + 1, 5, none⟩ = some (.slice none 0 0) := HM4.out.c.cell 5; have z5 : w4.frozen? ⟨w.heap.size + 1 + 1, 5, none⟩ = false := HM4.out.c.frozen 5; have n6 : w4.cell? ⟨w.heap.size + 1 + 1, 6, none⟩ = some (.slice none 0 0) := HM4.out.c.cell 6; have z6 : w4.frozen? ⟨w.heap.size + 1 + 1, 6, none⟩ = false := HM4.out.c.frozen 6; have HB4 := Lib.hid (HBD.out.trans (hb4.mono HBD.out.size)); clear hb4)
  all_goals (go_wp2_with fail)
  all_goals exact ret_made Tryz.results7 (w.heap.size + 1) (w.heap.size + 1 + 1) #[.iface 3 (.int .i64 n)] #[.string (kindB 2), .string ⟨#[]⟩, .int .i64 n, .bool false, .slice none 0 0, .slice none 0 0, .slice none 0 0] (HM4.out.done (.iface 3 (.int .i64 n)) (.string (kindB 2)) (.string ⟨#[]⟩) (.int .i64 n) (.bool false) (.slice none 0 0) (.slice none 0 0) (.slice none 0 0)).1 rfl (HM4.out.done (.iface 3 (.int .i64 n)) (.string (kindB 2)) (.string ⟨#[]⟩) (.int .i64 n) (.bool false) (.slice none 0 0) (.slice none 0 0) (.slice none 0 0)).2.1 rfl rfl rfl rfl ⟨rfl, HB4.out.trans ((HM4.out.done (.iface 3 (.int .i64 n)) (.string (kindB 2)) (.string ⟨#[]⟩) (.int .i64 n) (.bool false) (.slice none 0 0) (.slice none 0 0) (.slice none 0 0)).2.2.below (fun k hk => by have hk : k = w.heap.size + 1 ∨ k = w.heap.size + 1 + 1 := hk; omega) HB4.out.size)⟩
set_option maxRecDepth 100000 in
set_option maxHeartbeats 4000000 in
theorem made_yes (s : ByteArray) (n : Int) (b : Bool) (Ac Aa Ap : Option Addr) (nc cc na ca np cp : Nat) (w : World) :
    Calls Tryz.prog 7 #[.agg #[.int .i64 3, .string s, .int .i64 n, .bool b, .slice Ac nc cc, .slice Aa na ca, .slice Ap np cp]] w fun e w' => e = .returned (.tuple #[.agg #[.iface 4 (.bool b)], .agg #[.string (kindB 3), .string ⟨#[]⟩, .int .i64 0, .bool b, .slice none 0 0, .slice none 0 0, .slice none 0 0]]) ∧ Below w.heap.size w w' := by
  obtain ⟨w3, hw3⟩ : ∃ w3, w3 = (((w.alloc (.cells #[.int .i64 3, .string s, .int .i64 n, .bool b, .slice Ac nc cc, .slice Aa na ca, .slice Ap np cp] 26)).alloc (.cells #[.nilIface] 30)).alloc (.cells #[.string ⟨#[]⟩, .string ⟨#[]⟩, .int .i64 0, .bool false, .slice none 0 0, .slice none 0 0, .slice none 0 0] 32)) := ⟨_, rfl⟩
  have HM : Hid (Md w3 w.heap.size w.heap.size #[.int .i64 3, .string s, .int .i64 n, .bool b, .slice Ac nc cc, .slice Aa na ca, .slice Ap np cp]) := Lib.hid (by rw [hw3]; exact Md.new w _)
  have HB : Hid (Below w.heap.size w w3) := Lib.hid (by rw [hw3]; exact (((Below.refl _ w).alloc (Nat.le_refl _) _).alloc (by simp) _).alloc (by simp; omega) _)
  have HZ : Hid (w3.drew.heap.size = w.heap.size + 3) := Lib.hid (by rw [hw3]; simp)
  have HMD := Lib.hid (HM.out.later ((Below.refl _ _).drew))
  have HBD : Hid (Below w.heap.size w w3.drew) := Lib.hid HB.out.drew
  have HO : Hid (∀ W, Calls Tryz.prog 25 #[.bool b] W fun e w' => e = .returned (.agg #[.iface 4 (.bool b)]) ∧ Below W.heap.size W w') := Lib.hid (fun W => OfYes_any b W)
  go_enter Tryz.func7, Tryz.ntmps7
  go_upto_region 7 with fail
  rw [← hw3]
  clear hw3
  have k2 : w3.cell? ⟨w.heap.size, 3, none⟩ = some (.bool b) := HM.out.a.cell 3
  go_region_with (go_at_call 25; refine (HO.out _).mono ?_; rintro e w4 ⟨rfl, hb4⟩; have HM4 := Lib.hid (HMD.out.later hb4); have k4 : w4.cell? ⟨w.heap.size, 3, none⟩ = some (.bool b) := HM4.out.a.cell 3; have m0 : w4.cell? ⟨w.heap.size + 1, 0, none⟩ = some .nilIface := HM4.out.b.cell 0; have m1 : w4.frozen? ⟨w.heap.size + 1, 0, none⟩ = false := HM4.out.b.frozen 0; have n0 : w4.cell? ⟨w.heap.size + 1 + 1, 0, none⟩ = some (.string ⟨#[]⟩) := HM4.out.c.cell 0; have z0 : w4.frozen? ⟨w.heap.size + 1 + 1, 0, none⟩ = false := HM4.out.c.frozen 0; have n1 : w4.cell? ⟨w.heap.size + 1 + 1, 1, none⟩ = some (.string ⟨#[]⟩) := HM4.out.c.cell 1; have z1 : w4.frozen? ⟨w.heap.size + 1 + 1, 1, none⟩ = false := HM4.out.c.frozen 1; have n2 : w4.cell? ⟨w.heap.size + 1 + 1, 2, none⟩ = some (.int .i64 0) := HM4.out.c.cell 2; have z2 : w4.frozen? ⟨w.heap.size + 1 + 1, 2, none⟩ = false := HM4.out.c.frozen 2; have n3 : w4.cell? ⟨w.heap.size + 1 + 1, 3, none⟩ = some (.bool false) := HM4.out.c.cell 3; have z3 : w4.frozen? ⟨w.heap.size + 1 + 1, 3, none⟩ = false := HM4.out.c.frozen 3; have n4 : w4.cell? ⟨w.heap.size + 1 + 1, 4, none⟩ = some (.slice none 0 0) := HM4.out.c.cell 4; have z4 : w4.frozen? ⟨w.heap.size + 1 + 1, 4, none⟩ = false := HM4.out.c.frozen 4; have n5 : w4.cell? ⟨w.heap.size + 1 + 1, 5, none⟩ = some (.slice none 0 0) := HM4.out.c.cell 5; have z5 : w4.frozen? ⟨w.heap.size + 1 + 1, 5, none⟩ = false := HM4.out.c.frozen 5; have n6 : w4.cell? ⟨w.heap.size + 1 + 1, 6, none⟩ = some (.slice none 0 0) := HM4.out.c.cell 6; have z6 : w4.frozen? ⟨w.heap.size + 1 + 1, 6, none⟩ = false := HM4.out.c.frozen 6; have HB4 := Lib.hid (HBD.out.trans (hb4.mono HBD.out.size)); clear hb4)
  all_goals (go_wp2_with fail)
  all_goals exact ret_made Tryz.results7 (w.heap.size + 1) (w.heap.size + 1 + 1) #[.iface 4 (.bool b)] #[.string (kindB 3), .string ⟨#[]⟩, .int .i64 0, .bool b, .slice none 0 0, .slice none 0 0, .slice none 0 0] (HM4.out.done (.iface 4 (.bool b)) (.string (kindB 3)) (.string ⟨#[]⟩) (.int .i64 0) (.bool b) (.slice none 0 0) (.slice none 0 0) (.slice none 0 0)).1 rfl (HM4.out.done (.iface 4 (.bool b)) (.string (kindB 3)) (.string ⟨#[]⟩) (.int .i64 0) (.bool b) (.slice none 0 0) (.slice none 0 0) (.slice none 0 0)).2.1 rfl rfl rfl rfl ⟨rfl, HB4.out.trans ((HM4.out.done (.iface 4 (.bool b)) (.string (kindB 3)) (.string ⟨#[]⟩) (.int .i64 0) (.bool b) (.slice none 0 0) (.slice none 0 0) (.slice none 0 0)).2.2.below (fun k hk => by have hk : k = w.heap.size + 1 ∨ k = w.heap.size + 1 + 1 := hk; omega) HB4.out.size)⟩
set_option maxRecDepth 100000 in
set_option maxHeartbeats 4000000 in
theorem made_clauses (s : ByteArray) (n : Int) (b : Bool) (Ac Aa Ap : Option Addr) (nc cc na ca np cp : Nat) (w : World) (C : List (List RA)) (h0 : ClsAt w (.slice Ac nc cc) C) (h1 : C.length ≤ 1048576) (h2 : ∀ l ∈ C, l.length ≤ 1048576) :
    Calls Tryz.prog 7 #[.agg #[.int .i64 4, .string s, .int .i64 n, .bool b, .slice Ac nc cc, .slice Aa na ca, .slice Ap np cp]] w fun e w' => ∃ A m c, e = .returned (.tuple #[.agg #[.iface 22 (.slice A m c)], .agg #[.string (kindB 4), .string ⟨#[]⟩, .int .i64 0, .bool false, .slice Ac nc cc, .slice none 0 0, .slice none 0 0]]) ∧ ClsAt w' (.slice A m c) C ∧ Below w.heap.size w w' := by
  obtain ⟨w3, hw3⟩ : ∃ w3, w3 = (((w.alloc (.cells #[.int .i64 4, .string s, .int .i64 n, .bool b, .slice Ac nc cc, .slice Aa na ca, .slice Ap np cp] 26)).alloc (.cells #[.nilIface] 30)).alloc (.cells #[.string ⟨#[]⟩, .string ⟨#[]⟩, .int .i64 0, .bool false, .slice none 0 0, .slice none 0 0, .slice none 0 0] 32)) := ⟨_, rfl⟩
  have HM : Hid (Md w3 w.heap.size w.heap.size #[.int .i64 4, .string s, .int .i64 n, .bool b, .slice Ac nc cc, .slice Aa na ca, .slice Ap np cp]) := Lib.hid (by rw [hw3]; exact Md.new w _)
  have HB : Hid (Below w.heap.size w w3) := Lib.hid (by rw [hw3]; exact (((Below.refl _ w).alloc (Nat.le_refl _) _).alloc (by simp) _).alloc (by simp; omega) _)
  have HZ : Hid (w3.drew.heap.size = w.heap.size + 3) := Lib.hid (by rw [hw3]; simp)
  have HMD := Lib.hid (HM.out.later ((Below.refl _ _).drew))
  have HBD : Hid (Below w.heap.size w w3.drew) := Lib.hid HB.out.drew
  have HO := Lib.hid (OfClauses_any _ _ w3.drew (h0.below HBD.out) h1 h2)
  clear h0 h1 h2
  go_enter Tryz.func7, Tryz.ntmps7
  go_upto_region 9 with fail
  rw [← hw3]
  clear hw3
  have k2 : w3.cell? ⟨w.heap.size, 4, none⟩ = some (.slice Ac nc cc) := HM.out.a.cell 4
  go_region_with (go_at_call 26; refine (HO.out).mono ?_; rintro e w4 ⟨RA9, rm, rc, rfl, hst, hb4⟩; have HS := Lib.hid hst; have HM4 := Lib.hid (HMD.out.later hb4); have k4 : w4.cell? ⟨w.heap.size, 4, none⟩ = some (.slice Ac nc cc) := HM4.out.a.cell 4; have m0 : w4.cell? ⟨w.heap.size + 1, 0, none⟩ = some .nilIface := HM4.out.b.cell 0; have m1 : w4.frozen? ⟨w.heap.size + 1, 0, none⟩ = false := HM4.out.b.frozen 0; have n0 : w4.cell? ⟨w.heap.size + 1 + 1, 0, none⟩ = some (.string ⟨#[]⟩) := HM4.out.c.cell 0; have z0 : w4.frozen? ⟨w.heap.size + 1 + 1, 0, none⟩ = false := HM4.out.c.frozen 0; have n1 : w4.cell? ⟨w.heap.size + 1 + 1, 1, none⟩ = some (.string ⟨#[]⟩) := HM4.out.c.cell 1; have z1 : w4.frozen? ⟨w.heap.size + 1 + 1, 1, none⟩ = false := HM4.out.c.frozen 1; have n2 : w4.cell? ⟨w.heap.size + 1 + 1, 2, none⟩ = some (.int .i64 0) := HM4.out.c.cell 2; have z2 : w4.frozen? ⟨w.heap.size + 1 + 1, 2, none⟩ = false := HM4.out.c.frozen 2; have n3 : w4.cell? ⟨w.heap.size + 1 + 1, 3, none⟩ = some (.bool false) := HM4.out.c.cell 3; have z3 : w4.frozen? ⟨w.heap.size + 1 + 1, 3, none⟩ = false := HM4.out.c.frozen 3; have n4 : w4.cell? ⟨w.heap.size + 1 + 1, 4, none⟩ = some (.slice none 0 0) := HM4.out.c.cell 4; have z4 : w4.frozen? ⟨w.heap.size + 1 + 1, 4, none⟩ = false := HM4.out.c.frozen 4; have n5 : w4.cell? ⟨w.heap.size + 1 + 1, 5, none⟩ = some (.slice none 0 0) := HM4.out.c.cell 5; have z5 : w4.frozen? ⟨w.heap.size + 1 + 1, 5, none⟩ = false := HM4.out.c.frozen 5; have n6 : w4.cell? ⟨w.heap.size + 1 + 1, 6, none⟩ = some (.slice none 0 0) := HM4.out.c.cell 6; have z6 : w4.frozen? ⟨w.heap.size + 1 + 1, 6, none⟩ = false := HM4.out.c.frozen 6; have HB4 := Lib.hid (HBD.out.trans (hb4.mono HBD.out.size)); clear hb4 hst)
  all_goals (go_wp2_with fail)
  all_goals exact ret_made Tryz.results7 (w.heap.size + 1) (w.heap.size + 1 + 1) #[.iface 22 (.slice RA9 rm rc)] #[.string (kindB 4), .string ⟨#[]⟩, .int .i64 0, .bool false, .slice Ac nc cc, .slice none 0 0, .slice none 0 0] (HM4.out.done (.iface 22 (.slice RA9 rm rc)) (.string (kindB 4)) (.string ⟨#[]⟩) (.int .i64 0) (.bool false) (.slice Ac nc cc) (.slice none 0 0) (.slice none 0 0)).1 rfl (HM4.out.done (.iface 22 (.slice RA9 rm rc)) (.string (kindB 4)) (.string ⟨#[]⟩) (.int .i64 0) (.bool false) (.slice Ac nc cc) (.slice none 0 0) (.slice none 0 0)).2.1 rfl rfl rfl rfl ⟨RA9, rm, rc, rfl, HS.out _ ((HM4.out.done (.iface 22 (.slice RA9 rm rc)) (.string (kindB 4)) (.string ⟨#[]⟩) (.int .i64 0) (.bool false) (.slice Ac nc cc) (.slice none 0 0) (.slice none 0 0)).2.2.mono (fun k _ hk => by have hk : k = w.heap.size + 1 ∨ k = w.heap.size + 1 + 1 := hk; show k < w3.drew.heap.size; have := HZ.out; omega)), HB4.out.trans ((HM4.out.done (.iface 22 (.slice RA9 rm rc)) (.string (kindB 4)) (.string ⟨#[]⟩) (.int .i64 0) (.bool false) (.slice Ac nc cc) (.slice none 0 0) (.slice none 0 0)).2.2.below (fun k hk => by have hk : k = w.heap.size + 1 ∨ k = w.heap.size + 1 + 1 := hk; omega) HB4.out.size)⟩
set_option maxRecDepth 100000 in
set_option maxHeartbeats 4000000 in
theorem made_atoms (s : ByteArray) (n : Int) (b : Bool) (Ac Aa Ap : Option Addr) (nc cc na ca np cp : Nat) (w : World) (AA : List RA) (h0 : AtsAt w (.slice Aa na ca) AA) (h1 : AA.length ≤ 1048576) :
    Calls Tryz.prog 7 #[.agg #[.int .i64 5, .string s, .int .i64 n, .bool b, .slice Ac nc cc, .slice Aa na ca, .slice Ap np cp]] w fun e w' => ∃ A m c, e = .returned (.tuple #[.agg #[.iface 23 (.slice A m c)], .agg #[.string (kindB 5), .string ⟨#[]⟩, .int .i64 0, .bool false, .slice none 0 0, .slice Aa na ca, .slice none 0 0]]) ∧ AtsAt w' (.slice A m c) AA ∧ Below w.heap.size w w' := by
  obtain ⟨w3, hw3⟩ : ∃ w3, w3 = (((w.alloc (.cells #[.int .i64 5, .string s, .int .i64 n, .bool b, .slice Ac nc cc, .slice Aa na ca, .slice Ap np cp] 26)).alloc (.cells #[.nilIface] 30)).alloc (.cells #[.string ⟨#[]⟩, .string ⟨#[]⟩, .int .i64 0, .bool false, .slice none 0 0, .slice none 0 0, .slice none 0 0] 32)) := ⟨_, rfl⟩
  have HM : Hid (Md w3 w.heap.size w.heap.size #[.int .i64 5, .string s, .int .i64 n, .bool b, .slice Ac nc cc, .slice Aa na ca, .slice Ap np cp]) := Lib.hid (by rw [hw3]; exact Md.new w _)
  have HB : Hid (Below w.heap.size w w3) := Lib.hid (by rw [hw3]; exact (((Below.refl _ w).alloc (Nat.le_refl _) _).alloc (by simp) _).alloc (by simp; omega) _)
  have HZ : Hid (w3.drew.heap.size = w.heap.size + 3) := Lib.hid (by rw [hw3]; simp)
  have HMD := Lib.hid (HM.out.later ((Below.refl _ _).drew))
  have HBD : Hid (Below w.heap.size w w3.drew) := Lib.hid HB.out.drew
  have HO := Lib.hid (OfAtoms_any _ _ w3.drew (h0.below HBD.out) h1)
  clear h0 h1
  go_enter Tryz.func7, Tryz.ntmps7
  go_upto_region 11 with fail
  rw [← hw3]
  clear hw3
  have k2 : w3.cell? ⟨w.heap.size, 5, none⟩ = some (.slice Aa na ca) := HM.out.a.cell 5
  go_region_with (go_at_call 27; refine (HO.out).mono ?_; rintro e w4 ⟨RA9, rm, rc, rfl, hst, hb4⟩; have HS := Lib.hid hst; have HM4 := Lib.hid (HMD.out.later hb4); have k4 : w4.cell? ⟨w.heap.size, 5, none⟩ = some (.slice Aa na ca) := HM4.out.a.cell 5; have m0 : w4.cell? ⟨w.heap.size + 1, 0, none⟩ = some .nilIface := HM4.out.b.cell 0; have m1 : w4.frozen? ⟨w.heap.size + 1, 0, none⟩ = false := HM4.out.b.frozen 0; have n0 : w4.cell? ⟨w.heap.size + 1 + 1, 0, none⟩ = some (.string ⟨#[]⟩) := HM4.out.c.cell 0; have z0 : w4.frozen? ⟨w.heap.size + 1 + 1, 0, none⟩ = false := HM4.out.c.frozen 0; have n1 : w4.cell? ⟨w.heap.size + 1 + 1, 1, none⟩ = some (.string ⟨#[]⟩) := HM4.out.c.cell 1; have z1 : w4.frozen? ⟨w.heap.size + 1 + 1, 1, none⟩ = false := HM4.out.c.frozen 1; have n2 : w4.cell? ⟨w.heap.size + 1 + 1, 2, none⟩ = some (.int .i64 0) := HM4.out.c.cell 2; have z2 : w4.frozen? ⟨w.heap.size + 1 + 1, 2, none⟩ = false := HM4.out.c.frozen 2; have n3 : w4.cell? ⟨w.heap.size + 1 + 1, 3, none⟩ = some (.bool false) := HM4.out.c.cell 3; have z3 : w4.frozen? ⟨w.heap.size + 1 + 1, 3, none⟩ = false := HM4.out.c.frozen 3; have n4 : w4.cell? ⟨w.heap.size + 1 + 1, 4, none⟩ = some (.slice none 0 0) := HM4.out.c.cell 4; have z4 : w4.frozen? ⟨w.heap.size + 1 + 1, 4, none⟩ = false := HM4.out.c.frozen 4; have n5 : w4.cell? ⟨w.heap.size + 1 + 1, 5, none⟩ = some (.slice none 0 0) := HM4.out.c.cell 5; have z5 : w4.frozen? ⟨w.heap.size + 1 + 1, 5, none⟩ = false := HM4.out.c.frozen 5; have n6 : w4.cell? ⟨w.heap.size + 1 + 1, 6, none⟩ = some (.slice none 0 0) := HM4.out.c.cell 6; have z6 : w4.frozen? ⟨w.heap.size + 1 + 1, 6, none⟩ = false := HM4.out.c.frozen 6; have HB4 := Lib.hid (HBD.out.trans (hb4.mono HBD.out.size)); clear hb4 hst)
  all_goals (go_wp2_with fail)
  all_goals exact ret_made Tryz.results7 (w.heap.size + 1) (w.heap.size + 1 + 1) #[.iface 23 (.slice RA9 rm rc)] #[.string (kindB 5), .string ⟨#[]⟩, .int .i64 0, .bool false, .slice none 0 0, .slice Aa na ca, .slice none 0 0] (HM4.out.done (.iface 23 (.slice RA9 rm rc)) (.string (kindB 5)) (.string ⟨#[]⟩) (.int .i64 0) (.bool false) (.slice none 0 0) (.slice Aa na ca) (.slice none 0 0)).1 rfl (HM4.out.done (.iface 23 (.slice RA9 rm rc)) (.string (kindB 5)) (.string ⟨#[]⟩) (.int .i64 0) (.bool false) (.slice none 0 0) (.slice Aa na ca) (.slice none 0 0)).2.1 rfl rfl rfl rfl ⟨RA9, rm, rc, rfl, HS.out _ ((HM4.out.done (.iface 23 (.slice RA9 rm rc)) (.string (kindB 5)) (.string ⟨#[]⟩) (.int .i64 0) (.bool false) (.slice none 0 0) (.slice Aa na ca) (.slice none 0 0)).2.2.mono (fun k _ hk => by have hk : k = w.heap.size + 1 ∨ k = w.heap.size + 1 + 1 := hk; show k < w3.drew.heap.size; have := HZ.out; omega)), HB4.out.trans ((HM4.out.done (.iface 23 (.slice RA9 rm rc)) (.string (kindB 5)) (.string ⟨#[]⟩) (.int .i64 0) (.bool false) (.slice none 0 0) (.slice Aa na ca) (.slice none 0 0)).2.2.below (fun k hk => by have hk : k = w.heap.size + 1 ∨ k = w.heap.size + 1 + 1 := hk; omega) HB4.out.size)⟩
set_option maxRecDepth 100000 in
set_option maxHeartbeats 4000000 in
theorem made_provides (s : ByteArray) (n : Int) (b : Bool) (Ac Aa Ap : Option Addr) (nc cc na ca np cp : Nat) (w : World) (P : List RP) (h0 : PrsAt w (.slice Ap np cp) P) (h1 : P.length ≤ 1048576) :
    Calls Tryz.prog 7 #[.agg #[.int .i64 6, .string s, .int .i64 n, .bool b, .slice Ac nc cc, .slice Aa na ca, .slice Ap np cp]] w fun e w' => ∃ A m c, e = .returned (.tuple #[.agg #[.iface 24 (.slice A m c)], .agg #[.string (kindB 6), .string ⟨#[]⟩, .int .i64 0, .bool false, .slice none 0 0, .slice none 0 0, .slice Ap np cp]]) ∧ PrsAt w' (.slice A m c) P ∧ Below w.heap.size w w' := by
  obtain ⟨w3, hw3⟩ : ∃ w3, w3 = (((w.alloc (.cells #[.int .i64 6, .string s, .int .i64 n, .bool b, .slice Ac nc cc, .slice Aa na ca, .slice Ap np cp] 26)).alloc (.cells #[.nilIface] 30)).alloc (.cells #[.string ⟨#[]⟩, .string ⟨#[]⟩, .int .i64 0, .bool false, .slice none 0 0, .slice none 0 0, .slice none 0 0] 32)) := ⟨_, rfl⟩
  have HM : Hid (Md w3 w.heap.size w.heap.size #[.int .i64 6, .string s, .int .i64 n, .bool b, .slice Ac nc cc, .slice Aa na ca, .slice Ap np cp]) := Lib.hid (by rw [hw3]; exact Md.new w _)
  have HB : Hid (Below w.heap.size w w3) := Lib.hid (by rw [hw3]; exact (((Below.refl _ w).alloc (Nat.le_refl _) _).alloc (by simp) _).alloc (by simp; omega) _)
  have HZ : Hid (w3.drew.heap.size = w.heap.size + 3) := Lib.hid (by rw [hw3]; simp)
  have HMD := Lib.hid (HM.out.later ((Below.refl _ _).drew))
  have HBD : Hid (Below w.heap.size w w3.drew) := Lib.hid HB.out.drew
  have HO := Lib.hid (OfProvides_any _ _ w3.drew (h0.below HBD.out) h1)
  clear h0 h1
  go_enter Tryz.func7, Tryz.ntmps7
  go_upto_region 13 with fail
  rw [← hw3]
  clear hw3
  have k2 : w3.cell? ⟨w.heap.size, 6, none⟩ = some (.slice Ap np cp) := HM.out.a.cell 6
  go_region_with (go_at_call 28; refine (HO.out).mono ?_; rintro e w4 ⟨RA9, rm, rc, rfl, hst, hb4⟩; have HS := Lib.hid hst; have HM4 := Lib.hid (HMD.out.later hb4); have k4 : w4.cell? ⟨w.heap.size, 6, none⟩ = some (.slice Ap np cp) := HM4.out.a.cell 6; have m0 : w4.cell? ⟨w.heap.size + 1, 0, none⟩ = some .nilIface := HM4.out.b.cell 0; have m1 : w4.frozen? ⟨w.heap.size + 1, 0, none⟩ = false := HM4.out.b.frozen 0; have n0 : w4.cell? ⟨w.heap.size + 1 + 1, 0, none⟩ = some (.string ⟨#[]⟩) := HM4.out.c.cell 0; have z0 : w4.frozen? ⟨w.heap.size + 1 + 1, 0, none⟩ = false := HM4.out.c.frozen 0; have n1 : w4.cell? ⟨w.heap.size + 1 + 1, 1, none⟩ = some (.string ⟨#[]⟩) := HM4.out.c.cell 1; have z1 : w4.frozen? ⟨w.heap.size + 1 + 1, 1, none⟩ = false := HM4.out.c.frozen 1; have n2 : w4.cell? ⟨w.heap.size + 1 + 1, 2, none⟩ = some (.int .i64 0) := HM4.out.c.cell 2; have z2 : w4.frozen? ⟨w.heap.size + 1 + 1, 2, none⟩ = false := HM4.out.c.frozen 2; have n3 : w4.cell? ⟨w.heap.size + 1 + 1, 3, none⟩ = some (.bool false) := HM4.out.c.cell 3; have z3 : w4.frozen? ⟨w.heap.size + 1 + 1, 3, none⟩ = false := HM4.out.c.frozen 3; have n4 : w4.cell? ⟨w.heap.size + 1 + 1, 4, none⟩ = some (.slice none 0 0) := HM4.out.c.cell 4; have z4 : w4.frozen? ⟨w.heap.size + 1 + 1, 4, none⟩ = false := HM4.out.c.frozen 4; have n5 : w4.cell? ⟨w.heap.size + 1 + 1, 5, none⟩ = some (.slice none 0 0) := HM4.out.c.cell 5; have z5 : w4.frozen? ⟨w.heap.size + 1 + 1, 5, none⟩ = false := HM4.out.c.frozen 5; have n6 : w4.cell? ⟨w.heap.size + 1 + 1, 6, none⟩ = some (.slice none 0 0) := HM4.out.c.cell 6; have z6 : w4.frozen? ⟨w.heap.size + 1 + 1, 6, none⟩ = false := HM4.out.c.frozen 6; have HB4 := Lib.hid (HBD.out.trans (hb4.mono HBD.out.size)); clear hb4 hst)
  all_goals (go_wp2_with fail)
  all_goals exact ret_made Tryz.results7 (w.heap.size + 1) (w.heap.size + 1 + 1) #[.iface 24 (.slice RA9 rm rc)] #[.string (kindB 6), .string ⟨#[]⟩, .int .i64 0, .bool false, .slice none 0 0, .slice none 0 0, .slice Ap np cp] (HM4.out.done (.iface 24 (.slice RA9 rm rc)) (.string (kindB 6)) (.string ⟨#[]⟩) (.int .i64 0) (.bool false) (.slice none 0 0) (.slice none 0 0) (.slice Ap np cp)).1 rfl (HM4.out.done (.iface 24 (.slice RA9 rm rc)) (.string (kindB 6)) (.string ⟨#[]⟩) (.int .i64 0) (.bool false) (.slice none 0 0) (.slice none 0 0) (.slice Ap np cp)).2.1 rfl rfl rfl rfl ⟨RA9, rm, rc, rfl, HS.out _ ((HM4.out.done (.iface 24 (.slice RA9 rm rc)) (.string (kindB 6)) (.string ⟨#[]⟩) (.int .i64 0) (.bool false) (.slice none 0 0) (.slice none 0 0) (.slice Ap np cp)).2.2.mono (fun k _ hk => by have hk : k = w.heap.size + 1 ∨ k = w.heap.size + 1 + 1 := hk; show k < w3.drew.heap.size; have := HZ.out; omega)), HB4.out.trans ((HM4.out.done (.iface 24 (.slice RA9 rm rc)) (.string (kindB 6)) (.string ⟨#[]⟩) (.int .i64 0) (.bool false) (.slice none 0 0) (.slice none 0 0) (.slice Ap np cp)).2.2.below (fun k hk => by have hk : k = w.heap.size + 1 ∨ k = w.heap.size + 1 + 1 := hk; omega) HB4.out.size)⟩
end Go.Proofs.YtjkaigfpjebfbaaGreatDoor
/- Any.made at no kind; at any. -/
namespace Go.Proofs.YtjkaigfpjebfbaaGreatDoor
open Go.RowKit
set_option linter.unusedVariables false

set_option maxRecDepth 100000 in
set_option maxHeartbeats 4000000 in
theorem made_none (k : Int) (s : ByteArray) (n : Int) (b : Bool) (Ac Aa Ap : Option Addr) (nc cc na ca np cp : Nat) (w : World) (q1 : ¬ k = 1) (q2 : ¬ k = 2) (q3 : ¬ k = 3) (q4 : ¬ k = 4) (q5 : ¬ k = 5) (q6 : ¬ k = 6) :
    Calls Tryz.prog 7 #[.agg #[.int .i64 k, .string s, .int .i64 n, .bool b, .slice Ac nc cc, .slice Aa na ca, .slice Ap np cp]] w fun e w' => e = .returned (.tuple #[.agg #[.nilIface], .agg #[.string (kindB 0), .string ⟨#[]⟩, .int .i64 0, .bool false, .slice none 0 0, .slice none 0 0, .slice none 0 0]]) ∧ Below w.heap.size w w' := by
  obtain ⟨w3, hw3⟩ : ∃ w3, w3 = (((w.alloc (.cells #[.int .i64 k, .string s, .int .i64 n, .bool b, .slice Ac nc cc, .slice Aa na ca, .slice Ap np cp] 26)).alloc (.cells #[.nilIface] 30)).alloc (.cells #[.string ⟨#[]⟩, .string ⟨#[]⟩, .int .i64 0, .bool false, .slice none 0 0, .slice none 0 0, .slice none 0 0] 32)) := ⟨_, rfl⟩
  have HM : Hid (Md w3 w.heap.size w.heap.size #[.int .i64 k, .string s, .int .i64 n, .bool b, .slice Ac nc cc, .slice Aa na ca, .slice Ap np cp]) := Lib.hid (by rw [hw3]; exact Md.new w _)
  have HB : Hid (Below w.heap.size w w3) := Lib.hid (by rw [hw3]; exact (((Below.refl _ w).alloc (Nat.le_refl _) _).alloc (by simp) _).alloc (by simp; omega) _)
  have HMD := Lib.hid (HM.out.later ((Below.refl _ _).drew))
  have HBD : Hid (Below w.heap.size w w3.drew) := Lib.hid HB.out.drew
  go_enter Tryz.func7, Tryz.ntmps7
  go_upto_region 14 with fail
  rw [← hw3]
  clear hw3
  have m0 : w3.cell? ⟨w.heap.size + 1, 0, none⟩ = some .nilIface := HM.out.b.cell 0
  have m1 : w3.frozen? ⟨w.heap.size + 1, 0, none⟩ = false := HM.out.b.frozen 0
  have n0 : w3.cell? ⟨w.heap.size + 1 + 1, 0, none⟩ = some (.string ⟨#[]⟩) := HM.out.c.cell 0
  have z0 : w3.frozen? ⟨w.heap.size + 1 + 1, 0, none⟩ = false := HM.out.c.frozen 0
  have n1 : w3.cell? ⟨w.heap.size + 1 + 1, 1, none⟩ = some (.string ⟨#[]⟩) := HM.out.c.cell 1
  have z1 : w3.frozen? ⟨w.heap.size + 1 + 1, 1, none⟩ = false := HM.out.c.frozen 1
  have n2 : w3.cell? ⟨w.heap.size + 1 + 1, 2, none⟩ = some (.int .i64 0) := HM.out.c.cell 2
  have z2 : w3.frozen? ⟨w.heap.size + 1 + 1, 2, none⟩ = false := HM.out.c.frozen 2
  have n3 : w3.cell? ⟨w.heap.size + 1 + 1, 3, none⟩ = some (.bool false) := HM.out.c.cell 3
  have z3 : w3.frozen? ⟨w.heap.size + 1 + 1, 3, none⟩ = false := HM.out.c.frozen 3
  have n4 : w3.cell? ⟨w.heap.size + 1 + 1, 4, none⟩ = some (.slice none 0 0) := HM.out.c.cell 4
  have z4 : w3.frozen? ⟨w.heap.size + 1 + 1, 4, none⟩ = false := HM.out.c.frozen 4
  have n5 : w3.cell? ⟨w.heap.size + 1 + 1, 5, none⟩ = some (.slice none 0 0) := HM.out.c.cell 5
  have z5 : w3.frozen? ⟨w.heap.size + 1 + 1, 5, none⟩ = false := HM.out.c.frozen 5
  have n6 : w3.cell? ⟨w.heap.size + 1 + 1, 6, none⟩ = some (.slice none 0 0) := HM.out.c.cell 6
  have z6 : w3.frozen? ⟨w.heap.size + 1 + 1, 6, none⟩ = false := HM.out.c.frozen 6
  go_wp2_with fail
  all_goals first | exact ret_made Tryz.results7 (w.heap.size + 1) (w.heap.size + 1 + 1) #[.nilIface] #[.string (kindB 0), .string ⟨#[]⟩, .int .i64 0, .bool false, .slice none 0 0, .slice none 0 0, .slice none 0 0] (HM.out.done (.nilIface) (.string (kindB 0)) (.string ⟨#[]⟩) (.int .i64 0) (.bool false) (.slice none 0 0) (.slice none 0 0) (.slice none 0 0)).1 rfl (HM.out.done (.nilIface) (.string (kindB 0)) (.string ⟨#[]⟩) (.int .i64 0) (.bool false) (.slice none 0 0) (.slice none 0 0) (.slice none 0 0)).2.1 rfl rfl rfl rfl ⟨rfl, HB.out.trans ((HM.out.done (.nilIface) (.string (kindB 0)) (.string ⟨#[]⟩) (.int .i64 0) (.bool false) (.slice none 0 0) (.slice none 0 0) (.slice none 0 0)).2.2.below (fun k hk => by have hk : k = w.heap.size + 1 ∨ k = w.heap.size + 1 + 1 := hk; omega) HB.out.size)⟩ | exact ret_made Tryz.results7 (w.heap.size + 1) (w.heap.size + 1 + 1) #[.nilIface] #[.string (kindB 0), .string ⟨#[]⟩, .int .i64 0, .bool false, .slice none 0 0, .slice none 0 0, .slice none 0 0] (HMD.out.done (.nilIface) (.string (kindB 0)) (.string ⟨#[]⟩) (.int .i64 0) (.bool false) (.slice none 0 0) (.slice none 0 0) (.slice none 0 0)).1 rfl (HMD.out.done (.nilIface) (.string (kindB 0)) (.string ⟨#[]⟩) (.int .i64 0) (.bool false) (.slice none 0 0) (.slice none 0 0) (.slice none 0 0)).2.1 rfl rfl rfl rfl ⟨rfl, HBD.out.trans ((HMD.out.done (.nilIface) (.string (kindB 0)) (.string ⟨#[]⟩) (.int .i64 0) (.bool false) (.slice none 0 0) (.slice none 0 0) (.slice none 0 0)).2.2.below (fun k hk => by have hk : k = w.heap.size + 1 ∨ k = w.heap.size + 1 + 1 := hk; omega) HBD.out.size)⟩
/-- A value and as the reference has it. -/
structure MadeAt (w : World) (q : Nat) (x : Value) (s : ByteArray) (n : Int) (b : Bool) (vc va vp : Value) (C : List (List RA)) (A : List RA) (P : List RP) : Prop where
  v : VAt w q x C A P
  t : asText x = (.string s, decide (q = 1))
  c : asCount x = (.int .i64 n, decide (q = 2))
  y : asYes x = (.bool b, decide (q = 3))
  cls : ClsAt w vc C
  ats : AtsAt w va A
  prs : PrsAt w vp P
  hc : C.length ≤ 1048576
  hi : ∀ l ∈ C, l.length ≤ 1048576
  ha : A.length ≤ 1048576
  hp : P.length ≤ 1048576
theorem made_any (k : Int) (s : ByteArray) (n : Int) (b : Bool) (vc va vp : Value) (C : List (List RA)) (A : List RA) (P : List RP) (w : World) (hc : ClsAt w vc C) (ha : AtsAt w va A) (hp : PrsAt w vp P) (h1 : C.length ≤ 1048576) (h2 : ∀ l ∈ C, l.length ≤ 1048576) (h3 : A.length ≤ 1048576) (h4 : P.length ≤ 1048576) :
    Calls Tryz.prog 7 #[.agg #[.int .i64 k, .string s, .int .i64 n, .bool b, vc, va, vp]] w fun e w' => ∃ (q : Nat) (x : Value) (s' : ByteArray) (n' : Int) (b' : Bool) (vc' va' vp' : Value) (C' : List (List RA)) (A' : List RA) (P' : List RP), e = .returned (.tuple #[.agg #[x], .agg #[.string (kindB q), .string s', .int .i64 n', .bool b', vc', va', vp']]) ∧ MadeAt w' q x s' n' b' vc' va' vp' C' A' P' ∧ (s' = s ∨ s' = ⟨#[]⟩) ∧ (n' = n ∨ n' = 0) ∧ (C' = C ∨ C' = []) ∧ (A' = A ∨ A' = []) ∧ (P' = P ∨ P' = []) ∧ Below w.heap.size w w' := by
  have hc0 := hc
  have ha0 := ha
  have hp0 := hp
  obtain ⟨Ac, cc, rfl, _⟩ := hc
  obtain ⟨Aa, ca, rfl, _⟩ := ha
  obtain ⟨Ap, cp, rfl, _⟩ := hp
  have e0 : ([] : List (List RA)).length ≤ 1048576 := by decide
  have e1 : ([] : List RA).length ≤ 1048576 := by decide
  have e2 : ([] : List RP).length ≤ 1048576 := by decide
  have e3 : ∀ l ∈ ([] : List (List RA)), l.length ≤ 1048576 := fun l hl => by cases hl
  by_cases q1 : k = 1
  · subst q1
    exact (made_text s n b Ac Aa Ap _ cc _ ca _ cp w).mono fun e w' ⟨he, hb⟩ => ⟨1, vText s, s, 0, false, .slice none 0 0, .slice none 0 0, .slice none 0 0, [], [], [], he, ⟨.text s, rfl, rfl, rfl, ClsAt.nil _, AtsAt.nil _, PrsAt.nil _, e0, e3, e1, e2⟩, .inl rfl, .inr rfl, .inr rfl, .inr rfl, .inr rfl, hb⟩
  by_cases q2 : k = 2
  · subst q2
    exact (made_count s n b Ac Aa Ap _ cc _ ca _ cp w).mono fun e w' ⟨he, hb⟩ => ⟨2, vCount n, ⟨#[]⟩, n, false, .slice none 0 0, .slice none 0 0, .slice none 0 0, [], [], [], he, ⟨.count n, rfl, rfl, rfl, ClsAt.nil _, AtsAt.nil _, PrsAt.nil _, e0, e3, e1, e2⟩, .inr rfl, .inl rfl, .inr rfl, .inr rfl, .inr rfl, hb⟩
  by_cases q3 : k = 3
  · subst q3
    exact (made_yes s n b Ac Aa Ap _ cc _ ca _ cp w).mono fun e w' ⟨he, hb⟩ => ⟨3, vYes b, ⟨#[]⟩, 0, b, .slice none 0 0, .slice none 0 0, .slice none 0 0, [], [], [], he, ⟨.yes b, rfl, rfl, rfl, ClsAt.nil _, AtsAt.nil _, PrsAt.nil _, e0, e3, e1, e2⟩, .inr rfl, .inr rfl, .inr rfl, .inr rfl, .inr rfl, hb⟩
  by_cases q4 : k = 4
  · subst q4
    exact (made_clauses s n b Ac Aa Ap _ cc _ ca _ cp w C hc0 h1 h2).mono fun e w' ⟨RC, m, c, he, hv, hb⟩ => by
      obtain ⟨_, _, e9, _⟩ := id hv
      exact ⟨4, vClauses (.slice RC m c), ⟨#[]⟩, 0, false, .slice Ac _ cc, .slice none 0 0, .slice none 0 0, C, [], [], he, ⟨.clauses RC m c C hv h1 h2, rfl, rfl, rfl, hc0.below hb, AtsAt.nil _, PrsAt.nil _, h1, h2, e1, e2⟩, .inr rfl, .inr rfl, .inl rfl, .inr rfl, .inr rfl, hb⟩
  by_cases q5 : k = 5
  · subst q5
    exact (made_atoms s n b Ac Aa Ap _ cc _ ca _ cp w A ha0 h3).mono fun e w' ⟨RC, m, c, he, hv, hb⟩ => 
      ⟨5, vAtoms (.slice RC m c), ⟨#[]⟩, 0, false, .slice none 0 0, .slice Aa _ ca, .slice none 0 0, [], A, [], he, ⟨.atoms RC m c A hv h3, rfl, rfl, rfl, ClsAt.nil _, ha0.below hb, PrsAt.nil _, e0, e3, h3, e2⟩, .inr rfl, .inr rfl, .inr rfl, .inl rfl, .inr rfl, hb⟩
  by_cases q6 : k = 6
  · subst q6
    exact (made_provides s n b Ac Aa Ap _ cc _ ca _ cp w P hp0 h4).mono fun e w' ⟨RC, m, c, he, hv, hb⟩ => 
      ⟨6, vProvides (.slice RC m c), ⟨#[]⟩, 0, false, .slice none 0 0, .slice none 0 0, .slice Ap _ cp, [], [], P, he, ⟨.provides RC m c P hv h4, rfl, rfl, rfl, ClsAt.nil _, AtsAt.nil _, hp0.below hb, e0, e3, e1, h4⟩, .inr rfl, .inr rfl, .inr rfl, .inr rfl, .inl rfl, hb⟩
  exact (made_none k s n b Ac Aa Ap _ cc _ ca _ cp w q1 q2 q3 q4 q5 q6).mono fun e w' ⟨he, hb⟩ => ⟨0, .nilIface, ⟨#[]⟩, 0, false, .slice none 0 0, .slice none 0 0, .slice none 0 0, [], [], [], he, ⟨.none, rfl, rfl, rfl, ClsAt.nil _, AtsAt.nil _, PrsAt.nil _, e0, e3, e1, e2⟩, .inr rfl, .inr rfl, .inr rfl, .inr rfl, .inr rfl, hb⟩
def lightV (C : List (List RA)) (A : List RA) (P : List RP) : Bool := decide (C.length ≤ 30) && decide (A.length ≤ 30) && decide (P.length ≤ 30) && C.all (fun c => decide (c.length ≤ 30))
theorem lightV_yes {C : List (List RA)} {A : List RA} {P : List RP} (h : lightV C A P = true) : C.length ≤ 30 ∧ (∀ c ∈ C, c.length ≤ 30) ∧ A.length ≤ 30 ∧ P.length ≤ 30 := by
  unfold lightV at h
  simp only [Bool.and_eq_true, decide_eq_true_eq, List.all_eq_true] at h
  exact ⟨h.1.1.1, h.2, h.1.1.2, h.1.2⟩
/-- The argument of a statement. -/
def anyV (k : Int) (s : ByteArray) (n : Int) (b : Bool) (vc va vp : Value) : Value := .agg #[.int .i64 k, .string s, .int .i64 n, .bool b, vc, va, vp]
set_option maxRecDepth 100000 in
set_option maxHeartbeats 2000000 in
theorem light_any (k : Int) (s : ByteArray) (n : Int) (b : Bool) (vc va vp : Value) (L : List (List RA)) (A : List RA) (P : List RP) (w : World) (h : ClsAt w vc L) (ha : AtsAt w va A) (hp : PrsAt w vp P) (hn : L.length ≤ 9223372036854775807) (hna : A.length ≤ 9223372036854775807) (hnp : P.length ≤ 9223372036854775807) :
    Calls Tryz.prog 5 #[.agg #[.int .i64 k, .string s, .int .i64 n, .bool b, vc, va, vp]] w fun e w' => e = .returned (.bool (lightV L A P)) ∧ Below w.heap.size w w' := by
  obtain ⟨Ac, c, rfl, c1, hA⟩ := h
  obtain ⟨Aa, ca, rfl, c2, _⟩ := ha
  obtain ⟨Ap, cp, rfl, c3, _⟩ := hp
  obtain ⟨bb, hbb⟩ : ∃ bb, bb = lightV L A P := ⟨_, rfl⟩
  rw [← hbb]
  have HF1 : Hid (30 < L.length ∨ 30 < A.length ∨ 30 < P.length → bb = false) := Lib.hid (fun h => by
    rw [hbb]; unfold lightV
    rcases h with h | h | h
    · rw [decide_eq_false (p := L.length ≤ 30) (by omega)]; rfl
    · rw [decide_eq_false (p := A.length ≤ 30) (by omega)]; simp
    · rw [decide_eq_false (p := P.length ≤ 30) (by omega)]; simp)
  have HF2 : Hid (∀ j (h : j < L.length), 30 < L[j].length → bb = false) := Lib.hid (fun j h h9 => by
    rw [hbb]
    unfold lightV
    rw [Bool.and_eq_false_iff]
    right
    rw [List.all_eq_false]
    exact ⟨L[j], List.getElem_mem h, by simp; omega⟩)
  have HTT : Hid (L.length ≤ 30 → A.length ≤ 30 → P.length ≤ 30 → (∀ x ∈ L, x.length ≤ 30) → bb = true) := Lib.hid (fun h1 h2 h3 h4 => by
    rw [hbb]
    unfold lightV
    rw [decide_eq_true h1, decide_eq_true h2, decide_eq_true h3, Bool.true_and, Bool.true_and, Bool.true_and, List.all_eq_true]
    exact fun x hx => decide_eq_true (h4 x hx))
  obtain ⟨m, hn0⟩ : ∃ m, m = L.length := ⟨_, rfl⟩
  obtain ⟨ma, hma⟩ : ∃ m, m = A.length := ⟨_, rfl⟩
  obtain ⟨mp, hmp⟩ : ∃ m, m = P.length := ⟨_, rfl⟩
  rw [← hn0] at hn HF1 HTT ⊢
  rw [← hma] at hna HF1 HTT ⊢
  rw [← hmp] at hnp HF1 HTT ⊢
  have HN := Lib.hid hn0
  have HA := Lib.hid hA
  obtain ⟨w3, hw3⟩ : ∃ w3, w3 = w.alloc (.cells #[.int .i64 k, .string s, .int .i64 n, .bool b, .slice Ac m c, .slice Aa ma ca, .slice Ap mp cp] 26) := ⟨_, rfl⟩
  have HB : Hid (Below w.heap.size w w3) := Lib.hid (by rw [hw3]; exact (Below.refl _ w).alloc (Nat.le_refl _) _)
  have HK : Hid (Blk w3 w.heap.size 26 #[.int .i64 k, .string s, .int .i64 n, .bool b, .slice Ac m c, .slice Aa ma ca, .slice Ap mp cp]) := Lib.hid (by rw [hw3]; exact Blk.new w _ _)
  clear hbb hn0 hma hmp hA c1 c2 c3
  by_cases hbig : 30 < m ∨ 30 < ma ∨ 30 < mp
  · have HR := Lib.hid (HF1.out hbig)
    by_cases z1 : 30 < m
    · have q1 : decide ((30 : Int) < (m : Int)) = true := decide_eq_true (by omega)
      go_enter Tryz.func5, Tryz.ntmps5
      go_upto_region 1 with fail
      rw [← hw3]
      clear hw3
      have k4 : w3.cell? ⟨w.heap.size, 4, none⟩ = some (.slice Ac m c) := HK.out.cell 4
      go_wp2_with fail
      go_ret
      exact ⟨by rw [HR.out]; rfl, HB.out⟩
    have q1 : decide ((30 : Int) < (m : Int)) = false := decide_eq_false (by omega)
    by_cases z2 : 30 < ma
    · have q2 : decide ((30 : Int) < (ma : Int)) = true := decide_eq_true (by omega)
      go_enter Tryz.func5, Tryz.ntmps5
      go_upto_region 1 with fail
      rw [← hw3]
      clear hw3
      have k4 : w3.cell? ⟨w.heap.size, 4, none⟩ = some (.slice Ac m c) := HK.out.cell 4
      have k5 : w3.cell? ⟨w.heap.size, 5, none⟩ = some (.slice Aa ma ca) := HK.out.cell 5
      go_wp2_with fail
      go_ret
      exact ⟨by rw [HR.out]; rfl, HB.out⟩
    have q2 : decide ((30 : Int) < (ma : Int)) = false := decide_eq_false (by omega)
    have q3 : decide ((30 : Int) < (mp : Int)) = true := decide_eq_true (by omega)
    go_enter Tryz.func5, Tryz.ntmps5
    go_upto_region 1 with fail
    rw [← hw3]
    clear hw3
    have k4 : w3.cell? ⟨w.heap.size, 4, none⟩ = some (.slice Ac m c) := HK.out.cell 4
    have k5 : w3.cell? ⟨w.heap.size, 5, none⟩ = some (.slice Aa ma ca) := HK.out.cell 5
    have k6 : w3.cell? ⟨w.heap.size, 6, none⟩ = some (.slice Ap mp cp) := HK.out.cell 6
    go_wp2_with fail
    go_ret
    exact ⟨by rw [HR.out]; rfl, HB.out⟩
  have q1 : decide ((30 : Int) < (m : Int)) = false := decide_eq_false (by omega)
  have q2 : decide ((30 : Int) < (ma : Int)) = false := decide_eq_false (by omega)
  have q3 : decide ((30 : Int) < (mp : Int)) = false := decide_eq_false (by omega)
  have HM30 : Hid (m ≤ 30 ∧ ma ≤ 30 ∧ mp ≤ 30) := Lib.hid (by omega)
  go_enter Tryz.func5, Tryz.ntmps5
  go_upto_region 1 with fail
  rw [← hw3]
  clear hw3 hbig hn hna hnp
  have hn : m ≤ 30 := HM30.out.1
  have hna : ma ≤ 30 := HM30.out.2.1
  have hnp : mp ≤ 30 := HM30.out.2.2
  have k4 : w3.cell? ⟨w.heap.size, 4, none⟩ = some (.slice Ac m c) := HK.out.cell 4
  have k5 : w3.cell? ⟨w.heap.size, 5, none⟩ = some (.slice Aa ma ca) := HK.out.cell 5
  have k6 : w3.cell? ⟨w.heap.size, 6, none⟩ = some (.slice Ap mp cp) := HK.out.cell 6
  go_wp2_with fail
  go_loopw [24] (fun t wr => ∃ i : Nat, t = .int .i64 (i : Int) ∧ i ≤ m ∧ Hid (∀ j (h : j < L.length), j < i → L[j].length ≤ 30) ∧ Hid (Blk wr w.heap.size 26 #[.int .i64 k, .string s, .int .i64 n, .bool b, .slice Ac m c, .slice Aa ma ca, .slice Ap mp cp] ∧ Below w.heap.size w wr)) (fun t _ => m - (match t with | .int _ x => x.toNat | _ => 0))
  case atStart => exact ⟨0, rfl, Nat.zero_le _, Lib.hid (fun j _ hj => by omega), Lib.hid ⟨HK.out, HB.out⟩⟩
  case round =>
    obtain ⟨i, rfl, hi, HI, HW⟩ := hrel
    by_cases hlt : i < m
    case neg =>
      have HT := Lib.hid (HTT.out HM30.out.1 HM30.out.2.1 HM30.out.2.2 (fun x hx => by obtain ⟨j, hj, rfl⟩ := List.mem_iff_getElem.1 hx; exact HI.out j hj (by have := HN.out; omega)))
      have hnn : ¬ (i : Int) < (m : Int) := by omega
      go_wp2_with fail
      go_ret
      exact ⟨by rw [HT.out]; rfl, HW.out.2⟩
    obtain ⟨g, o, V, e1, k0, B, d, hV, hd, _⟩ := HA.out i (by have := HN.out; omega)
    subst e1 hV
    have hil : i < L.length := by have := HN.out; omega
    have k0 := (HW.out.2.cell (World.block_lt_of_cell? w _ k0)).trans k0
    have hf2 := HF2.out i hil
    obtain ⟨x, hx⟩ : ∃ x, x = L[i]'hil := ⟨_, rfl⟩
    rw [← hx] at k0 hf2 hd
    have hi1 : x.length ≤ 30 → ∀ j (h : j < L.length), j < i + 1 → L[j].length ≤ 30 := fun h9 j h hj => by
      by_cases e : j = i
      · subst e; rw [← hx]; exact h9
      · exact HI.out j h (by omega)
    have HI1 := Lib.hid hi1
    have HF := Lib.hid hf2
    obtain ⟨u, hk⟩ : ∃ u, u = x.length := ⟨_, rfl⟩
    rw [← hk] at k0 HI1 HF hd
    have hln : (i : Int) < (m : Int) := by omega
    obtain ⟨w6, hw6⟩ : ∃ w6, w6 = wr.alloc (.cells #[.slice B u d] 55) := ⟨_, rfl⟩
    clear hx hi1 hf2 hk hil
    by_cases h8 : u ≤ 30
    case neg =>
      have q2 : decide ((30 : Int) < (u : Int)) = true := decide_eq_true (by omega)
      have HR := Lib.hid (HF.out (by omega))
      clear h8
      go_wp2_with fail
      go_ret
      exact ⟨by rw [HR.out]; rfl, HW.out.2⟩
    have q2 : decide ((30 : Int) < (u : Int)) = false := decide_eq_false (by omega)
    have HI2 := Lib.hid (HI1.out h8)
    go_wp2_with fail
    refine ⟨⟨i + 1, by go_num, by omega, HI2, HW⟩, ?_⟩
    show m - ((i : Int) + 1).toNat < m - (i : Int).toNat
    omega
end Go.Proofs.YtjkaigfpjebfbaaGreatDoor
/- Arguments that are rows of atoms, of provides, of clauses, and an atom, opened. -/
namespace Go.Proofs.YtjkaigfpjebfbaaGreatDoor
open Go.ChangeShapes Go.WideShapes Go.ChangeAt Go.Deep Go.RowKit Go.Joins
set_option linter.unusedVariables false

section
variable {H : Type} {enc : TypeId × Value → H} {P : Program} {w : World} {base : Nat} {spare : Nat → Bool} {held : Bool}
theorem open_fields {t e : TypeId} {fs : Array Field} {fuel : Nat} {cs : List Value} {x : DataW H × List MemPlace} (ht : P.underlying t = some (.slice e)) (he : P.underlying e = some (.struct fs))
    (hone : oneCellFields P fs = true) (hC : P.cellsOf e = fs.size) (h : DataW.trod enc P w base spare held fuel t cs = some x) :
    (cs = [.slice none 0 0] ∧ x = (.nil, [])) ∨
    ∃ (a : Addr) (len cap m : Nat) (D : Nat → DataW H) (Pl : Nat → List MemPlace), cs = [.slice (some a) len cap] ∧ base ≤ a.block ∧ len ≤ cap ∧ cap ≤ maxLen ∧ m = (if spare a.block then cap else len) ∧
      x = (.slice ((List.range len).map D) ((List.range (m - len)).map fun j => D (len + j)), MemPlace.row a (m * fs.size) ++ (List.range m).flatMap Pl) ∧
      ∀ i, i < m → ∃ (ys : List (DataW H × List MemPlace)) (n : Nat), D i = .agg (ys.map (·.1)) ∧ Pl i = ys.flatMap (·.2) ∧ ys.length = fs.size ∧
        ∀ (j : Nat) (f : Field), fs[j]? = some f → ∃ (v : Value) (y : DataW H × List MemPlace), w.cell? (a.add (i * fs.size + j)) = some v ∧ ys[j]? = some y ∧ DataW.trod enc P w base spare held n f.type [v] = some y := by
  rcases open_slice ht h with h0 | ⟨a, len, cap, m, n, D, Pl, hcs, hb, hl, hm, hmm, hx, hi⟩
  · exact .inl h0
  · refine .inr ⟨a, len, cap, m, D, Pl, hcs, hb, hl, hm, hmm, by rw [hC] at hx; exact hx, fun i him => ?_⟩
    obtain ⟨cs', hc, ht'⟩ := hi i him
    rw [hC] at hc
    obtain ⟨ys, n', hn', hy, hlen, hyl, hf⟩ := DataW.trod_struct he ht'
    obtain ⟨_, hcl, hat⟩ := World.cells?_some hc
    simp only [Prod.mk.injEq] at hy
    refine ⟨ys, n', hy.1, hy.2, hyl, fun j f hj => ?_⟩
    obtain ⟨ho, hk⟩ := hone_of hone j f hj
    have hjl : j < fs.size := (Array.getElem?_eq_some_iff.1 hj).1
    have hcell := hat j hjl
    have hv : cs'[j]? = some (cs'[j]'(by omega)) := List.getElem?_eq_getElem (by omega)
    have h1 := hf j f hj
    rw [ho, hk] at h1
    have hone' : (cs'.drop j).take 1 = [cs'[j]'(by omega)] := by
      rw [List.drop_eq_getElem_cons (by omega)]
      rfl
    rw [hone'] at h1
    have hys : ys[j]? = some (ys[j]'(by omega)) := List.getElem?_eq_getElem (by omega)
    refine ⟨_, _, ?_, hys, h1.trans hys⟩
    rw [← Go.Deep.add_add, hcell, hv]
theorem list_of {α : Type} [Inhabited α] (n : Nat) (Q : Nat → α → Prop) (h : ∀ i, i < n → ∃ b, Q i b) : ∃ L : List α, L.length = n ∧ ∀ i (hi : i < L.length), Q i L[i] := by
  induction n with
  | zero => exact ⟨[], rfl, fun i hi => absurd hi (by simp)⟩
  | succ n ih =>
    obtain ⟨L, h1, h2⟩ := ih fun i hi => h i (by omega)
    obtain ⟨b, hb⟩ := h n (by omega)
    refine ⟨L ++ [b], by rw [List.length_append, h1]; rfl, fun i hi => ?_⟩
    rw [List.length_append, h1] at hi
    by_cases e : i < L.length
    · rw [List.getElem_append_left e]; exact h2 i e
    · have e2 : i = n := by simp at hi; omega
      subst e2
      rw [List.getElem_append_right (by omega)]
      simp [h1]
      exact hb
end
instance : Inhabited RA := ⟨⟨⟨#[]⟩, 0, ⟨#[]⟩⟩⟩
instance : Inhabited RP := ⟨⟨⟨#[]⟩, ⟨#[]⟩⟩⟩
section
variable {H : Type} {enc : TypeId × Value → H} {W : World} {base : Nat}
theorem bulkR_one (d : DataW H) : 1 ≤ Rows.uptoBulk d := by
  cases d with
  | lit l => cases l <;> simp [Rows.uptoBulk]
  | _ => simp [Rows.uptoBulk]
theorem bulkR_length (l : List (DataW H)) : l.length ≤ Rows.uptoBulkAll l := by
  induction l with
  | nil => simp [Rows.uptoBulkAll]
  | cons x r ih => have := bulkR_one x; simp only [Rows.uptoBulkAll, List.length_cons]; omega
theorem bulkR_mem {d : DataW H} {l : List (DataW H)} (h : d ∈ l) : Rows.uptoBulk d ≤ Rows.uptoBulkAll l := by
  induction l with
  | nil => cases h
  | cons x r ih =>
    simp only [Rows.uptoBulkAll]
    cases h with
    | head => omega
    | tail _ h => have := ih h; omega
theorem bulk_slice {l r : List (DataW H)} {d : DataW H} (h : d ∈ l) : Rows.uptoBulk d ≤ Rows.uptoBulk (.slice l r) ∧ l.length ≤ Rows.uptoBulk (.slice l r) := by
  have h1 := bulkR_mem h
  have h2 := bulkR_length l
  simp only [Rows.uptoBulk]
  omega
theorem spot_none {w : World} {a : Addr} {v : Value} (h : w.cell? (a.add 0) = some v) : a.spot = none := by
  simpa [Addr.add] using World.cell?_spot h
set_option maxRecDepth 100000 in
theorem open_ats {t : TypeId} {n : Nat} {c : Value} {y : DataW H × List MemPlace} (ht : Tryz.prog.underlying t = some (.slice 87)) (hf : DataW.trod enc Tryz.prog W 0 (fun _ => true) true n t [c] = some y) :
    ∃ L : List RA, AtsAt W c L ∧ L.length ≤ maxLen ∧ L.length ≤ Rows.uptoBulk y.1 ∧ ∀ a ∈ L, a.n.size ≤ Rows.uptoBulk y.1 ∧ a.v.size ≤ Rows.uptoBulk y.1 := by
  rcases open_fields ht Tryz.underlying87 (by kernel_rfl) (by kernel_rfl) hf with ⟨hcs, hx⟩ | ⟨a, len, cap, m, D, Pl, hcs, hb, hl, hm, hmm, hx, hi⟩
  · obtain rfl := List.cons.inj hcs |>.1
    exact ⟨[], AtsAt.nil W, Nat.zero_le _, Nat.zero_le _, fun a h => by cases h⟩
  · obtain rfl := List.cons.inj hcs |>.1
    have hmm : m = cap := by rw [hmm]; rfl
    subst hmm
    rw [hx]
    dsimp only
    have key : ∀ i, i < len → ∃ q : RA, (∃ g o, a = ⟨g, o, none⟩ ∧ W.cell? ⟨g, o + i * 3, none⟩ = some (.string q.n) ∧ W.cell? ⟨g, o + i * 3 + 1, none⟩ = some (.int .i64 q.r) ∧ W.cell? ⟨g, o + i * 3 + 2, none⟩ = some (.string q.v)) ∧ q.n.size ≤ Rows.uptoBulk (D i) ∧ q.v.size ≤ Rows.uptoBulk (D i) := by
      intro i hil
      obtain ⟨ys, n', hD, _, hyl, hj⟩ := hi i (by omega)
      obtain ⟨v0, y0, hc0, hy0, ht0⟩ := hj 0 _ rfl
      obtain ⟨v1, y1, hc1, hy1, ht1⟩ := hj 1 _ rfl
      obtain ⟨v2, y2, hc2, hy2, ht2⟩ := hj 2 _ rfl
      obtain ⟨s0, e0, rfl, w0⟩ := DataW.trod_string Tryz.underlying9 ht0
      obtain ⟨s1, e1, rfl, w1⟩ := DataW.trod_int Tryz.underlying3 ht1
      obtain ⟨s2, e2, rfl, w2⟩ := DataW.trod_string Tryz.underlying9 ht2
      obtain rfl := List.cons.inj e0 |>.1
      obtain rfl := List.cons.inj e1 |>.1
      obtain rfl := List.cons.inj e2 |>.1
      have hyl : ys.length = 3 := hyl
      match ys, hyl with
      | [z0, z1, z2], _ =>
        injection hy0 with hy0
        injection hy1 with hy1
        injection hy2 with hy2
        subst hy0 hy1 hy2
        obtain ⟨_, _, _, _, _, hj0⟩ := hi 0 (by omega)
        obtain ⟨_, _, hz0, _, _⟩ := hj0 0 _ rfl
        have hsp := spot_none (by simpa using hz0)
        obtain ⟨g, o, sp⟩ := a
        have hsp : sp = none := hsp
        subst hsp
        refine ⟨⟨s0, s1, s2⟩, ⟨g, o, rfl, ?_, ?_, ?_⟩, ?_, ?_⟩
        · rw [addN] at hc0; exact hc0
        · rw [addN] at hc1; exact hc1
        · rw [addN] at hc2; exact hc2
        · rw [hD]
          simp only [List.map_cons, List.map_nil, Rows.uptoBulk, Rows.uptoBulkAll]
          show s0.data.toList.length ≤ _
          omega
        · rw [hD]
          simp only [List.map_cons, List.map_nil, Rows.uptoBulk, Rows.uptoBulkAll]
          show s2.data.toList.length ≤ _
          omega
    obtain ⟨L, hL, hq⟩ := list_of len _ key
    have hmem : ∀ j, j < len → Rows.uptoBulk (D j) ≤ Rows.uptoBulk (DataW.slice ((List.range len).map D) ((List.range (m - len)).map fun j => D (len + j))) := fun j hj => (bulk_slice (List.mem_map.2 ⟨j, List.mem_range.2 hj, rfl⟩)).1
    refine ⟨L, ⟨some a, m, by rw [hL], by omega, fun j hj => ?_⟩, by omega, ?_, fun q hq2 => ?_⟩
    · obtain ⟨⟨g, o, k0, k1, k2, k3⟩, _⟩ := hq j hj
      exact ⟨g, o, by rw [k0], k1, k2, k3⟩
    · rw [hL]
      have := bulkR_length ((List.range len).map D)
      rw [List.length_map, List.length_range] at this
      simp only [Rows.uptoBulk]
      omega
    · obtain ⟨j, hj, rfl⟩ := List.mem_iff_getElem.1 hq2
      have h1 := (hq j hj).2
      have h2 := hmem j (by omega)
      omega
set_option maxRecDepth 100000 in
theorem open_prs {t : TypeId} {n : Nat} {c : Value} {y : DataW H × List MemPlace} (ht : Tryz.prog.underlying t = some (.slice 90)) (hf : DataW.trod enc Tryz.prog W 0 (fun _ => true) true n t [c] = some y) :
    ∃ L : List RP, PrsAt W c L ∧ L.length ≤ maxLen ∧ L.length ≤ Rows.uptoBulk y.1 ∧ ∀ a ∈ L, a.n.size ≤ Rows.uptoBulk y.1 ∧ a.v.size ≤ Rows.uptoBulk y.1 := by
  rcases open_fields ht Tryz.underlying90 (by kernel_rfl) (by kernel_rfl) hf with ⟨hcs, hx⟩ | ⟨a, len, cap, m, D, Pl, hcs, hb, hl, hm, hmm, hx, hi⟩
  · obtain rfl := List.cons.inj hcs |>.1
    exact ⟨[], PrsAt.nil W, Nat.zero_le _, Nat.zero_le _, fun a h => by cases h⟩
  · obtain rfl := List.cons.inj hcs |>.1
    have hmm : m = cap := by rw [hmm]; rfl
    subst hmm
    rw [hx]
    dsimp only
    have key : ∀ i, i < len → ∃ q : RP, (∃ g o, a = ⟨g, o, none⟩ ∧ W.cell? ⟨g, o + i * 2, none⟩ = some (.string q.n) ∧ W.cell? ⟨g, o + i * 2 + 1, none⟩ = some (.string q.v)) ∧ q.n.size ≤ Rows.uptoBulk (D i) ∧ q.v.size ≤ Rows.uptoBulk (D i) := by
      intro i hil
      obtain ⟨ys, n', hD, _, hyl, hj⟩ := hi i (by omega)
      obtain ⟨v0, y0, hc0, hy0, ht0⟩ := hj 0 _ rfl
      obtain ⟨v2, y2, hc2, hy2, ht2⟩ := hj 1 _ rfl
      obtain ⟨s0, e0, rfl, w0⟩ := DataW.trod_string Tryz.underlying9 ht0
      obtain ⟨s2, e2, rfl, w2⟩ := DataW.trod_string Tryz.underlying9 ht2
      obtain rfl := List.cons.inj e0 |>.1
      obtain rfl := List.cons.inj e2 |>.1
      have hyl : ys.length = 2 := hyl
      match ys, hyl with
      | [z0, z2], _ =>
        injection hy0 with hy0
        injection hy2 with hy2
        subst hy0 hy2
        obtain ⟨_, _, _, _, _, hj0⟩ := hi 0 (by omega)
        obtain ⟨_, _, hz0, _, _⟩ := hj0 0 _ rfl
        have hsp := spot_none (by simpa using hz0)
        obtain ⟨g, o, sp⟩ := a
        have hsp : sp = none := hsp
        subst hsp
        refine ⟨⟨s0, s2⟩, ⟨g, o, rfl, ?_, ?_⟩, ?_, ?_⟩
        · rw [addN] at hc0; exact hc0
        · rw [addN] at hc2; exact hc2
        · rw [hD]
          simp only [List.map_cons, List.map_nil, Rows.uptoBulk, Rows.uptoBulkAll]
          show s0.data.toList.length ≤ _
          omega
        · rw [hD]
          simp only [List.map_cons, List.map_nil, Rows.uptoBulk, Rows.uptoBulkAll]
          show s2.data.toList.length ≤ _
          omega
    obtain ⟨L, hL, hq⟩ := list_of len _ key
    have hmem : ∀ j, j < len → Rows.uptoBulk (D j) ≤ Rows.uptoBulk (DataW.slice ((List.range len).map D) ((List.range (m - len)).map fun j => D (len + j))) := fun j hj => (bulk_slice (List.mem_map.2 ⟨j, List.mem_range.2 hj, rfl⟩)).1
    refine ⟨L, ⟨some a, m, by rw [hL], by omega, fun j hj => ?_⟩, by omega, ?_, fun q hq2 => ?_⟩
    · obtain ⟨⟨g, o, k0, k1, k3⟩, _⟩ := hq j hj
      exact ⟨g, o, by rw [k0], k1, k3⟩
    · rw [hL]
      have := bulkR_length ((List.range len).map D)
      rw [List.length_map, List.length_range] at this
      simp only [Rows.uptoBulk]
      omega
    · obtain ⟨j, hj, rfl⟩ := List.mem_iff_getElem.1 hq2
      have h1 := (hq j hj).2
      have h2 := hmem j (by omega)
      omega
set_option maxRecDepth 100000 in
theorem open_cls {n : Nat} {c : Value} {y : DataW H × List MemPlace} (hf : DataW.trod enc Tryz.prog W 0 (fun _ => true) true n 22 [c] = some y) :
    ∃ L : List (List RA), ClsAt W c L ∧ L.length ≤ maxLen ∧ L.length ≤ Rows.uptoBulk y.1 ∧ ∀ l ∈ L, l.length ≤ Rows.uptoBulk y.1 ∧ ∀ a ∈ l, a.n.size ≤ Rows.uptoBulk y.1 ∧ a.v.size ≤ Rows.uptoBulk y.1 := by
  rcases open_slice Tryz.underlying22 hf with ⟨hcs, hx⟩ | ⟨a, len, cap, m, n', D, Pl, hcs, hb, hl, hm, hmm, hx, hi⟩
  · obtain rfl := List.cons.inj hcs |>.1
    exact ⟨[], ClsAt.nil W, Nat.zero_le _, Nat.zero_le _, fun a h => by cases h⟩
  · obtain rfl := List.cons.inj hcs |>.1
    have hmm : m = cap := by rw [hmm]; rfl
    subst hmm
    rw [hx]
    dsimp only
    have hone : Tryz.prog.cellsOf 55 = 1 := by kernel_rfl
    rw [hone] at hi
    have key : ∀ i, i < len → ∃ q : List RA, (∃ g o V, a = ⟨g, o, none⟩ ∧ W.cell? ⟨g, o + i, none⟩ = some V ∧ AtsAt W V q) ∧ q.length ≤ Rows.uptoBulk (D i) ∧ ∀ a ∈ q, a.n.size ≤ Rows.uptoBulk (D i) ∧ a.v.size ≤ Rows.uptoBulk (D i) := by
      intro i hil
      obtain ⟨cs', hc, ht'⟩ := hi i (by omega)
      rw [Nat.mul_one] at hc
      obtain ⟨V, rfl⟩ : ∃ V, cs' = [V] := by
        have := (World.cells?_some hc).2.1
        match cs', this with
        | [V], _ => exact ⟨V, rfl⟩
      have hcell := cell_of_cells?_one hc
      obtain ⟨q, hq1, _, hq2, hq3⟩ := open_ats Tryz.underlying55 ht'
      obtain ⟨cs0, hz, _⟩ := hi 0 (by omega)
      rw [Nat.zero_mul] at hz
      obtain ⟨V0, rfl⟩ : ∃ V, cs0 = [V] := by
        have := (World.cells?_some hz).2.1
        match cs0, this with
        | [V], _ => exact ⟨V, rfl⟩
      have hsp := spot_none (cell_of_cells?_one hz)
      obtain ⟨g, o, sp⟩ := a
      have hsp : sp = none := hsp
      subst hsp
      rw [addN] at hcell
      exact ⟨q, ⟨g, o, V, rfl, hcell, hq1⟩, hq2, hq3⟩
    obtain ⟨L, hL, hq⟩ := list_of len _ key
    have hmem : ∀ j, j < len → Rows.uptoBulk (D j) ≤ Rows.uptoBulk (DataW.slice ((List.range len).map D) ((List.range (m - len)).map fun j => D (len + j))) := fun j hj => (bulk_slice (List.mem_map.2 ⟨j, List.mem_range.2 hj, rfl⟩)).1
    refine ⟨L, ⟨some a, m, by rw [hL], by omega, fun j hj => ?_⟩, by omega, ?_, fun q hq2 => ?_⟩
    · obtain ⟨⟨g, o, V, k0, k1, k3⟩, _⟩ := hq j hj
      exact ⟨g, o, V, by rw [k0], k1, k3⟩
    · rw [hL]
      have := bulkR_length ((List.range len).map D)
      rw [List.length_map, List.length_range] at this
      simp only [Rows.uptoBulk]
      omega
    · obtain ⟨j, hj, rfl⟩ := List.mem_iff_getElem.1 hq2
      have h1 := (hq j hj).2
      have h2 := hmem j (by omega)
      exact ⟨by omega, fun a ha => by have := h1.2 a ha; omega⟩
theorem open_agg7 {P : Program} {w : World} {base : Nat} {spare : Nat → Bool} {held : Bool} {r : Reach} {b0 : Nat} {t : TypeId} {f0 f1 f2 f3 f4 f5 f6 : Field} {v : Value} {d : DataW H} {p : List MemPlace} (hs : P.underlying t = some (.struct #[f0, f1, f2, f3, f4, f5, f6])) (hone : oneCellFields P #[f0, f1, f2, f3, f4, f5, f6] = true) (hC : P.cellsOf t = 7)
    (hv : Value.okWide P w r b0 t v) (h : DataW.Trod enc P w base spare held t v d p) :
    ∃ (v0 v1 v2 v3 v4 v5 v6 : Value) (y0 y1 y2 y3 y4 y5 y6 : DataW H × List MemPlace) (n : Nat), v = .agg #[v0, v1, v2, v3, v4, v5, v6] ∧ DataW.trod enc P w base spare held n f0.type [v0] = some y0 ∧ DataW.trod enc P w base spare held n f1.type [v1] = some y1 ∧ DataW.trod enc P w base spare held n f2.type [v2] = some y2 ∧ DataW.trod enc P w base spare held n f3.type [v3] = some y3 ∧ DataW.trod enc P w base spare held n f4.type [v4] = some y4 ∧ DataW.trod enc P w base spare held n f5.type [v5] = some y5 ∧ DataW.trod enc P w base spare held n f6.type [v6] = some y6 := by
  obtain ⟨cs, rfl, hsz⟩ := okWide_struct hs hv
  rw [hC] at hsz
  obtain ⟨l⟩ := cs
  match l, hsz with
  | [v0, v1, v2, v3, v4, v5, v6], _ =>
    obtain ⟨fuel, hf⟩ := h
    obtain ⟨ys, n, hn', hy, hlen, hyl, hf⟩ := DataW.trod_struct hs hf
    have hyl : ys.length = 7 := hyl
    match ys, hyl with
    | [y0, y1, y2, y3, y4, y5, y6], _ =>
      obtain ⟨o0, k0⟩ := hone_of hone 0 f0 rfl
      obtain ⟨o1, k1⟩ := hone_of hone 1 f1 rfl
      obtain ⟨o2, k2⟩ := hone_of hone 2 f2 rfl
      obtain ⟨o3, k3⟩ := hone_of hone 3 f3 rfl
      obtain ⟨o4, k4⟩ := hone_of hone 4 f4 rfl
      obtain ⟨o5, k5⟩ := hone_of hone 5 f5 rfl
      obtain ⟨o6, k6⟩ := hone_of hone 6 f6 rfl
      have g0 : DataW.trod enc P w base spare held n f0.type [v0] = some y0 := by simpa [Value.cells, o0, k0] using hf 0 f0 rfl
      have g1 : DataW.trod enc P w base spare held n f1.type [v1] = some y1 := by simpa [Value.cells, o1, k1] using hf 1 f1 rfl
      have g2 : DataW.trod enc P w base spare held n f2.type [v2] = some y2 := by simpa [Value.cells, o2, k2] using hf 2 f2 rfl
      have g3 : DataW.trod enc P w base spare held n f3.type [v3] = some y3 := by simpa [Value.cells, o3, k3] using hf 3 f3 rfl
      have g4 : DataW.trod enc P w base spare held n f4.type [v4] = some y4 := by simpa [Value.cells, o4, k4] using hf 4 f4 rfl
      have g5 : DataW.trod enc P w base spare held n f5.type [v5] = some y5 := by simpa [Value.cells, o5, k5] using hf 5 f5 rfl
      have g6 : DataW.trod enc P w base spare held n f6.type [v6] = some y6 := by simpa [Value.cells, o6, k6] using hf 6 f6 rfl
      exact ⟨v0, v1, v2, v3, v4, v5, v6, y0, y1, y2, y3, y4, y5, y6, n, rfl, g0, g1, g2, g3, g4, g5, g6⟩
set_option maxRecDepth 100000 in
/-- A value as data. -/
theorem open_any {v : Value} {d : DataW H} {p : List MemPlace} (h : DataW.Trod enc Tryz.prog W 0 (fun _ => true) true 26 v d p) (o : Value.okWide Tryz.prog W .any base 26 v) :
    ∃ (k : Int) (s : ByteArray) (n : Int) (b : Bool) (vc va vp : Value) (C : List (List RA)) (A : List RA) (P : List RP), v = .agg #[.int .i64 k, .string s, .int .i64 n, .bool b, vc, va, vp] ∧ ClsAt W vc C ∧ AtsAt W va A ∧ PrsAt W vp P ∧ C.length ≤ maxLen ∧ A.length ≤ maxLen ∧ P.length ≤ maxLen := by
  obtain ⟨v0, v1, v2, v3, v4, v5, v6, y0, y1, y2, y3, y4, y5, y6, m, rfl, g0, g1, g2, g3, g4, g5, g6⟩ := open_agg7 Tryz.underlying26 (by kernel_rfl) (by kernel_rfl) o h
  obtain ⟨k, e0, _, _⟩ := DataW.trod_int Tryz.underlying3 g0
  obtain ⟨s, e1, _, _⟩ := DataW.trod_string Tryz.underlying9 g1
  obtain ⟨n, e2, _, _⟩ := DataW.trod_int Tryz.underlying3 g2
  obtain ⟨b, e3, _⟩ := DataW.trod_bool Tryz.underlying4 g3
  obtain rfl := List.cons.inj e0 |>.1
  obtain rfl := List.cons.inj e1 |>.1
  obtain rfl := List.cons.inj e2 |>.1
  obtain rfl := List.cons.inj e3 |>.1
  obtain ⟨C, hC1, hC2, _⟩ := open_cls g4
  obtain ⟨A, hA1, hA2, _⟩ := open_ats Tryz.underlying23 g5
  obtain ⟨P, hP1, hP2, _⟩ := open_prs Tryz.underlying24 g6
  exact ⟨k, s, n, b, v4, v5, v6, C, A, P, rfl, hC1, hA1, hP1, hC2, hA2, hP2⟩
end
end Go.Proofs.YtjkaigfpjebfbaaGreatDoor
