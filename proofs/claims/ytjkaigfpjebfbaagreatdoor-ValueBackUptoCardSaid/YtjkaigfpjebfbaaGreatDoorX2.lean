/- Put together: told; value.Read at a field of text, at a package's name; value.Read at a version, at clauses; value.Read at atoms, at provides; text.Number, chandlerref4.Number: they answer what the plain law says; value.Read at a count. -/
import Derived.Test.YtjkaigfpjebfbaaGreatDoorW2
import Derived.Test.YtjkaigfpjebfbaaGreatDoorVk
import Derived.Test.YtjkaigfpjebfbaaGreatDoorRs
import Derived.Test.YtjkaigfpjebfbaaGreatDoorW3
import Derived.Test.YtjkaigfpjebfbaaGreatDoorZA
/- told; value.Read at a field of text, at a package's name. -/
namespace Go.Proofs.YtjkaigfpjebfbaaGreatDoor
open Go.RowKit
set_option linter.unusedVariables false

set_option maxRecDepth 100000 in
set_option maxHeartbeats 1000000 in
theorem told_any {k : Nat} {x : Value} (h : VK k x) (n : Int) (w : World) : Calls Tryz.prog 41 #[.agg #[x], .int .i64 n] w fun e w' => e = .returned (.tuple #[.agg #[if n = 0 then x else .nilIface], .int .i64 n]) ∧ Below w.heap.size w w' := by
  obtain ⟨w1, hw1⟩ : ∃ w1, w1 = w.alloc (.cells #[x] 30) := ⟨_, rfl⟩
  have hz1 : w1.heap.size = w.heap.size + 1 := by rw [hw1]; simp
  obtain ⟨w2, hw2⟩ : ∃ w2, w2 = w1.alloc (.cells #[.nilIface] 30) := ⟨_, rfl⟩
  have HK : Hid (Blk w2 w.heap.size 30 #[x]) := Lib.hid (by rw [hw2, hw1]; exact (Blk.new w _ _).alloc _)
  have HL : Hid (Blk w2 (w.heap.size + 1) 30 #[.nilIface]) := Lib.hid (by rw [hw2, ← hz1]; exact Blk.new w1 _ _)
  have HB : Hid (Below w.heap.size w w2) := Lib.hid (by rw [hw2, hw1]; exact ((Below.refl _ w).alloc (Nat.le_refl _) _).alloc (by simp) _)
  have k0 : w2.cell? ⟨w.heap.size, 0, none⟩ = some x := HK.out.cell 0
  have k1 : w2.cell? ⟨w.heap.size + 1, 0, none⟩ = some .nilIface := HL.out.cell 0
  have k2 : w2.frozen? ⟨w.heap.size + 1, 0, none⟩ = false := HL.out.frozen 0
  by_cases hn : n = 0
  · subst hn
    rcases h.shape with hx | ⟨t, u, hx⟩
    all_goals
      subst hx
      clear h
      go_enter Tryz.func41, Tryz.ntmps41
      go_upto_region 1 with fail
      rw [← hw1, ← hw2]
      clear hw1 hw2 hz1
      go_wp2_with fail
      exact ret_val2 Tryz.results41 (w.heap.size + 1) _ (HL.out.set_ 0 _) rfl rfl rfl ⟨rfl, HB.out.setCell (by simp) _⟩
  · have q1 : (n != 0) = true := by rw [bne_iff_ne]; exact hn
    rw [if_neg hn]
    clear h hn
    go_enter Tryz.func41, Tryz.ntmps41
    go_upto_region 1 with fail
    rw [← hw1, ← hw2]
    clear hw1 hw2 hz1
    go_wp2_with fail
    exact ret_val2 Tryz.results41 (w.heap.size + 1) #[.nilIface] (HL.out.set_ 0 _) rfl rfl rfl ⟨rfl, HB.out.setCell (by simp) _⟩
set_option maxRecDepth 100000 in
set_option maxHeartbeats 1000000 in
theorem Read_text (nm s : ByteArray) (hn : nm.size ≤ 1048576) (hf : fieldN nm = 7) (w : World) :
    Calls Tryz.prog 10 #[.string nm, .string s] w fun e w' => e = .returned (.tuple #[.agg #[vText s], .int .i64 0]) ∧ Below w.heap.size w w' := by
  have hfa := fun W => field_any nm W hn
  rw [hf] at hfa
  have HF := Lib.hid hfa
  obtain ⟨w1, hw1⟩ : ∃ w1, w1 = w.alloc (.cells #[.nilIface] 30) := ⟨_, rfl⟩
  have HK : Hid (Blk w1 w.heap.size 30 #[.nilIface]) := Lib.hid (by rw [hw1]; exact Blk.new w _ _)
  have HB : Hid (Below w.heap.size w w1) := Lib.hid (by rw [hw1]; exact (Below.refl _ w).alloc (Nat.le_refl _) _)
  have HO : Hid (∀ W, Calls Tryz.prog 23 #[.string s] W fun e w' => e = .returned (.agg #[.iface 9 (.string s)]) ∧ Below W.heap.size W w') := Lib.hid (fun W => OfText_any s W)
  clear hfa hf
  go_enter Tryz.func10, Tryz.ntmps10
  go_upto_region 1 with fail
  rw [← hw1]
  clear hw1
  go_wp2_with (first | (go_at_call 36; refine (HF.out _).mono ?_; rintro e w2 ⟨rfl, hb⟩; have HK2 := Lib.hid (HK.out.below hb HK.out.lt); have HB2 := Lib.hid (HB.out.trans (hb.mono HB.out.size)); clear hb) | (go_at_call 23; refine (HO.out _).mono ?_; rintro e w3 ⟨rfl, hb⟩; have HK3 := Lib.hid (HK2.out.below hb HK2.out.lt); have HB3 := Lib.hid (HB2.out.trans (hb.mono HB2.out.size)); clear hb; have m0 : w3.cell? ⟨w.heap.size, 0, none⟩ = some .nilIface := HK3.out.cell 0; have m1 : w3.frozen? ⟨w.heap.size, 0, none⟩ = false := HK3.out.frozen 0))
  exact ret_val2 Tryz.results10 w.heap.size #[vText s] (HK3.out.set_ 0 _) rfl rfl rfl ⟨rfl, HB3.out.setCell (Nat.le_refl _) _⟩
set_option maxRecDepth 100000 in
set_option maxHeartbeats 1000000 in
theorem Read_name (nm s : ByteArray) (hn : nm.size ≤ 1048576) (hs : s.size ≤ 1048576) (hf : fieldN nm = 0) (w : World) :
    Calls Tryz.prog 10 #[.string nm, .string s] w fun e w' => e = .returned (.tuple #[.agg #[if nameB s then vText s else .nilIface], .int .i64 (if nameB s then 0 else 3)]) ∧ Below w.heap.size w w' := by
  have hfa := fun W => field_any nm W hn
  rw [hf] at hfa
  have HF := Lib.hid hfa
  obtain ⟨w1, hw1⟩ : ∃ w1, w1 = w.alloc (.cells #[.nilIface] 30) := ⟨_, rfl⟩
  have HK : Hid (Blk w1 w.heap.size 30 #[.nilIface]) := Lib.hid (by rw [hw1]; exact Blk.new w _ _)
  have HB : Hid (Below w.heap.size w w1) := Lib.hid (by rw [hw1]; exact (Below.refl _ w).alloc (Nat.le_refl _) _)
  have HO : Hid (∀ W, Calls Tryz.prog 23 #[.string s] W fun e w' => e = .returned (.agg #[.iface 9 (.string s)]) ∧ Below W.heap.size W w') := Lib.hid (fun W => OfText_any s W)
  have HN := Lib.hid (fun W => Name_any s W (by omega))
  generalize nameB s = m at *
  have HY : Hid (∀ W, Calls Tryz.prog 37 #[.agg #[.iface 9 (.string s)], .bool m] W fun e w' => e = .returned (.tuple #[.agg #[if m then .iface 9 (.string s) else .nilIface], .int .i64 (if m then 0 else 3)]) ∧ Below W.heap.size W w') := Lib.hid (fun W => only_any (VK.text s) m W)
  clear hfa hf
  cases m
  all_goals
    simp only [Bool.false_eq_true, if_false, if_true] at HY ⊢
    go_enter Tryz.func10, Tryz.ntmps10
    go_upto_region 1 with fail
    rw [← hw1]
    clear hw1
    go_wp2_with (first | (go_at_call 36; refine (HF.out _).mono ?_; rintro e w2 ⟨rfl, hb⟩; have HK2 := Lib.hid (HK.out.below hb HK.out.lt); have HB2 := Lib.hid (HB.out.trans (hb.mono HB.out.size)); clear hb) | (go_at_call 23; refine (HO.out _).mono ?_; rintro e w3 ⟨rfl, hb⟩; have HK3 := Lib.hid (HK2.out.below hb HK2.out.lt); have HB3 := Lib.hid (HB2.out.trans (hb.mono HB2.out.size)); clear hb) | (go_at_call 38; refine (HN.out _).mono ?_; rintro e w4 ⟨rfl, hb⟩; have HK4 := Lib.hid (HK3.out.below hb HK3.out.lt); have HB4 := Lib.hid (HB3.out.trans (hb.mono HB3.out.size)); clear hb) | (go_at_call 37; refine (HY.out _).mono ?_; rintro e w5 ⟨rfl, hb⟩; have HK5 := Lib.hid (HK4.out.below hb HK4.out.lt); have HB5 := Lib.hid (HB4.out.trans (hb.mono HB4.out.size)); clear hb; have m0 : w5.cell? ⟨w.heap.size, 0, none⟩ = some .nilIface := HK5.out.cell 0; have m1 : w5.frozen? ⟨w.heap.size, 0, none⟩ = false := HK5.out.frozen 0))
    exact ret_val2 Tryz.results10 w.heap.size _ (HK5.out.set_ 0 _) rfl rfl rfl ⟨rfl, HB5.out.setCell (Nat.le_refl _) _⟩
end Go.Proofs.YtjkaigfpjebfbaaGreatDoor
/- value.Read at a version, at clauses. -/
namespace Go.Proofs.YtjkaigfpjebfbaaGreatDoor
open Go.RowKit
set_option linter.unusedVariables false

set_option maxRecDepth 100000 in
set_option maxHeartbeats 1000000 in
theorem Read_version (nm s : ByteArray) (hn : nm.size ≤ 1048576) (hs : s.size ≤ 1048576) (hf : fieldN nm = 1) (w : World) :
    Calls Tryz.prog 10 #[.string nm, .string s] w fun e w' => e = .returned (.tuple #[.agg #[if verB s then vText s else .nilIface], .int .i64 (if verB s then 0 else 3)]) ∧ Below w.heap.size w w' := by
  have hfa := fun W => field_any nm W hn
  rw [hf] at hfa
  have HF := Lib.hid hfa
  obtain ⟨w1, hw1⟩ : ∃ w1, w1 = w.alloc (.cells #[.nilIface] 30) := ⟨_, rfl⟩
  have HK : Hid (Blk w1 w.heap.size 30 #[.nilIface]) := Lib.hid (by rw [hw1]; exact Blk.new w _ _)
  have HB : Hid (Below w.heap.size w w1) := Lib.hid (by rw [hw1]; exact (Below.refl _ w).alloc (Nat.le_refl _) _)
  have HO : Hid (∀ W, Calls Tryz.prog 23 #[.string s] W fun e w' => e = .returned (.agg #[.iface 9 (.string s)]) ∧ Below W.heap.size W w') := Lib.hid (fun W => OfText_any s W)
  have hvp := fun W => vparse_any s W hs
  generalize verB s = m at *
  have HN : Hid (∀ W, Calls Tryz.prog 39 #[.string s] W fun e w' => (∃ x y z, e = .returned (.tuple #[.string x, .string y, .string z, .int .i64 (if m then 0 else 3)])) ∧ Below W.heap.size W w') := Lib.hid hvp
  have HY : Hid (∀ W, Calls Tryz.prog 37 #[.agg #[.iface 9 (.string s)], .bool m] W fun e w' => e = .returned (.tuple #[.agg #[if m then .iface 9 (.string s) else .nilIface], .int .i64 (if m then 0 else 3)]) ∧ Below W.heap.size W w') := Lib.hid (fun W => only_any (VK.text s) m W)
  clear hfa hf hvp
  cases m
  all_goals
    simp only [Bool.false_eq_true, if_false, if_true] at HY HN ⊢
    go_enter Tryz.func10, Tryz.ntmps10
    go_upto_region 1 with fail
    rw [← hw1]
    clear hw1
    go_wp2_with (first | (go_at_call 36; refine (HF.out _).mono ?_; rintro e w2 ⟨rfl, hb⟩; have HK2 := Lib.hid (HK.out.below hb HK.out.lt); have HB2 := Lib.hid (HB.out.trans (hb.mono HB.out.size)); clear hb) | (go_at_call 39; refine (HN.out _).mono ?_; rintro e w3 ⟨⟨x, y, z, rfl⟩, hb⟩; have HK3 := Lib.hid (HK2.out.below hb HK2.out.lt); have HB3 := Lib.hid (HB2.out.trans (hb.mono HB2.out.size)); clear hb) | (go_at_call 23; refine (HO.out _).mono ?_; rintro e w4 ⟨rfl, hb⟩; have HK4 := Lib.hid (HK3.out.below hb HK3.out.lt); have HB4 := Lib.hid (HB3.out.trans (hb.mono HB3.out.size)); clear hb) | (go_at_call 37; refine (HY.out _).mono ?_; rintro e w5 ⟨rfl, hb⟩; have HK5 := Lib.hid (HK4.out.below hb HK4.out.lt); have HB5 := Lib.hid (HB4.out.trans (hb.mono HB4.out.size)); clear hb; have m0 : w5.cell? ⟨w.heap.size, 0, none⟩ = some .nilIface := HK5.out.cell 0; have m1 : w5.frozen? ⟨w.heap.size, 0, none⟩ = false := HK5.out.frozen 0))
    exact ret_val2 Tryz.results10 w.heap.size _ (HK5.out.set_ 0 _) rfl rfl rfl ⟨rfl, HB5.out.setCell (Nat.le_refl _) _⟩
set_option maxRecDepth 100000 in
set_option maxHeartbeats 1000000 in
theorem Read_clauses (nm s : ByteArray) (hn : nm.size ≤ 1048576) (hs : s.size ≤ 1048576) (hf : fieldN nm = 2) (w : World) :
    Calls Tryz.prog 10 #[.string nm, .string s] w fun e w' => ∃ x, e = .returned (.tuple #[.agg #[x], .int .i64 (eno (Rl.allP nmL verL anyF false (bl s)))]) ∧ (eno (Rl.allP nmL verL anyF false (bl s)) = 0 → VAt w' 4 x ((okv (Rl.allP nmL verL anyF false (bl s))).map (·.map raA)) [] []) ∧ (eno (Rl.allP nmL verL anyF false (bl s)) ≠ 0 → x = .nilIface) ∧ Below w.heap.size w w' := by
  have hfa := fun W => field_any nm W hn
  rw [hf] at hfa
  have HF := Lib.hid hfa
  obtain ⟨w1, hw1⟩ : ∃ w1, w1 = w.alloc (.cells #[.nilIface] 30) := ⟨_, rfl⟩
  have HK : Hid (Blk w1 w.heap.size 30 #[.nilIface]) := Lib.hid (by rw [hw1]; exact Blk.new w _ _)
  have HB : Hid (Below w.heap.size w w1) := Lib.hid (by rw [hw1]; exact (Below.refl _ w).alloc (Nat.le_refl _) _)
  have hlen := okv_len (mf := anyF) (one := false) (s := bl s)
  have h1 : ((okv (Rl.allP nmL verL anyF false (bl s))).map (·.map raA)).length ≤ 1048576 := by rw [List.length_map]; omega
  have h2 : ∀ l ∈ (okv (Rl.allP nmL verL anyF false (bl s))).map (·.map raA), l.length ≤ 1048576 := fun l hl => by
    obtain ⟨k, hk, rfl⟩ := List.mem_map.1 hl
    have := (hlen.2 k hk).2.1
    rw [List.length_map]
    omega
  have hpp := fun W => (Parse_any s W hs).mono (R' := fun e w' => Below W.heap.size W w' ∧ ∃ v, e = .returned (.tuple #[v, .int .i64 (eno (Rl.allP nmL verL anyF false (bl s)))]) ∧ ClsAt w' v ((okv (Rl.allP nmL verL anyF false (bl s))).map (·.map raA))) (fun e w' ⟨hb, v, he, ho⟩ => ⟨hb, v, he, ho.cls⟩)
  generalize (okv (Rl.allP nmL verL anyF false (bl s))).map (·.map raA) = L at *
  generalize eno (Rl.allP nmL verL anyF false (bl s)) = n at *
  have HP := Lib.hid hpp
  have HL := Lib.hid (And.intro h1 h2)
  have HT : Hid (∀ A m c W, Calls Tryz.prog 41 #[.agg #[.iface 22 (.slice A m c)], .int .i64 n] W fun e w' => e = .returned (.tuple #[.agg #[if n = 0 then .iface 22 (.slice A m c) else .nilIface], .int .i64 n]) ∧ Below W.heap.size W w') := Lib.hid (fun A m c W => told_any (VK.clauses A m c) n W)
  clear hfa hf hpp h1 h2 hlen
  by_cases h0 : n = 0
  · subst h0
    simp only [if_true] at HT
    go_enter Tryz.func10, Tryz.ntmps10
    go_upto_region 1 with fail
    rw [← hw1]
    clear hw1
    go_wp2_with (first | (go_at_call 36; refine (HF.out _).mono ?_; rintro e w2 ⟨rfl, hb⟩; have HK2 := Lib.hid (HK.out.below hb HK.out.lt); have HB2 := Lib.hid (HB.out.trans (hb.mono HB.out.size)); clear hb) | (go_at_call 40; refine (HP.out _).mono ?_; rintro e w3 ⟨hb, v, rfl, hc⟩; have HK3 := Lib.hid (HK2.out.below hb HK2.out.lt); have HB3 := Lib.hid (HB2.out.trans (hb.mono HB2.out.size)); have HO3 := Lib.hid (OfClauses_any v L w3 hc HL.out.1 HL.out.2); clear hb hc) | (go_at_call 26; refine (HO3.out).mono ?_; rintro e w4 ⟨CA, m, c, rfl, hst, hb⟩; have HK4 := Lib.hid (HK3.out.below hb HK3.out.lt); have HB4 := Lib.hid (HB3.out.trans (hb.mono HB3.out.size)); have HS4 := Lib.hid hst; clear hb hst) | (go_at_call 41; refine (HT.out _ _ _ _).mono ?_; rintro e w5 ⟨rfl, hb⟩; have HK5 := Lib.hid (HK4.out.below hb HK4.out.lt); have HB5 := Lib.hid (HB4.out.trans (hb.mono HB4.out.size)); have HS5 : Hid (∀ W, Upd (fun k => k < w3.heap.size) w5 W → ClsAt W (.slice CA m c) L) := Lib.hid (fun W hW => HS4.out W ((Upd.of_below hb (fun k h1 h2 => by omega)).trans hW)); clear hb; have m0 : w5.cell? ⟨w.heap.size, 0, none⟩ = some .nilIface := HK5.out.cell 0; have m1 : w5.frozen? ⟨w.heap.size, 0, none⟩ = false := HK5.out.frozen 0))
    refine ret_val2 Tryz.results10 w.heap.size #[.iface 22 (.slice CA m c)] (HK5.out.set_ 0 _) rfl rfl rfl ⟨_, rfl, fun _ => ?_, fun h => absurd rfl h, HB5.out.setCell (Nat.le_refl _) _⟩
    exact .clauses CA m c L (HS5.out _ ((Upd.refl _ _).setCell (.inl HK3.out.lt) _)) HL.out.1 HL.out.2
  · simp only [if_neg h0] at HT
    go_enter Tryz.func10, Tryz.ntmps10
    go_upto_region 1 with fail
    rw [← hw1]
    clear hw1
    go_wp2_with (first | (go_at_call 36; refine (HF.out _).mono ?_; rintro e w2 ⟨rfl, hb⟩; have HK2 := Lib.hid (HK.out.below hb HK.out.lt); have HB2 := Lib.hid (HB.out.trans (hb.mono HB.out.size)); clear hb) | (go_at_call 40; refine (HP.out _).mono ?_; rintro e w3 ⟨hb, v, rfl, hc⟩; have HK3 := Lib.hid (HK2.out.below hb HK2.out.lt); have HB3 := Lib.hid (HB2.out.trans (hb.mono HB2.out.size)); have HO3 := Lib.hid (OfClauses_any v L w3 hc HL.out.1 HL.out.2); clear hb hc) | (go_at_call 26; refine (HO3.out).mono ?_; rintro e w4 ⟨CA, m, c, rfl, hst, hb⟩; have HK4 := Lib.hid (HK3.out.below hb HK3.out.lt); have HB4 := Lib.hid (HB3.out.trans (hb.mono HB3.out.size)); have HS4 := Lib.hid hst; clear hb hst) | (go_at_call 41; refine (HT.out _ _ _ _).mono ?_; rintro e w5 ⟨rfl, hb⟩; have HK5 := Lib.hid (HK4.out.below hb HK4.out.lt); have HB5 := Lib.hid (HB4.out.trans (hb.mono HB4.out.size)); have HS5 : Hid (∀ W, Upd (fun k => k < w3.heap.size) w5 W → ClsAt W (.slice CA m c) L) := Lib.hid (fun W hW => HS4.out W ((Upd.of_below hb (fun k h1 h2 => by omega)).trans hW)); clear hb; have m0 : w5.cell? ⟨w.heap.size, 0, none⟩ = some .nilIface := HK5.out.cell 0; have m1 : w5.frozen? ⟨w.heap.size, 0, none⟩ = false := HK5.out.frozen 0))
    exact ret_val2 Tryz.results10 w.heap.size #[.nilIface] (HK5.out.set_ 0 _) rfl rfl rfl ⟨_, rfl, fun h => absurd h h0, fun _ => rfl, HB5.out.setCell (Nat.le_refl _) _⟩
end Go.Proofs.YtjkaigfpjebfbaaGreatDoor
/- value.Read at atoms, at provides. -/
namespace Go.Proofs.YtjkaigfpjebfbaaGreatDoor
open Go.RowKit
set_option linter.unusedVariables false

theorem flat_one9 {L : List (List Rl.Atm)} (h : ∀ l ∈ L, l.length = 1) : L.flatten.length = L.length := by
  induction L with
  | nil => rfl
  | cons x r ih =>
    rw [List.flatten_cons, List.length_append, ih (fun l hl => h l (.tail _ hl)), h x (.head _), List.length_cons]
    omega
set_option maxRecDepth 100000 in
set_option maxHeartbeats 1000000 in
theorem Read_atoms (nm s : ByteArray) (hn : nm.size ≤ 1048576) (hs : s.size ≤ 1048576) (hf : fieldN nm = 3) (w : World) :
    Calls Tryz.prog 10 #[.string nm, .string s] w fun e w' => ∃ x, e = .returned (.tuple #[.agg #[x], .int .i64 (eno (Rl.allP nmL verL anyF true (bl s)))]) ∧ (eno (Rl.allP nmL verL anyF true (bl s)) = 0 → VAt w' 5 x [] ((okv (Rl.allP nmL verL anyF true (bl s))).flatten.map raA) []) ∧ (eno (Rl.allP nmL verL anyF true (bl s)) ≠ 0 → x = .nilIface) ∧ Below w.heap.size w w' := by
  have hfa := fun W => field_any nm W hn
  rw [hf] at hfa
  have HF := Lib.hid hfa
  obtain ⟨w1, hw1⟩ : ∃ w1, w1 = w.alloc (.cells #[.nilIface] 30) := ⟨_, rfl⟩
  have HK : Hid (Blk w1 w.heap.size 30 #[.nilIface]) := Lib.hid (by rw [hw1]; exact Blk.new w _ _)
  have HB : Hid (Below w.heap.size w w1) := Lib.hid (by rw [hw1]; exact (Below.refl _ w).alloc (Nat.le_refl _) _)
  have hlen := okv_len (mf := anyF) (one := true) (s := bl s)
  have hfl : (okv (Rl.allP nmL verL anyF true (bl s))).flatten.length = (okv (Rl.allP nmL verL anyF true (bl s))).length := flat_one9 fun l hl => (hlen.2 l hl).2.2 rfl
  have h1 : ((okv (Rl.allP nmL verL anyF true (bl s))).flatten.map raA).length ≤ 1048576 := by rw [List.length_map, hfl]; omega
  have hpp := fun W => (ParseAtoms_any s W hs).mono (R' := fun e w' => Below W.heap.size W w' ∧ ∃ v, e = .returned (.tuple #[v, .int .i64 (eno (Rl.allP nmL verL anyF true (bl s)))]) ∧ AtsAt w' v ((okv (Rl.allP nmL verL anyF true (bl s))).flatten.map raA)) (fun e w' ⟨hb, A, m, c, he, hm, ho⟩ => ⟨hb, _, he, AtsAt.of_own ho hm⟩)
  clear hfl hlen
  generalize (okv (Rl.allP nmL verL anyF true (bl s))).flatten.map raA = L at *
  generalize eno (Rl.allP nmL verL anyF true (bl s)) = n at *
  have HP := Lib.hid hpp
  have HL := Lib.hid h1
  have HT : Hid (∀ A m c W, Calls Tryz.prog 41 #[.agg #[.iface 23 (.slice A m c)], .int .i64 n] W fun e w' => e = .returned (.tuple #[.agg #[if n = 0 then .iface 23 (.slice A m c) else .nilIface], .int .i64 n]) ∧ Below W.heap.size W w') := Lib.hid (fun A m c W => told_any (VK.atoms A m c) n W)
  clear hfa hf hpp h1
  by_cases h0 : n = 0
  · subst h0
    simp only [if_true] at HT
    go_enter Tryz.func10, Tryz.ntmps10
    go_upto_region 1 with fail
    rw [← hw1]
    clear hw1
    go_wp2_with (first | (go_at_call 36; refine (HF.out _).mono ?_; rintro e w2 ⟨rfl, hb⟩; have HK2 := Lib.hid (HK.out.below hb HK.out.lt); have HB2 := Lib.hid (HB.out.trans (hb.mono HB.out.size)); clear hb) | (go_at_call 42; refine (HP.out _).mono ?_; rintro e w3 ⟨hb, v, rfl, hc⟩; have HK3 := Lib.hid (HK2.out.below hb HK2.out.lt); have HB3 := Lib.hid (HB2.out.trans (hb.mono HB2.out.size)); have HO3 := Lib.hid (OfAtoms_any v L w3 hc HL.out); clear hb hc) | (go_at_call 27; refine (HO3.out).mono ?_; rintro e w4 ⟨CA, m, c, rfl, hst, hb⟩; have HK4 := Lib.hid (HK3.out.below hb HK3.out.lt); have HB4 := Lib.hid (HB3.out.trans (hb.mono HB3.out.size)); have HS4 := Lib.hid hst; clear hb hst) | (go_at_call 41; refine (HT.out _ _ _ _).mono ?_; rintro e w5 ⟨rfl, hb⟩; have HK5 := Lib.hid (HK4.out.below hb HK4.out.lt); have HB5 := Lib.hid (HB4.out.trans (hb.mono HB4.out.size)); have HS5 : Hid (∀ W, Upd (fun k => k < w3.heap.size) w5 W → AtsAt W (.slice CA m c) L) := Lib.hid (fun W hW => HS4.out W ((Upd.of_below hb (fun k h1 h2 => by omega)).trans hW)); clear hb; have m0 : w5.cell? ⟨w.heap.size, 0, none⟩ = some .nilIface := HK5.out.cell 0; have m1 : w5.frozen? ⟨w.heap.size, 0, none⟩ = false := HK5.out.frozen 0))
    refine ret_val2 Tryz.results10 w.heap.size #[.iface 23 (.slice CA m c)] (HK5.out.set_ 0 _) rfl rfl rfl ⟨_, rfl, fun _ => ?_, fun h => absurd rfl h, HB5.out.setCell (Nat.le_refl _) _⟩
    exact .atoms CA m c L (HS5.out _ ((Upd.refl _ _).setCell (.inl HK3.out.lt) _)) HL.out
  · simp only [if_neg h0] at HT
    go_enter Tryz.func10, Tryz.ntmps10
    go_upto_region 1 with fail
    rw [← hw1]
    clear hw1
    go_wp2_with (first | (go_at_call 36; refine (HF.out _).mono ?_; rintro e w2 ⟨rfl, hb⟩; have HK2 := Lib.hid (HK.out.below hb HK.out.lt); have HB2 := Lib.hid (HB.out.trans (hb.mono HB.out.size)); clear hb) | (go_at_call 42; refine (HP.out _).mono ?_; rintro e w3 ⟨hb, v, rfl, hc⟩; have HK3 := Lib.hid (HK2.out.below hb HK2.out.lt); have HB3 := Lib.hid (HB2.out.trans (hb.mono HB2.out.size)); have HO3 := Lib.hid (OfAtoms_any v L w3 hc HL.out); clear hb hc) | (go_at_call 27; refine (HO3.out).mono ?_; rintro e w4 ⟨CA, m, c, rfl, hst, hb⟩; have HK4 := Lib.hid (HK3.out.below hb HK3.out.lt); have HB4 := Lib.hid (HB3.out.trans (hb.mono HB3.out.size)); have HS4 := Lib.hid hst; clear hb hst) | (go_at_call 41; refine (HT.out _ _ _ _).mono ?_; rintro e w5 ⟨rfl, hb⟩; have HK5 := Lib.hid (HK4.out.below hb HK4.out.lt); have HB5 := Lib.hid (HB4.out.trans (hb.mono HB4.out.size)); have HS5 : Hid (∀ W, Upd (fun k => k < w3.heap.size) w5 W → AtsAt W (.slice CA m c) L) := Lib.hid (fun W hW => HS4.out W ((Upd.of_below hb (fun k h1 h2 => by omega)).trans hW)); clear hb; have m0 : w5.cell? ⟨w.heap.size, 0, none⟩ = some .nilIface := HK5.out.cell 0; have m1 : w5.frozen? ⟨w.heap.size, 0, none⟩ = false := HK5.out.frozen 0))
    exact ret_val2 Tryz.results10 w.heap.size #[.nilIface] (HK5.out.set_ 0 _) rfl rfl rfl ⟨_, rfl, fun h => absurd h h0, fun _ => rfl, HB5.out.setCell (Nat.le_refl _) _⟩
set_option maxRecDepth 100000 in
set_option maxHeartbeats 1000000 in
theorem Read_provides (nm s : ByteArray) (hn : nm.size ≤ 1048576) (hs : s.size ≤ 1048576) (hf : fieldN nm = 4) (w : World) :
    Calls Tryz.prog 10 #[.string nm, .string s] w fun e w' => ∃ x, e = .returned (.tuple #[.agg #[x], .int .i64 (eno (Rl.allP nmL verL provF true (bl s)))]) ∧ (eno (Rl.allP nmL verL provF true (bl s)) = 0 → VAt w' 6 x [] [] ((okv (Rl.allP nmL verL provF true (bl s))).flatten.map rpA)) ∧ (eno (Rl.allP nmL verL provF true (bl s)) ≠ 0 → x = .nilIface) ∧ Below w.heap.size w w' := by
  have hfa := fun W => field_any nm W hn
  rw [hf] at hfa
  have HF := Lib.hid hfa
  obtain ⟨w1, hw1⟩ : ∃ w1, w1 = w.alloc (.cells #[.nilIface] 30) := ⟨_, rfl⟩
  have HK : Hid (Blk w1 w.heap.size 30 #[.nilIface]) := Lib.hid (by rw [hw1]; exact Blk.new w _ _)
  have HB : Hid (Below w.heap.size w w1) := Lib.hid (by rw [hw1]; exact (Below.refl _ w).alloc (Nat.le_refl _) _)
  have hlen := okv_len (mf := provF) (one := true) (s := bl s)
  have hfl : (okv (Rl.allP nmL verL provF true (bl s))).flatten.length = (okv (Rl.allP nmL verL provF true (bl s))).length := flat_one9 fun l hl => (hlen.2 l hl).2.2 rfl
  have h1 : ((okv (Rl.allP nmL verL provF true (bl s))).flatten.map rpA).length ≤ 1048576 := by rw [List.length_map, hfl]; omega
  have hpp := fun W => (ParseProvides_any s W hs).mono (R' := fun e w' => Below W.heap.size W w' ∧ ∃ v, e = .returned (.tuple #[v, .int .i64 (eno (Rl.allP nmL verL provF true (bl s)))]) ∧ PrsAt w' v ((okv (Rl.allP nmL verL provF true (bl s))).flatten.map rpA)) (fun e w' ⟨hb, A, m, c, he, hm, ho⟩ => ⟨hb, _, he, PrsAt.of_own ho (hm.trans hfl.symm)⟩)
  clear hfl hlen
  generalize (okv (Rl.allP nmL verL provF true (bl s))).flatten.map rpA = L at *
  generalize eno (Rl.allP nmL verL provF true (bl s)) = n at *
  have HP := Lib.hid hpp
  have HL := Lib.hid h1
  have HT : Hid (∀ A m c W, Calls Tryz.prog 41 #[.agg #[.iface 24 (.slice A m c)], .int .i64 n] W fun e w' => e = .returned (.tuple #[.agg #[if n = 0 then .iface 24 (.slice A m c) else .nilIface], .int .i64 n]) ∧ Below W.heap.size W w') := Lib.hid (fun A m c W => told_any (VK.provides A m c) n W)
  clear hfa hf hpp h1
  by_cases h0 : n = 0
  · subst h0
    simp only [if_true] at HT
    go_enter Tryz.func10, Tryz.ntmps10
    go_upto_region 1 with fail
    rw [← hw1]
    clear hw1
    go_wp2_with (first | (go_at_call 36; refine (HF.out _).mono ?_; rintro e w2 ⟨rfl, hb⟩; have HK2 := Lib.hid (HK.out.below hb HK.out.lt); have HB2 := Lib.hid (HB.out.trans (hb.mono HB.out.size)); clear hb) | (go_at_call 43; refine (HP.out _).mono ?_; rintro e w3 ⟨hb, v, rfl, hc⟩; have HK3 := Lib.hid (HK2.out.below hb HK2.out.lt); have HB3 := Lib.hid (HB2.out.trans (hb.mono HB2.out.size)); have HO3 := Lib.hid (OfProvides_any v L w3 hc HL.out); clear hb hc) | (go_at_call 28; refine (HO3.out).mono ?_; rintro e w4 ⟨CA, m, c, rfl, hst, hb⟩; have HK4 := Lib.hid (HK3.out.below hb HK3.out.lt); have HB4 := Lib.hid (HB3.out.trans (hb.mono HB3.out.size)); have HS4 := Lib.hid hst; clear hb hst) | (go_at_call 41; refine (HT.out _ _ _ _).mono ?_; rintro e w5 ⟨rfl, hb⟩; have HK5 := Lib.hid (HK4.out.below hb HK4.out.lt); have HB5 := Lib.hid (HB4.out.trans (hb.mono HB4.out.size)); have HS5 : Hid (∀ W, Upd (fun k => k < w3.heap.size) w5 W → PrsAt W (.slice CA m c) L) := Lib.hid (fun W hW => HS4.out W ((Upd.of_below hb (fun k h1 h2 => by omega)).trans hW)); clear hb; have m0 : w5.cell? ⟨w.heap.size, 0, none⟩ = some .nilIface := HK5.out.cell 0; have m1 : w5.frozen? ⟨w.heap.size, 0, none⟩ = false := HK5.out.frozen 0))
    refine ret_val2 Tryz.results10 w.heap.size #[.iface 24 (.slice CA m c)] (HK5.out.set_ 0 _) rfl rfl rfl ⟨_, rfl, fun _ => ?_, fun h => absurd rfl h, HB5.out.setCell (Nat.le_refl _) _⟩
    exact .provides CA m c L (HS5.out _ ((Upd.refl _ _).setCell (.inl HK3.out.lt) _)) HL.out
  · simp only [if_neg h0] at HT
    go_enter Tryz.func10, Tryz.ntmps10
    go_upto_region 1 with fail
    rw [← hw1]
    clear hw1
    go_wp2_with (first | (go_at_call 36; refine (HF.out _).mono ?_; rintro e w2 ⟨rfl, hb⟩; have HK2 := Lib.hid (HK.out.below hb HK.out.lt); have HB2 := Lib.hid (HB.out.trans (hb.mono HB.out.size)); clear hb) | (go_at_call 43; refine (HP.out _).mono ?_; rintro e w3 ⟨hb, v, rfl, hc⟩; have HK3 := Lib.hid (HK2.out.below hb HK2.out.lt); have HB3 := Lib.hid (HB2.out.trans (hb.mono HB2.out.size)); have HO3 := Lib.hid (OfProvides_any v L w3 hc HL.out); clear hb hc) | (go_at_call 28; refine (HO3.out).mono ?_; rintro e w4 ⟨CA, m, c, rfl, hst, hb⟩; have HK4 := Lib.hid (HK3.out.below hb HK3.out.lt); have HB4 := Lib.hid (HB3.out.trans (hb.mono HB3.out.size)); have HS4 := Lib.hid hst; clear hb hst) | (go_at_call 41; refine (HT.out _ _ _ _).mono ?_; rintro e w5 ⟨rfl, hb⟩; have HK5 := Lib.hid (HK4.out.below hb HK4.out.lt); have HB5 := Lib.hid (HB4.out.trans (hb.mono HB4.out.size)); have HS5 : Hid (∀ W, Upd (fun k => k < w3.heap.size) w5 W → PrsAt W (.slice CA m c) L) := Lib.hid (fun W hW => HS4.out W ((Upd.of_below hb (fun k h1 h2 => by omega)).trans hW)); clear hb; have m0 : w5.cell? ⟨w.heap.size, 0, none⟩ = some .nilIface := HK5.out.cell 0; have m1 : w5.frozen? ⟨w.heap.size, 0, none⟩ = false := HK5.out.frozen 0))
    exact ret_val2 Tryz.results10 w.heap.size #[.nilIface] (HK5.out.set_ 0 _) rfl rfl rfl ⟨_, rfl, fun h => absurd h h0, fun _ => rfl, HB5.out.setCell (Nat.le_refl _) _⟩
end Go.Proofs.YtjkaigfpjebfbaaGreatDoor
/- text.Number, chandlerref4.Number: they answer what the plain law says. -/
namespace Go.Proofs.YtjkaigfpjebfbaaGreatDoor
open Go.RowKit
set_option linter.unusedVariables false

theorem pow_nine (p acc : Nat) (hp : p ≤ 9) (h : acc < 10 ^ p) : acc < 1000000000 := Nat.lt_of_lt_of_le h (Nat.pow_le_pow_right (n := 10) (by omega) hp)
theorem pow_step (p acc d : Nat) (h : acc < 10 ^ p) (hd : d ≤ 9) : acc * 10 + d < 10 ^ (p + 1) := by rw [Nat.pow_succ]; omega
def numV (z : Nat × Bool) : Value := .tuple #[.int .i64 (z.1 : Int), .bool z.2]
theorem ret_num {a b : Nat × Bool} (h : a = b) : Ending.returned (numV a) = .returned (numV b) := by rw [h]
theorem numZ_no (s : ByteArray) (h : numFrom s s.size 0 0 = (0, false)) : numZ s = (0, false) := by
  unfold numZ; split
  · rfl
  · exact h
set_option maxRecDepth 100000 in
set_option maxHeartbeats 4000000 in
theorem Number_any (s : ByteArray) (w : World) (hs : s.size ≤ 9223372036854775807) :
    Calls Tryz.prog 44 #[.string s] w fun e w' => e = .returned (numV (numZ s)) ∧ Below w.heap.size w w' := by
  by_cases h0 : s.size = 0
  · have e : numZ s = (0, false) := by unfold numZ; rw [if_pos (.inl h0)]
    have HE := Lib.hid e
    have h00 : ((s.size : Int) == 0) = true := beq_iff_eq.2 (by omega)
    clear e h0
    go_enter Tryz.func44, Tryz.ntmps44
    go_wp2
    go_ret2
    exact ⟨ret_num HE.out.symm, Below.refl _ _⟩
  · have h00 : ((s.size : Int) == 0) = false := beq_eq_false_iff_ne.2 (by omega)
    by_cases h9 : 9 < s.size
    · have e : numZ s = (0, false) := by unfold numZ; rw [if_pos (.inr (.inl h9))]
      have HE := Lib.hid e
      clear e h0
      go_enter Tryz.func44, Tryz.ntmps44
      go_wp2
      go_ret2
      exact ⟨ret_num HE.out.symm, Below.refl _ _⟩
    · have hpos : 0 < s.size := by omega
      obtain ⟨b, hb⟩ : ∃ b, b = byteAt s 0 := ⟨_, rfl⟩
      have hx2 : ((s[0]'hpos).toNat : Nat) = b := by rw [hb, byteAt_get s 0 hpos]
      by_cases h1 : 1 < s.size ∧ b = 48
      · obtain ⟨h1, hb48⟩ := h1
        have e : numZ s = (0, false) := by unfold numZ; rw [if_pos (.inr (.inr ⟨h1, by rw [← hb]; exact hb48⟩))]
        have HE := Lib.hid e
        have q48 : ((b : Int) == 48) = true := by (simp <;> omega)
        clear e h0 hb hb48
        go_enter Tryz.func44, Tryz.ntmps44
        go_wp2
        go_ret2
        exact ⟨ret_num HE.out.symm, Below.refl _ _⟩
      · have e : numZ s = numFrom s s.size 0 0 := by
          unfold numZ
          rw [if_neg]
          rintro (h | h | h)
          · exact h0 h
          · exact h9 h
          · exact h1 ⟨h.1, by rw [hb]; exact h.2⟩
        have HE := Lib.hid e
        have hcs : s.size = 1 ∨ (2 ≤ s.size ∧ b ≠ 48) := by omega
        have hz9 : s.size ≤ 9 := by omega
        clear e h0 hb h1 h9
        rcases hcs with h1 | ⟨h1, h2⟩
        all_goals
          first
            | (have q1 : s.size ≤ 1 := by omega
               clear h1)
            | (have q48 : ((b : Int) == 48) = false := by (simp <;> omega)
               clear h2)
          go_enter Tryz.func44, Tryz.ntmps44
          go_wp2
          go_loopw [4, 6] (fun v _ wr => ∃ (pos fuel acc : Nat), v = .int .i64 acc ∧ wr.heap[w.heap.size]? = some (.stringIter s pos) ∧ Below w.heap.size w wr ∧ Hid (numFrom s fuel pos acc = numZ s) ∧ s.size ≤ pos + fuel ∧ pos ≤ s.size ∧ acc < 10 ^ pos) (fun _ _ wr => s.size - wr.iterPos w.heap.size)
          case atStart => exact ⟨0, s.size, 0, rfl, World.iter_heap w s 0, (Below.refl _ _).alloc (Nat.le_refl _) _, HE.out.symm, by omega, by omega, by simp⟩
          case round =>
            obtain ⟨pos, fuel, acc, rfl, hit, hbw, HS, hb, hps, hacc⟩ := hrel
            have hpos0 := iterPos_of hit
            have hacc9 := pow_nine pos acc (by omega) hacc
            by_cases hp : pos < s.size
            · have hnx : ∀ ty, (Instr.next (.pointer (some ⟨w.heap.size, 0, none⟩)) true ty).run Tryz.prog wr = _ := fun ty => Lib.run_next_any_at wr w.heap.size s pos ty hit hp
              have hwd := Lib.decode_width_pos s pos hp
              obtain ⟨fuel, rfl⟩ : ∃ f', fuel = f' + 1 := ⟨fuel - 1, by omega⟩
              have hit2 := Lib.iterAt_heap wr w.heap.size s pos (pos + (Utf8.decode s pos).2) hit
              have hbw2 := Lib.below_iterAt hbw (k := w.heap.size) (Nat.le_refl _) s (pos + (Utf8.decode s pos).2)
              obtain ⟨W1, hW1⟩ : ∃ W1, W1 = wr.iterAt w.heap.size s (pos + (Utf8.decode s pos).2) := ⟨_, rfl⟩
              rw [← hW1] at hnx hit2 hbw2
              have HHit := Lib.hid hit2
              have HBw := Lib.hid hbw2
              have HPos := Lib.hid hpos0
              have HAcc := Lib.hid hacc
              have hle := rune_le s pos
              have hra := rune_at s pos
              have hno : ¬ (48 ≤ (Utf8.decode s pos).1 ∧ (Utf8.decode s pos).1 ≤ 57) → numFrom s (fuel + 1) pos acc = (0, false) := fun h => numFrom_no s fuel pos acc hp (decide_eq_false (by
                rcases hra with ⟨h1, e⟩ | ⟨h1, h2⟩
                · rw [e] at h; exact h
                · omega))
              have hyes : (48 ≤ (Utf8.decode s pos).1 ∧ (Utf8.decode s pos).1 ≤ 57) → (Utf8.decode s pos).2 = 1 ∧ numFrom s (fuel + 1) pos acc = numFrom s fuel (pos + 1) (acc * 10 + ((Utf8.decode s pos).1 - 48)) := fun h => by
                rcases hra with ⟨h1, e⟩ | ⟨h1, h2⟩
                · rw [e] at h ⊢
                  exact ⟨rfl, numFrom_yes s fuel pos acc hp (decide_eq_true h)⟩
                · omega
              have HNo := Lib.hid hno
              have HYes := Lib.hid hyes
              clear hW1 hit hbw hit2 hbw2 hpos0 hno hyes hra hacc
              obtain ⟨c, hc⟩ : ∃ c, c = (Utf8.decode s pos).1 := ⟨_, rfl⟩
              obtain ⟨n, hn⟩ : ∃ n, n = (Utf8.decode s pos).2 := ⟨_, rfl⟩
              rw [← hc] at hnx hle HNo HYes
              rw [← hn] at hwd HHit HYes
              clear hc hn
              by_cases c1 : 48 ≤ c
              · by_cases c2 : c ≤ 57
                · have hy := HYes.out ⟨c1, c2⟩
                  have HY := Lib.hid hy.2
                  have hn1 := hy.1
                  rw [hn1] at HHit
                  clear hy HYes HNo hn1
                  go_wp2
                  go_roundw
                  case rel =>
                    exact ⟨pos + 1, fuel, acc * 10 + (c - 48), by go_num, HHit.out, HBw.out, by show _ = _; rw [← HS.out]; exact HY.out.symm, by omega, by omega, pow_step pos acc (c - 48) HAcc.out (by omega)⟩
                  case measure =>
                    rw [iterPos_of HHit.out, HPos.out]
                    omega
                · have HF := Lib.hid (HNo.out (by omega))
                  clear HNo HYes
                  go_wp2
                  go_ret2
                  exact ⟨ret_num (a := (0, false)) (by rw [← HS.out]; exact HF.out.symm), HBw.out⟩
              · have HF := Lib.hid (HNo.out (by omega))
                clear HNo HYes
                go_wp2
                go_ret2
                exact ⟨ret_num (a := (0, false)) (by rw [← HS.out]; exact HF.out.symm), HBw.out⟩
            · have hnx : ∀ ty, (Instr.next (.pointer (some ⟨w.heap.size, 0, none⟩)) true ty).run Tryz.prog wr = _ := fun ty => Lib.run_next_end_at wr w.heap.size s pos ty hit hp
              have e : numZ s = (acc, true) := by rw [← HS.out]; exact numFrom_end s fuel pos acc hp
              have HE2 := Lib.hid e
              have HBw := Lib.hid hbw
              clear e hbw
              go_wp2
              go_ret2
              exact ⟨ret_num (a := (acc, true)) HE2.out.symm, HBw.out⟩
end Go.Proofs.YtjkaigfpjebfbaaGreatDoor
/- value.Read at a count. -/
namespace Go.Proofs.YtjkaigfpjebfbaaGreatDoor
open Go.RowKit
set_option linter.unusedVariables false

set_option maxRecDepth 100000 in
set_option maxHeartbeats 1000000 in
theorem Read_count (nm s : ByteArray) (hn : nm.size ≤ 1048576) (hs : s.size ≤ 1048576) (hf : fieldN nm = 6) (w : World) :
    Calls Tryz.prog 10 #[.string nm, .string s] w fun e w' => e = .returned (.tuple #[.agg #[if (numZ s).2 then vCount ((numZ s).1 : Int) else .nilIface], .int .i64 (if (numZ s).2 then 0 else 3)]) ∧ Below w.heap.size w w' := by
  have hfa := fun W => field_any nm W hn
  rw [hf] at hfa
  have HF := Lib.hid hfa
  obtain ⟨w1, hw1⟩ : ∃ w1, w1 = w.alloc (.cells #[.nilIface] 30) := ⟨_, rfl⟩
  have HK : Hid (Blk w1 w.heap.size 30 #[.nilIface]) := Lib.hid (by rw [hw1]; exact Blk.new w _ _)
  have HB : Hid (Below w.heap.size w w1) := Lib.hid (by rw [hw1]; exact (Below.refl _ w).alloc (Nat.le_refl _) _)
  have HO : Hid (∀ W, Calls Tryz.prog 24 #[.int .i64 ((numZ s).1 : Int)] W fun e w' => e = .returned (.agg #[.iface 3 (.int .i64 ((numZ s).1 : Int))]) ∧ Below W.heap.size W w') := Lib.hid (fun W => OfCount_any ((numZ s).1 : Int) W)
  have hnn := fun W => Number_any s W (by omega)
  unfold numV at hnn
  have HN := Lib.hid hnn
  generalize (numZ s).1 = c at *
  generalize (numZ s).2 = m at *
  clear hnn
  have HY : Hid (∀ W, Calls Tryz.prog 37 #[.agg #[.iface 3 (.int .i64 (c : Int))], .bool m] W fun e w' => e = .returned (.tuple #[.agg #[if m then .iface 3 (.int .i64 (c : Int)) else .nilIface], .int .i64 (if m then 0 else 3)]) ∧ Below W.heap.size W w') := Lib.hid (fun W => only_any (VK.count (c : Int)) m W)
  clear hfa hf
  cases m
  all_goals
    simp only [Bool.false_eq_true, if_false, if_true] at HY ⊢
    go_enter Tryz.func10, Tryz.ntmps10
    go_upto_region 1 with fail
    rw [← hw1]
    clear hw1
    go_wp2_with (first | (go_at_call 36; refine (HF.out _).mono ?_; rintro e w2 ⟨rfl, hb⟩; have HK2 := Lib.hid (HK.out.below hb HK.out.lt); have HB2 := Lib.hid (HB.out.trans (hb.mono HB.out.size)); clear hb) | (go_at_call 44; refine (HN.out _).mono ?_; rintro e w3 ⟨rfl, hb⟩; have HK3 := Lib.hid (HK2.out.below hb HK2.out.lt); have HB3 := Lib.hid (HB2.out.trans (hb.mono HB2.out.size)); clear hb) | (go_at_call 24; refine (HO.out _).mono ?_; rintro e w4 ⟨rfl, hb⟩; have HK4 := Lib.hid (HK3.out.below hb HK3.out.lt); have HB4 := Lib.hid (HB3.out.trans (hb.mono HB3.out.size)); clear hb) | (go_at_call 37; refine (HY.out _).mono ?_; rintro e w5 ⟨rfl, hb⟩; have HK5 := Lib.hid (HK4.out.below hb HK4.out.lt); have HB5 := Lib.hid (HB4.out.trans (hb.mono HB4.out.size)); clear hb; have m0 : w5.cell? ⟨w.heap.size, 0, none⟩ = some .nilIface := HK5.out.cell 0; have m1 : w5.frozen? ⟨w.heap.size, 0, none⟩ = false := HK5.out.frozen 0))
    exact ret_val2 Tryz.results10 w.heap.size _ (HK5.out.set_ 0 _) rfl rfl rfl ⟨rfl, HB5.out.setCell (Nat.le_refl _) _⟩
end Go.Proofs.YtjkaigfpjebfbaaGreatDoor
