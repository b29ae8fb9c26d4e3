/- Reading both; chandlerlaw2.do as a whole; chandlerlaw2.like. -/
import Derived.Test.YtiiegimnnngnnaaDo2
namespace Go.Proofs.Ytiiegimnnngnnaa
open Go.RowKit Go.Sort
set_option linter.unusedVariables false

def Dk.rd (D : Dk) (i : Int) : List Nat := if D.readErr i = 0 then D.sector i.toNat else []
theorem rd_of {D : Dk} {i : Int} {w w' : World} {v : Value} {n : Nat} {bs : List Nat} (hok : D.Ok) (hown : w'.ownsRow w.heap.size 5 1 v n (bs.map fun x => Value.int .u8 ((x : Nat) : Int)))
    (h0 : D.readErr i = 0 → n = 64 ∧ bs = D.sector i.toNat ∧ 0 ≤ i ∧ i < D.n) (h1 : D.readErr i ≠ 0 → v = .slice none 0 0 ∧ n = 0 ∧ bs = []) : ∃ A n c, v = .slice A n c ∧ Bytes w' A n (D.rd i) := by
  unfold Dk.rd
  by_cases h : D.readErr i = 0
  · rw [if_pos h]
    obtain ⟨rfl, rfl, _, _⟩ := h0 h
    obtain ⟨A, cp, rfl, hb⟩ := Bytes.of_own hown (hok.sector _)
    exact ⟨A, 64, cp, rfl, hb⟩
  · rw [if_neg h]
    obtain ⟨rfl, rfl, rfl⟩ := h1 h
    exact ⟨none, 0, 0, rfl, Bytes.nil _⟩
theorem ReadB_any (p r s cr cs : Nat) (D : Dk) (i : Int) (w : World) (h : DiskAt w p r s cr cs D) :
    Calls Try.prog 31 #[.pointer (some ⟨p, 0, none⟩), .int .i64 i] w fun e w' =>
      ∃ A n c, e = .returned (.tuple #[.slice A n c, .int .i64 (D.readErr i)]) ∧ Bytes w' A n (D.rd i) ∧ Below w.heap.size w w' := by
  refine (Read_any p r s cr cs D i w h).mono ?_
  rintro e w' ⟨v, n, bs, rfl, hown, hb, h0, h1⟩
  obtain ⟨A, n, c, rfl, hbt⟩ := rd_of h.ok hown h0 h1
  exact ⟨A, n, c, rfl, hbt, hb⟩
theorem RefReadB_any (w : World) (T : Nat → Prop) (m : Nat) (A B : Option Addr) (cA cB : Nat) (D : Dk) (i : Int) (h : RefAt w T m A B cA cB D) :
    Calls Try.prog 67 #[.pointer (some ⟨m, 0, none⟩), .int .i64 i] w fun e w' =>
      ∃ A n c, e = .returned (.tuple #[.slice A n c, .int .i64 (D.readErr i)]) ∧ Bytes w' A n (D.rd i) ∧ Below w.heap.size w w' := by
  refine (RefRead_any w T m A B cA cB D i h).mono ?_
  rintro e w' ⟨v, n, bs, rfl, hown, hb, h0, h1⟩
  obtain ⟨A, n, c, rfl, hbt⟩ := rd_of h.ok hown h0 h1
  exact ⟨A, n, c, rfl, hbt, hb⟩
set_option maxRecDepth 100000 in
set_option maxHeartbeats 2000000 in
theorem do_read (T : Nat → Prop) (w : World) (p r s cr cs m : Nat) (A B : Option Addr) (cA cB : Nat) (D : Dk) (Do I b' : Int) (sh : Bool) (pk : Value) (h : Two T w p r s cr cs m A B cA cB D) (h0 : Do ≠ 0) (h1 : Do ≠ 1) (h2 : Do ≠ 2) (h3 : Do ≠ 3) :
    Calls Try.prog 42 #[.pointer (some ⟨p, 0, none⟩), .pointer (some ⟨m, 0, none⟩), .agg #[.int .i64 Do, .int .i64 I, .int .u8 b', .bool sh, pk]] w fun e w' =>
      e = .returned (.bool true) ∧ Two T w' p r s cr cs m A B cA cB D ∧ Upd (bT p r s m A B) w w' := by
  have hbx : Blk (w.alloc (.cells #[.int .i64 Do, .int .i64 I, .int .u8 b', .bool sh, pk] 45)) w.heap.size 45 #[.int .i64 Do, .int .i64 I, .int .u8 b', .bool sh, pk] := Blk.new _ _ _
  have c0 : (w.alloc (.cells #[.int .i64 Do, .int .i64 I, .int .u8 b', .bool sh, pk] 45)).cell? ⟨w.heap.size, 0, none⟩ = some (.int .i64 Do) := hbx.cell 0
  have c1 : (w.alloc (.cells #[.int .i64 Do, .int .i64 I, .int .u8 b', .bool sh, pk] 45)).cell? ⟨w.heap.size, 1, none⟩ = some (.int .i64 I) := hbx.cell 1
  have hb1 : Below w.heap.size w (w.alloc (.cells #[.int .i64 Do, .int .i64 I, .int .u8 b', .bool sh, pk] 45)) := (Below.refl _ _).alloc (Nat.le_refl _) _
  have H1 := Lib.hid (h.below hb1)
  have HB1 := Lib.hid hb1
  have HBx := Lib.hid hbx
  have e0 : (Do == 0) = false := by simpa using h0
  have e1 : (Do == 1) = false := by simpa using h1
  have e2 : (Do == 2) = false := by simpa using h2
  have e3 : (Do == 3) = false := by simpa using h3
  clear h hb1 hbx h0 h1 h2 h3
  obtain ⟨E, hE⟩ : ∃ E, E = D.readErr I := ⟨_, rfl⟩
  obtain ⟨X, hX⟩ : ∃ X, X = D.rd I := ⟨_, rfl⟩
  have hr1 := ReadB_any p r s cr cs D I _ H1.out.d
  have hr2 := fun (W : World) (hW : RefAt W T m A B cA cB D) => RefReadB_any W T m A B cA cB D I hW
  rw [← hE, ← hX] at hr1
  simp only [← hE, ← hX] at hr2
  have HR1 := Lib.hid hr1
  have HR2 := Lib.hid hr2
  clear hE hX hr1 hr2
  go_enter Try.func42, Try.ntmps42
  go_wp2_with (first
    | (go_at_call 31
       refine HR1.out.mono ?_
       rintro e w4 ⟨A4, n4, k4, rfl, hbt4, hb4⟩
       have d1 : w4.cell? ⟨w.heap.size, 1, none⟩ = some (.int .i64 I) := (HBx.out.below hb4 HBx.out.lt).cell 1
       have HB4 := Lib.hid hb4
       have HT4 := Lib.hid (H1.out.below hb4)
       have HBt4 := Lib.hid hbt4
       clear hb4 hbt4 HR1)
    | (go_at_call 67
       refine (HR2.out _ HT4.out.ref).mono ?_
       rintro e w5 ⟨A5, n5, k5, rfl, hbt5, hb5⟩
       have hcx : (convert 22 9 (.slice A4 n4 k4)).run Try.prog w5 = .ok (.string (strOf X)) w5 := (HBt4.out.below hb5).to_string 22 9 5 k4 Try.underlying22 Try.underlying5 Try.underlying9
       have hcy : (convert 22 9 (.slice A5 n5 k5)).run Try.prog w5 = .ok (.string (strOf X)) w5 := hbt5.to_string 22 9 5 k5 Try.underlying22 Try.underlying5 Try.underlying9
       have HT5 := Lib.hid (HT4.out.below hb5)
       have HU5 : Hid (Upd (bT p r s m A B) w w5) := Lib.hid ((upd_below HB1.out).trans ((upd_below HB4.out).trans (upd_below hb5)))
       generalize strOf X = S at hcx hcy
       clear hb5 hbt5 HR2))
  go_ret
  exact ⟨rfl, HT5.out, HU5.out⟩
/-- A call to both: they answer alike, and stay in one state. -/
theorem do_any (T : Nat → Prop) (w : World) (p r s cr cs m : Nat) (A B : Option Addr) (cA cB : Nat) (D : Dk) (c : CallD) (h : Two T w p r s cr cs m A B cA cB D) (hc : D.calls < 4611686018427387904) (hok : c.Ok w) (hP : ∀ g o, c.A = some ⟨g, o, none⟩ → 0 < c.n → ¬ T g) :
    Calls Try.prog 42 #[.pointer (some ⟨p, 0, none⟩), .pointer (some ⟨m, 0, none⟩), .agg #[.int .i64 c.Do, .int .i64 c.I, .int .u8 (c.B : Int), .bool c.sh, .slice c.A c.n c.c]] w fun e w' =>
      e = .returned (.bool true) ∧ Two T w' p r s cr cs m A B cA cB (D.step c) ∧ Upd (bT p r s m A B) w w' := by
  unfold Dk.step
  by_cases h0 : c.Do = 0
  · rw [if_pos h0, h0]
    exact do_write T w p r s cr cs m A B cA cB D c.I c.B c.sh c.A c.n c.c h hc hok.B
  · rw [if_neg h0]
    by_cases h1 : c.Do = 1
    · rw [if_pos h1, h1]
      exact do_flush T w p r s cr cs m A B cA cB D c.I c.B c.sh _ h hc
    · rw [if_neg h1]
      by_cases h2 : c.Do = 2
      · rw [if_pos h2, h2]
        exact do_fuse T w p r s cr cs m A B cA cB D c.I c.B c.sh _ h hok.I.2
      · rw [if_neg h2]
        by_cases h3 : c.Do = 3
        · rw [if_pos h3, h3]
          exact do_crash T w p r s cr cs m A B cA cB D c.I c.B c.sh c.A c.n c.c c.bs h hok.bytes hok.nc hok.cap hP
        · rw [if_neg h3]
          exact do_read T w p r s cr cs m A B cA cB D c.Do c.I c.B c.sh _ h h0 h1 h2 h3
theorem quiet_left {P : Program} {f : FuncId} {args : Array Value} {w : World} {n : Nat} {v : Value}
    (h : Calls P f args (w.drewN n) fun e w' => e = .returned v ∧ w.drewN n = w') : Calls P f args (w.drewN n) fun e w'' => e = .returned v ∧ ∃ m, w'' = w.drewN m :=
  h.mono fun _ _ ⟨he, hm⟩ => ⟨he, n, hm.symm⟩
set_option maxRecDepth 100000 in
set_option maxHeartbeats 2000000 in
theorem like_any (T : Nat → Prop) (w : World) (p r s cr cs m : Nat) (A B : Option Addr) (cA cB : Nat) (D : Dk) (h : Two T w p r s cr cs m A B cA cB D) :
    Calls Try.prog 43 #[.pointer (some ⟨p, 0, none⟩), .pointer (some ⟨m, 0, none⟩)] w fun e w' => e = .returned (.bool true) ∧ Below w.heap.size w w' := by
  have H := Lib.hid h
  have hb := h.ref.blk
  have hn4 := h.d.ok.n
  unfold refCells at hb
  have c0 : w.cell? ⟨m, 0, none⟩ = some (.slice A D.n cA) := hb.cell 0
  have c2 : w.cell? ⟨m, 2, none⟩ = some (.int .i64 (D.calls : Int)) := hb.cell 2
  have c4 : w.cell? ⟨m, 4, none⟩ = some (.bool D.down) := hb.cell 4
  have hml := hb.lt
  obtain ⟨n, hn⟩ : ∃ n, n = D.n := ⟨_, rfl⟩
  have l1 := fun W hW => Len_any p r s cr cs D W hW
  have l2 := fun W hW => Calls_any p r s cr cs D W hW
  have l3 := fun W hW => Down_any p r s cr cs D W hW
  rw [← hn] at c0 hn4
  simp only [← hn] at l1
  obtain ⟨cl, hcl⟩ : ∃ n, n = D.calls := ⟨_, rfl⟩
  obtain ⟨dn, hdn⟩ : ∃ n, n = D.down := ⟨_, rfl⟩
  rw [← hcl] at c2
  rw [← hdn] at c4
  simp only [← hcl] at l2
  simp only [← hdn] at l3
  have HN := Lib.hid hn
  have L1 := Lib.hid l1
  have L2 := Lib.hid l2
  have L3 := Lib.hid l3
  have C0 := Lib.hid c0
  have C2 := Lib.hid c2
  have C4 := Lib.hid c4
  clear h hb hn hcl hdn l1 l2 l3
  go_enter Try.func43, Try.ntmps43
  go_wp2_with fail
  go_quiet ((first
    | (go_at_call 32; exact quiet_left (L1.out _ (H.out.d.drewN _)))
    | (go_at_call 39; exact quiet_left (L2.out _ (H.out.d.drewN _)))
    | (go_at_call 40; exact quiet_left (L3.out _ (H.out.d.drewN _)))))
  go_wp2_with fail
  go_loopw [41] (fun v wr => ∃ i : Nat, i ≤ n ∧ v = .int .i64 i ∧ Below w.heap.size w wr) (fun v _ => n - (intOf v).toNat)
  case atStart => exact ⟨0, by omega, rfl, ⟨rfl, rfl, rfl, Nat.le_refl _, fun _ _ => rfl⟩⟩
  case round =>
    obtain ⟨i, hi, rfl, hbel⟩ := hrel
    have HBel := Lib.hid hbel
    clear hbel c0 c2 c4
    by_cases hlt : i < n
    · obtain ⟨E, hE⟩ : ∃ E, E = D.readErr (i : Int) := ⟨_, rfl⟩
      obtain ⟨X, hX⟩ : ∃ X, X = D.rd (i : Int) := ⟨_, rfl⟩
      have hr1 := ReadB_any p r s cr cs D (i : Int) _ (H.out.below HBel.out).d
      have hr2 := fun (W : World) (hW : RefAt W T m A B cA cB D) => RefReadB_any W T m A B cA cB D (i : Int) hW
      rw [← hE, ← hX] at hr1
      simp only [← hE, ← hX] at hr2
      have HR1 := Lib.hid hr1
      have HR2 := Lib.hid hr2
      clear hE hX hr1 hr2
      go_wp2_with (first
        | (go_at_call 31
           refine HR1.out.mono ?_
           rintro e w4 ⟨A4, n4, k4, rfl, hbt4, hb4⟩
           have HB4 : Hid (Below w.heap.size w w4) := Lib.hid (HBel.out.trans (hb4.mono HBel.out.size))
           have HBt4 := Lib.hid hbt4
           clear hb4 hbt4 HR1)
        | (go_at_call 67
           refine (HR2.out _ (H.out.below HB4.out).ref).mono ?_
           rintro e w5 ⟨A5, n5, k5, rfl, hbt5, hb5⟩
           have hcx : (convert 22 9 (.slice A4 n4 k4)).run Try.prog w5 = .ok (.string (strOf X)) w5 := (HBt4.out.below hb5).to_string 22 9 5 k4 Try.underlying22 Try.underlying5 Try.underlying9
           have hcy : (convert 22 9 (.slice A5 n5 k5)).run Try.prog w5 = .ok (.string (strOf X)) w5 := hbt5.to_string 22 9 5 k5 Try.underlying22 Try.underlying5 Try.underlying9
           have HB5 : Hid (Below w.heap.size w w5) := Lib.hid (HB4.out.trans (hb5.mono HB4.out.size))
           generalize strOf X = S at hcx hcy
           clear hb5 hbt5 HR2))
      go_roundw
      case rel => exact ⟨i + 1, by omega, by go_num, HB5.out⟩
      case measure => simp [intOf]; omega
    · go_wp2_with fail
      go_ret
      exact ⟨rfl, HBel.out⟩
end Go.Proofs.Ytiiegimnnngnnaa
