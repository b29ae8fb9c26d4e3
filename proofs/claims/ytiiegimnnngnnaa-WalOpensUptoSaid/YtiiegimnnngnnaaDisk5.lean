/- More contracts of package disk: Read (and slices.Clone at bytes). -/
import Derived.Test.YtiiegimnnngnnaaDisk4
namespace Go.Proofs.Ytiiegimnnngnnaa
open Go.RowKit Go.Sort
set_option linter.unusedVariables false

set_option maxRecDepth 100000 in
set_option maxHeartbeats 400000 in
theorem CloneB_any (g o n c : Nat) (bs : List Nat) (w : World) (hb : Bytes w (some ⟨g, o, none⟩) n bs) (hn : n ≤ 140737488355328) :
    Calls Try.prog 62 #[.slice (some ⟨g, o, none⟩) n c] w fun e w' => ∃ v, e = .returned v ∧ w'.ownsRow w.heap.size 5 1 v n (bs.map fun x => Value.int .u8 ((x : Nat) : Int)) ∧ Below w.heap.size w w' := by
  have HB := Lib.hid hb
  clear hb
  obtain ⟨i0, hi0, hz0, hz1, hz2⟩ := info_parts byte_row
  have hnil := fun (w : World) => Lib.run_eql_slice_nil (P := Try.prog) w 22 5 (some ⟨g, o, none⟩) n c 0 0 Try.underlying22
  go_enter Try.func62, Try.ntmps62
  go_wp2_with (
    (at_builtin
     have ho := own_empty w 5 1 w.heap.size rfl
     refine wpList_append_any _ rfl (.tmp 5) (.tmp 6) _ rfl w.heap.size 5 i0 _ 1 1 Try.underlying22 hi0 hz0 hz1 hz2 rfl (by omega) _ 0 [] rfl ho w.heap.size (some ⟨g, o, none⟩) n c _ rfl (HB.out.reads.alloc (Nat.le_refl _) _) (bytes_one bs) (by unfold maxLen; omega) (by omega) (by simp) ?_
     intro v1 w1 hown1 hg1 hat1
     have hb1 : Below w.heap.size w w1 := ((Below.refl _ _).alloc (Nat.le_refl _) _).grown hg1 (by simp) (fun k hk => (ho.lt k hk).1)
     rw [Nat.zero_add, List.nil_append] at hown1
     have HO := Lib.hid hown1
     clear ho hg1 hat1 hown1))
  go_ret
  exact ⟨v1, rfl, HO.out, hb1⟩

theorem DiskAt.bytes {w : World} {p r s cr cs : Nat} {D : Dk} (h : DiskAt w p r s cr cs D) (i : Nat) (hi : i < D.n) : Bytes w (some ⟨r, i * 64, none⟩) 64 (D.sector i) :=
  ⟨D.sector_length i, h.ok.sector i, fun _ => ⟨r, i * 64, rfl, h.lt.2.1, fun k hk => by
    rw [h.2.1.cell (by omega), D.sector_getD i k hk, Nat.mul_comm i 64]⟩⟩
set_option maxRecDepth 100000 in
set_option maxHeartbeats 1000000 in
theorem Read_any (p r s cr cs : Nat) (D : Dk) (i : Int) (w : World) (h : DiskAt w p r s cr cs D) :
    Calls Try.prog 31 #[.pointer (some ⟨p, 0, none⟩), .int .i64 i] w fun e w' =>
      ∃ v n bs, e = .returned (.tuple #[v, .int .i64 (D.readErr i)]) ∧ w'.ownsRow w.heap.size 5 1 v n (bs.map fun x => Value.int .u8 ((x : Nat) : Int)) ∧ Below w.heap.size w w' ∧
        (D.readErr i = 0 → n = 64 ∧ bs = D.sector i.toNat ∧ 0 ≤ i ∧ i < D.n) ∧ (D.readErr i ≠ 0 → v = .slice none 0 0 ∧ n = 0 ∧ bs = []) := by
  have HD := Lib.hid h
  have c0 : w.cell? ⟨p, 0, none⟩ = some (.slice (some ⟨r, 0, none⟩) D.n cr) := h.1.cell 0
  have c4 : w.cell? ⟨p, 4, none⟩ = some (.bool D.down) := h.1.cell 4
  have hby := fun (j : Nat) (hj : j < D.n) => CloneB_any r (j * 64) 64 64 (D.sector j) w (h.bytes j hj) (by omega)
  have HBy := Lib.hid hby
  clear h hby
  have none_ : ∀ x : Int, x ≠ 0 → ∀ (e : Ending) (w' : World), e = .returned (.tuple #[.slice none 0 0, .int .i64 x]) → w = w' → ∃ v n bs, e = .returned (.tuple #[v, .int .i64 x]) ∧ w'.ownsRow w.heap.size 5 1 v n ((bs : List Nat).map fun x => Value.int .u8 ((x : Nat) : Int)) ∧ Below w.heap.size w w' ∧
        (x = 0 → n = 64 ∧ bs = D.sector i.toNat ∧ 0 ≤ i ∧ i < D.n) ∧ (x ≠ 0 → v = .slice none 0 0 ∧ n = 0 ∧ bs = []) := by
    rintro x hx e _ rfl rfl
    exact ⟨.slice none 0 0, 0, [], rfl, World.ownsRow_nil _ _ _ _, Below.refl _ _, fun h => absurd h hx, fun _ => ⟨rfl, rfl, rfl⟩⟩
  have HNone := Lib.hid none_
  clear none_
  cases hd : D.down
  · by_cases h1 : 0 ≤ i
    · by_cases h2 : i < (D.n : Int)
      · obtain ⟨j, rfl⟩ := Int.eq_ofNat_of_zero_le h1
        have e2 : D.readErr (j : Int) = 0 := by unfold Dk.readErr; rw [hd]; simp; omega
        rw [e2]
        rw [hd] at c4
        have HJ := Lib.hid (HBy.out j (by omega))
        clear e2 hd HBy
        refine Calls.mono (R := fun e w' => ∃ v, e = .returned (.tuple #[v, .int .i64 0]) ∧ w'.ownsRow w.heap.size 5 1 v 64 ((D.sector j).map fun x => Value.int .u8 ((x : Nat) : Int)) ∧ Below w.heap.size w w') ?_ ?_
        · obtain ⟨Xs, hXs⟩ : ∃ Xs, Xs = D.sector j := ⟨_, rfl⟩
          rw [← hXs] at HJ ⊢
          have HXs := Lib.hid hXs
          clear hXs
          generalize D.n = n at *
          go_enter Try.func31, Try.ntmps31
          go_wp2_with (go_at_call 62; refine HJ.out.mono ?_; rintro e w1 ⟨v, rfl, hown, hbel⟩; have HO := Lib.hid hown; have HBel := Lib.hid hbel; clear hown hbel)
          go_ret2
          exact ⟨v, rfl, HO.out, HBel.out⟩
        · rintro e w' ⟨v, rfl, hown, hbel⟩
          exact ⟨v, 64, _, rfl, hown, hbel, fun _ => ⟨rfl, by simp, by omega, h2⟩, fun h => absurd rfl h⟩
      · have e2 : D.readErr i = 1 := by unfold Dk.readErr; rw [hd]; simp; omega
        rw [e2]
        rw [hd] at c4
        clear e2 hd HBy
        refine Calls.mono (R := fun e w' => e = .returned (.tuple #[.slice none 0 0, .int .i64 1]) ∧ w = w') ?_ (fun e w' h => HNone.out 1 (by decide) e w' h.1 h.2)
        generalize D.n = n at *
        go_enter Try.func31, Try.ntmps31
        go_wp2
        go_ret2
        exact ⟨rfl, rfl⟩
    · have e2 : D.readErr i = 1 := by unfold Dk.readErr; rw [hd]; simp; omega
      rw [e2]
      rw [hd] at c4
      clear e2 hd HBy
      refine Calls.mono (R := fun e w' => e = .returned (.tuple #[.slice none 0 0, .int .i64 1]) ∧ w = w') ?_ (fun e w' h => HNone.out 1 (by decide) e w' h.1 h.2)
      generalize D.n = n at *
      go_enter Try.func31, Try.ntmps31
      go_wp2
      go_ret2
      exact ⟨rfl, rfl⟩
  · have e2 : D.readErr i = 7 := by unfold Dk.readErr; rw [hd]; rfl
    rw [e2]
    rw [hd] at c4
    clear e2 hd HBy
    refine Calls.mono (R := fun e w' => e = .returned (.tuple #[.slice none 0 0, .int .i64 7]) ∧ w = w') ?_ (fun e w' h => HNone.out 7 (by decide) e w' h.1 h.2)
    generalize D.n = n at *
    go_enter Try.func31, Try.ntmps31
    go_wp2
    go_ret2
    exact ⟨rfl, rfl⟩
end Go.Proofs.Ytiiegimnnngnnaa
