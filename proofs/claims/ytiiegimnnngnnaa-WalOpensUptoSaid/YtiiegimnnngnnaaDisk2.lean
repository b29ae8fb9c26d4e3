/- More contracts of package disk: Len, Calls, Down, Fuse, may, Write, Flush, Read. -/
import Derived.Test.YtiiegimnnngnnaaDisk
import Derived.WalkSpells
namespace Go.Proofs.Ytiiegimnnngnnaa
open Go.RowKit Go.Sort
set_option linter.unusedVariables false

theorem byte_row : (Try.prog.info? 5).map (fun i => (i.zero, i.size, i.bytes)) = some (some (.int .u8 0), 1, 1) := by kernel_rfl
theorem sector_size : (Try.prog.info? 92).map (·.size) = some 64 := by kernel_rfl

theorem Len_any (p r s cr cs : Nat) (D : Dk) (w : World) (h : DiskAt w p r s cr cs D) :
    Calls Try.prog 32 #[.pointer (some ⟨p, 0, none⟩)] w fun e w' => e = .returned (.int .i64 (D.n : Int)) ∧ w = w' := by
  have c0 : w.cell? ⟨p, 0, none⟩ = some (.slice (some ⟨r, 0, none⟩) D.n cr) := h.1.cell 0
  clear h
  go_enter Try.func32, Try.ntmps32
  go_wp2
  go_ret
  exact ⟨rfl, rfl⟩
theorem Calls_any (p r s cr cs : Nat) (D : Dk) (w : World) (h : DiskAt w p r s cr cs D) :
    Calls Try.prog 39 #[.pointer (some ⟨p, 0, none⟩)] w fun e w' => e = .returned (.int .i64 (D.calls : Int)) ∧ w = w' := by
  have c0 : w.cell? ⟨p, 2, none⟩ = some (.int .i64 (D.calls : Int)) := h.1.cell 2
  clear h
  go_enter Try.func39, Try.ntmps39
  go_wp2
  go_ret
  exact ⟨rfl, rfl⟩
theorem Down_any (p r s cr cs : Nat) (D : Dk) (w : World) (h : DiskAt w p r s cr cs D) :
    Calls Try.prog 40 #[.pointer (some ⟨p, 0, none⟩)] w fun e w' => e = .returned (.bool D.down) ∧ w = w' := by
  have c0 : w.cell? ⟨p, 4, none⟩ = some (.bool D.down) := h.1.cell 4
  clear h
  generalize D.down = q at *
  cases q <;>
  · go_enter Try.func40, Try.ntmps40
    go_wp2
    go_ret
    exact ⟨rfl, rfl⟩
theorem Fuse_any (p r s cr cs : Nat) (D : Dk) (i : Int) (w : World) (h : DiskAt w p r s cr cs D) (hi : i ≤ 9223372036854775807) :
    Calls Try.prog 38 #[.pointer (some ⟨p, 0, none⟩), .int .i64 i] w fun e w' => e = .returned (.tuple #[]) ∧ DiskAt w' p r s cr cs (D.setFuse i) ∧ Upd (dT p r s) w w' := by
  have hok := h.ok.setFuse hi
  have hne := h.ne
  have c3 : w.cell? ⟨p, 3, none⟩ = some (.int .i64 (D.fuse : Int)) := h.1.cell 3
  have f3 := h.1.frozen 3
  obtain ⟨hb, hr, hs, hrs, hcr, hcs, _⟩ := h
  have HB := Lib.hid hb
  have HR := Lib.hid hr
  have HS := Lib.hid hs
  have HN := Lib.hid (And.intro hrs hne)
  clear hb hr hs hrs hne
  by_cases h0 : i ≤ 0
  · have hz : i.toNat = 0 := by omega
    have hz1 : ¬ (0 : Int) < i := by omega
    have HZ := Lib.hid hz
    clear hz
    go_enter Try.func38, Try.ntmps38
    go_wp2
    go_end0
    refine ⟨rfl, ⟨(HB.out.set_ 3 (.int .i64 0)).cast (by simp only [Dk.setFuse, HZ.out]; rfl), HR.out.far (Ne.symm HN.out.2.1) _, HS.out.far (Ne.symm HN.out.2.2) _, HN.out.1, hcr, hcs, hok⟩, (Upd.refl _ _).setCell (.inl (.inl rfl)) _⟩
  · have hz : ((i.toNat : Nat) : Int) = i := by omega
    have hz1 : (0 : Int) < i := by omega
    have HZ := Lib.hid hz
    clear hz
    go_enter Try.func38, Try.ntmps38
    go_wp2
    go_end0
    refine ⟨rfl, ⟨(HB.out.set_ 3 (.int .i64 i)).cast (by simp only [Dk.setFuse, HZ.out]; rfl), HR.out.far (Ne.symm HN.out.2.1) _, HS.out.far (Ne.symm HN.out.2.2) _, HN.out.1, hcr, hcs, hok⟩, (Upd.refl _ _).setCell (.inl (.inl rfl)) _⟩

theorem may_any (p r s cr cs : Nat) (D : Dk) (i : Int) (A : Option Addr) (l c : Nat) (w : World) (h : DiskAt w p r s cr cs D) :
    Calls Try.prog 64 #[.pointer (some ⟨p, 0, none⟩), .int .i64 i, .slice A l c] w fun e w' => e = .returned (.bool (D.may i l)) ∧ w = w' := by
  have c0 : w.cell? ⟨p, 0, none⟩ = some (.slice (some ⟨r, 0, none⟩) D.n cr) := h.1.cell 0
  clear h
  by_cases h1 : 0 ≤ i
  · by_cases h2 : i < (D.n : Int)
    · by_cases h3 : l = 64
      · have hm : D.may i l = true := by unfold Dk.may; simp [h1, h2, h3]
        have h3' : ((l : Int) == 64) = true := by simp; omega
        have HM := Lib.hid hm
        clear hm h3
        go_enter Try.func64, Try.ntmps64
        go_wp2
        go_ret
        exact ⟨ret_bool HM.out.symm, rfl⟩
      · have hm : D.may i l = false := by unfold Dk.may; simp [h3]
        have h3' : ((l : Int) == 64) = false := by simp; omega
        have HM := Lib.hid hm
        clear hm h3
        go_enter Try.func64, Try.ntmps64
        go_wp2
        go_ret
        exact ⟨ret_bool HM.out.symm, rfl⟩
    · have hm : D.may i l = false := by unfold Dk.may; simp [h2]
      have HM := Lib.hid hm
      clear hm
      go_enter Try.func64, Try.ntmps64
      go_wp2
      go_ret
      exact ⟨ret_bool HM.out.symm, rfl⟩
  · have hm : D.may i l = false := by unfold Dk.may; simp [h1]
    have HM := Lib.hid hm
    clear hm
    go_enter Try.func64, Try.ntmps64
    go_wp2
    go_ret
    exact ⟨ret_bool HM.out.symm, rfl⟩
end Go.Proofs.Ytiiegimnnngnnaa
