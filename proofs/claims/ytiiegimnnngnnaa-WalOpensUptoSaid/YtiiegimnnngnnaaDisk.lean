/- The contracts of package disk: each call makes of a disk what the plain law says, and turns no other memory. -/
import Derived.Test.YtiiegimnnngnnaaProg
import Derived.Test.YtiiegimnnngnnaaHeap
import Derived.Test.YtiiegimnnngnnaaDk
import Derived.Test.YtiiegimnnngnnaaQuiet
import Derived.Deep.RegionWith
import Derived.BigRegion
import Derived.StillTailTactics
import Derived.WalkLawsBesides
import Derived.Deep.OwnRows
namespace Go.Proofs.Ytiiegimnnngnnaa
open Go.RowKit Go.Sort
set_option linter.unusedVariables false

/-- At block p lies a disk: its sectors in the blocks r (as they read) and s (as they are sure). -/
def DiskAt (w : World) (p r s cr cs : Nat) (D : Dk) : Prop :=
  Blk w p 90 #[.slice (some ⟨r, 0, none⟩) D.n cr, .slice (some ⟨s, 0, none⟩) D.n cs, .int .i64 (D.calls : Int), .int .i64 (D.fuse : Int), .bool D.down] ∧
    Sect w r 92 D.n D.R ∧ Sect w s 92 D.n D.S ∧ r ≠ s ∧ D.n ≤ cr ∧ D.n ≤ cs ∧ D.Ok
def dT (p r s : Nat) : Nat → Prop := fun k => k = p ∨ k = r ∨ k = s
theorem Blk.cast {w : World} {g : Nat} {t : TypeId} {cs cs' : Array Value} (h : Blk w g t cs) (e : cs = cs') : Blk w g t cs' := e ▸ h
namespace DiskAt
variable {w w' : World} {p r s cr cs : Nat} {D : Dk}
theorem ne (h : DiskAt w p r s cr cs D) : p ≠ r ∧ p ≠ s := by
  obtain ⟨hb, ⟨C, hr, _⟩, ⟨C', hs, _⟩, _⟩ := h
  exact ⟨hb.ne_ hr (by decide), hb.ne_ hs (by decide)⟩
theorem ok (h : DiskAt w p r s cr cs D) : D.Ok := h.2.2.2.2.2.2
theorem lt (h : DiskAt w p r s cr cs D) : p < w.heap.size ∧ r < w.heap.size ∧ s < w.heap.size := ⟨h.1.lt, h.2.1.lt, h.2.2.1.lt⟩
theorem upd {T : Nat → Prop} (h : DiskAt w p r s cr cs D) (hu : Upd T w w') (hp : ¬ T p) (hr : ¬ T r) (hs : ¬ T s) : DiskAt w' p r s cr cs D :=
  ⟨h.1.upd hu hp, h.2.1.upd hu hr, h.2.2.1.upd hu hs, h.2.2.2⟩
theorem drew (h : DiskAt w p r s cr cs D) : DiskAt w.drew p r s cr cs D := h
theorem drewN (h : DiskAt w p r s cr cs D) (n : Nat) : DiskAt (w.drewN n) p r s cr cs D := h
theorem below (h : DiskAt w p r s cr cs D) (hb : Below w.heap.size w w') : DiskAt w' p r s cr cs D := by
  have hu : Upd (fun k => w.heap.size ≤ k) w w' := Upd.of_below hb (fun _ _ h => h)
  have := h.lt
  exact h.upd hu (by omega) (by omega) (by omega)
end DiskAt

set_option maxHeartbeats 1000000 in
theorem change_any (p r s cr cs : Nat) (D : Dk) (w : World) (h : DiskAt w p r s cr cs D) (hc : D.calls < 4611686018427387904) :
    Calls Try.prog 63 #[.pointer (some ⟨p, 0, none⟩)] w fun e w' =>
      e = .returned (.tuple #[.bool D.down, .bool (!D.down && D.tick.down)]) ∧ DiskAt w' p r s cr cs D.tick ∧ Upd (dT p r s) w w' := by
  have hok := h.ok.tick hc
  have hfu := h.ok.fuse
  obtain ⟨hb, hr, hs, hne, hcr, hcs, _⟩ := h
  obtain ⟨n, R, S, calls, fuse, down⟩ := D
  simp only at *
  have c2 : w.cell? ⟨p, 2, none⟩ = some (.int .i64 (calls : Int)) := hb.cell 2
  have c3 : w.cell? ⟨p, 3, none⟩ = some (.int .i64 (fuse : Int)) := hb.cell 3
  have c4 : w.cell? ⟨p, 4, none⟩ = some (.bool down) := hb.cell 4
  have f2 := hb.frozen 2
  have f3 := hb.frozen 3
  have f4 := hb.frozen 4
  have hpr : p ≠ r := by obtain ⟨C, hr, _⟩ := hr; exact hb.ne_ hr (by decide)
  have hps : p ≠ s := by obtain ⟨C, hs, _⟩ := hs; exact hb.ne_ hs (by decide)
  have HB := Lib.hid hb
  have HR := Lib.hid hr
  have HS := Lib.hid hs
  have HN := Lib.hid (And.intro hne (And.intro hpr hps))
  clear hb hr hs hne hpr hps
  cases down
  · by_cases hf : fuse = 0
    · subst hf
      have e1 : Dk.tick ⟨n, R, S, calls, 0, false⟩ = ⟨n, R, S, calls + 1, 0, false⟩ := rfl
      rw [e1] at hok ⊢
      go_enter Try.func63, Try.ntmps63
      go_wp2
      go_region
      go_wp2_with fail
      go_ret2
      refine ⟨rfl, ⟨(HB.out.set_ 2 (.int .i64 ((calls : Int) + 1))).cast rfl, HR.out.far (Ne.symm HN.out.2.1) _, HS.out.far (Ne.symm HN.out.2.2) _, HN.out.1, hcr, hcs, hok⟩, ?_⟩
      exact ((Upd.refl _ _).setCell (.inl (.inl rfl)) _).drew
    · have e1 : Dk.tick ⟨n, R, S, calls, fuse, false⟩ = ⟨n, R, S, calls + 1, fuse - 1, fuse == 1⟩ := by unfold Dk.tick; simp [hf]
      rw [e1] at hok ⊢
      have hpos : (0 : Int) < (fuse : Int) := by omega
      have e2 : ((fuse : Int) - 1 == 0) = (fuse == 1) := by
        rw [Bool.eq_iff_iff, beq_iff_eq, beq_iff_eq]; omega
      have e3 : (fuse : Int) - 1 = ((fuse - 1 : Nat) : Int) := by omega
      have E3 := Lib.hid e3
      clear e3
      generalize (fuse == 1) = q at *
      go_enter Try.func63, Try.ntmps63
      go_wp2
      go_region
      go_wp2_with fail
      go_ret2
      refine ⟨rfl, ⟨?_, ((HR.out.far (Ne.symm HN.out.2.1) _).far (Ne.symm HN.out.2.1) _).far (Ne.symm HN.out.2.1) _, ((HS.out.far (Ne.symm HN.out.2.2) _).far (Ne.symm HN.out.2.2) _).far (Ne.symm HN.out.2.2) _, HN.out.1, hcr, hcs, hok⟩, ?_⟩
      · exact (((HB.out.set_ 2 (.int .i64 ((calls : Int) + 1))).set_ 3 (.int .i64 ((fuse : Int) - 1))).set_ 4 (.bool q)).cast (by rw [E3.out]; rfl)
      · exact ((((Upd.refl _ _).setCell (.inl (.inl rfl)) _).setCell (.inl (.inl rfl)) _).setCell (.inl (.inl rfl)) _).drew
  · have e1 : Dk.tick ⟨n, R, S, calls, fuse, true⟩ = ⟨n, R, S, calls + 1, fuse, true⟩ := rfl
    rw [e1] at hok ⊢
    go_enter Try.func63, Try.ntmps63
    go_wp2
    go_ret2
    refine ⟨rfl, ⟨(HB.out.set_ 2 (.int .i64 ((calls : Int) + 1))).cast rfl, HR.out.far (Ne.symm HN.out.2.1) _, HS.out.far (Ne.symm HN.out.2.2) _, HN.out.1, hcr, hcs, hok⟩, ?_⟩
    exact (Upd.refl _ _).setCell (.inl (.inl rfl)) _
end Go.Proofs.Ytiiegimnnngnnaa
