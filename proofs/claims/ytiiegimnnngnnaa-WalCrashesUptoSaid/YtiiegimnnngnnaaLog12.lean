/- wal: Append where the power may go. -/
import Derived.Test.YtiiegimnnngnnaaRows3
import Derived.Test.YtiiegimnnngnnaaWl6
import Derived.Test.YtiiegimnnngnnaaWalOrderWalk
namespace Go.Proofs.Ytiiegimnnngnnaa
open Go.RowKit
set_option linter.unusedVariables false

theorem Append_all (l g cap p r s cr cs : Nat) (D : Dk) (L : Wl.Lg) (rs : List (List Nat)) (A : Option Addr) (n c : Nat) (b : List Nat) (w : World) (h : Sys w p r s cr cs l g cap D L) (hh : Wl.Holds D L rs)
    (hb : Bytes w A n b) (hn : n ≤ 4294967296) (hc : D.calls + 200 < 4611686018427387904) :
    Calls Try.prog 50 #[.pointer (some ⟨l, 0, none⟩), .slice A n c] w fun e w' =>
      ∃ D' L' x, e = .returned (.int .i64 x) ∧ Sys w' p r s cr cs l g cap D' L' ∧ Upd (aT p r s g l) w w' ∧ D'.n = D.n ∧ D'.calls ≤ D.calls + 200 ∧ L'.fr = L.fr ∧ L'.to = L.to ∧ L'.next ≤ L'.to ∧ L'.n ≤ L.n + 1 ∧
        ((x = 2 ∧ 8192 < b.length ∧ D' = D ∧ L' = L) ∨ (x = 6 ∧ D' = D ∧ L' = L) ∨ (x = 0 ∧ Wl.Holds D' L' (rs ++ [b])) ∨ (x = 7 ∧ L'.failed = true ∧ Wl.Heals D' L.fr L.to (fun r => r = rs ∨ r = rs ++ [b]))) := by
  obtain ⟨D', L', x, e, hr⟩ := Wl.append_all (b := b) hh
  have hn4 := h.d.ok.n
  have h1 := hh.area.few
  have h2 := hh.area.nx
  have h3 := hh.area.fit
  have h4 := hh.area.lt
  have h5 := hh.n
  have := Append_any l g cap p r s cr cs D L A n c b w h.lg h.d h.lT h.gT hb hn hc (by omega) h2 (by omega) (by omega)
  rw [e] at this
  refine this.mono ?_
  rintro e w' ⟨rfl, hd', hl', hu⟩
  exact ⟨D', L', x, rfl, ⟨hd', hl', h.lT, h.gT⟩, hu, hr⟩
theorem Append_failed (l g cap p r s cr cs : Nat) (D : Dk) (L : Wl.Lg) (A : Option Addr) (n c : Nat) (b : List Nat) (w : World) (h : Sys w p r s cr cs l g cap D L) (hf : L.failed = true) (hm : L.n < 512) (hnx : L.next ≤ L.to) (hto : L.to ≤ 4096) (hfr : L.fr ≤ 4096)
    (hb : Bytes w A n b) (hn : n ≤ 4294967296) (hc : D.calls + 200 < 4611686018427387904) :
    Calls Try.prog 50 #[.pointer (some ⟨l, 0, none⟩), .slice A n c] w fun e w' =>
      e = .returned (.int .i64 (if 8192 < n then 2 else if L.to - L.next < Wl.need n then 6 else 13)) ∧ Sys w' p r s cr cs l g cap D L ∧ Upd (aT p r s g l) w w' := by
  have := Append_any l g cap p r s cr cs D L A n c b w h.lg h.d h.lT h.gT hb hn hc (by omega) hnx hto hfr
  rw [Wl.append_failed hf (by omega), hb.1] at this
  refine this.mono ?_
  rintro e w' ⟨rfl, hd', hl', hu⟩
  exact ⟨rfl, ⟨hd', hl', h.lT, h.gT⟩, hu⟩
theorem Crash_nil (p r s cr cs : Nat) (D : Dk) (w : World) (h : DiskAt w p r s cr cs D) :
    Calls Try.prog 37 #[.pointer (some ⟨p, 0, none⟩), .slice none 0 0] w fun e w' =>
      e = .returned (.tuple #[]) ∧ DiskAt w' p r s cr cs (D.crash []) ∧ Upd (dT p r s) w w' :=
  Crash_any p r s cr cs D none 0 0 [] w h (Bytes.nil w) (Nat.le_refl _) (Nat.zero_le _) (fun g o e => by cases e)
/-- A disk under a log changes: the log stays. -/
theorem Sys.disk {w w' : World} {p r s cr cs l g cap : Nat} {D D' : Dk} {L : Wl.Lg} (h : Sys w p r s cr cs l g cap D L) (hd : DiskAt w' p r s cr cs D') (hu : Upd (dT p r s) w w') : Sys w' p r s cr cs l g cap D' L :=
  ⟨hd, h.lg.upd hu h.lT h.gT, h.lT, h.gT⟩
end Go.Proofs.Ytiiegimnnngnnaa
