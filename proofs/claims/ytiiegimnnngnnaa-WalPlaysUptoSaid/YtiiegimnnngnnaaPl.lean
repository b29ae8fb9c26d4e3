/- WalPlays: a log on a disk, the reference's disk, marks: where they lie. -/
import Derived.Test.YtiiegimnnngnnaaWalOrderWalk
import Derived.Test.YtiiegimnnngnnaaRef5
import Derived.Test.YtiiegimnnngnnaaWl7
import Derived.Test.YtiiegimnnngnnaaRec
import Derived.Test.YtiiegimnnngnnaaAll
namespace Go.Proofs.Ytiiegimnnngnnaa
open Go.RowKit Go.Sort
set_option linter.unusedVariables false

theorem own_pl {w : World} {base n c g : Nat} {e : TypeId} {A : Option Addr} {xs : List Value} (h : w.ownsRow base e 1 (.slice A n c) n xs) (hA : A = some ⟨g, 0, none⟩) : base ≤ g ∧ ∃ C, Blk w g e C := by
  subst hA
  rcases h.2 with ⟨h0, _⟩ | ⟨g', cap, cur, hv, hg, hh, _⟩
  · cases h0
  · cases hv
    exact ⟨hg, cur, hh⟩
def pT (p r s g l m mb : Nat) (A B : Option Addr) : Nat → Prop := fun k => aT p r s g l k ∨ rT m A B k ∨ k = mb
/-- The blocks lie apart. -/
structure Apart (b0 p r s g l m mb : Nat) (A B : Option Addr) : Prop where
  ra : ∀ k, rT m A B k → ¬ aT p r s g l k
  rm : ∀ k, rT m A B k → k ≠ mb
  am : ¬ aT p r s g l mb
  lo : ∀ k, pT p r s g l m mb A B k → b0 ≤ k
structure Pb (w0 w : World) (p r s cr g cap l m mb : Nat) (A B : Option Addr) (cA cB : Nat) (D Dm : Dk) (L : Wl.Lg) (M : Nat → Nat) : Prop where
  sys : Sys w p r s cr cr l g cap D L
  ref : RefAt w (pT p r s g l m mb A B) m A B cA cB Dm
  mrk : Sect w mb 5 1 M
  mlt : ∀ k, M k < 256
  lt : ∀ k, pT p r s g l m mb A B k → k < w.heap.size
  bel : Below w0.heap.size w0 w
namespace Pb
variable {w0 w w' : World} {p r s cr g cap l m mb : Nat} {A B : Option Addr} {cA cB : Nat} {D Dm D' Dm' : Dk} {L L' : Wl.Lg} {M : Nat → Nat}
theorem below (h : Pb w0 w p r s cr g cap l m mb A B cA cB D Dm L M) (hb : Below w.heap.size w w') : Pb w0 w' p r s cr g cap l m mb A B cA cB D Dm L M :=
  ⟨h.sys.below hb, h.ref.below hb, h.mrk.of_block (hb.block _ h.mrk.lt), h.mlt, fun k hk => Nat.lt_of_lt_of_le (h.lt k hk) hb.size, h.bel.trans (hb.mono h.bel.size)⟩
theorem refw (h : Pb w0 w p r s cr g cap l m mb A B cA cB D Dm L M) (ha : Apart w0.heap.size p r s g l m mb A B) (hu : Upd (rT m A B) w w') (hr : RefAt w' (pT p r s g l m mb A B) m A B cA cB Dm') : Pb w0 w' p r s cr g cap l m mb A B cA cB D Dm' L M :=
  ⟨h.sys.upd hu (fun k hk => by
      have := ha.ra k hk
      refine ⟨?_, ?_, ?_, ?_, ?_⟩ <;> rintro rfl
      · exact this (.inl (.inl (.inl rfl)))
      · exact this (.inl (.inl (.inr (.inl rfl))))
      · exact this (.inl (.inl (.inr (.inr rfl))))
      · exact this (.inr rfl)
      · exact this (.inl (.inr rfl))),
    hr, h.mrk.upd hu (fun hk => ha.rm _ hk rfl), h.mlt, fun k hk => Nat.lt_of_lt_of_le (h.lt k hk) hu.size, h.bel.trans (hu.below (fun k hk => ha.lo k (.inr (.inl hk))) h.bel.size)⟩
theorem put (h : Pb w0 w p r s cr g cap l m mb A B cA cB D Dm L M) (ha : Apart w0.heap.size p r s g l m mb A B) (i x : Nat) (hx : x < 256) : Pb w0 (w.setCell ⟨mb, i, none⟩ (.int .u8 ((x : Nat) : Int))) p r s cr g cap l m mb A B cA cB D Dm L (fun j => if j = i then x else M j) := by
  have hu : Upd (fun k => k = mb) w (w.setCell ⟨mb, i, none⟩ (.int .u8 ((x : Nat) : Int))) := ((Upd.refl (fun k => k = mb) w).setCell (p := ⟨mb, i, none⟩) (.inl rfl) _)
  refine ⟨h.sys.upd hu (fun k hk => ?_), h.ref.upd hu (fun k _ e => .inr (.inr e)) (fun k hk e => ha.rm k hk e), h.mrk.set i x, fun k => ?_, fun k hk => Nat.lt_of_lt_of_le (h.lt k hk) hu.size, h.bel.trans (hu.below (fun k hk => ha.lo k (.inr (.inr hk))) h.bel.size)⟩
  · subst hk
    refine ⟨?_, ?_, ?_, ?_, ?_⟩ <;> rintro rfl
    · exact ha.am (.inl (.inl (.inl rfl)))
    · exact ha.am (.inl (.inl (.inr (.inl rfl))))
    · exact ha.am (.inl (.inl (.inr (.inr rfl))))
    · exact ha.am (.inr rfl)
    · exact ha.am (.inl (.inr rfl))
  · split
    · exact hx
    · exact h.mlt k
theorem app (h : Pb w0 w p r s cr g cap l m mb A B cA cB D Dm L M) (ha : Apart w0.heap.size p r s g l m mb A B) (hu : Upd (aT p r s g l) w w') (hs : Sys w' p r s cr cr l g cap D' L') : Pb w0 w' p r s cr g cap l m mb A B cA cB D' Dm L' M :=
  ⟨hs, h.ref.upd hu (fun k _ hk => .inl hk) (fun k hk hk2 => ha.ra k hk hk2), h.mrk.upd hu ha.am, h.mlt, fun k hk => Nat.lt_of_lt_of_le (h.lt k hk) hu.size, h.bel.trans (hu.below (fun k hk => ha.lo k (.inl hk)) h.bel.size)⟩
theorem marks (h : Pb w0 w p r s cr g cap l m mb A B cA cB D Dm L M) {M' : Nat → Nat} (e : ∀ k, k < 64 → M k = M' k) (hM : ∀ k, M' k < 256) : Pb w0 w p r s cr g cap l m mb A B cA cB D Dm L M' :=
  ⟨h.sys, h.ref, h.mrk.congr (fun i hi => e i (by omega)), hM, h.lt, h.bel⟩
theorem mbytes (h : Pb w0 w p r s cr g cap l m mb A B cA cB D Dm L M) : Bytes w (some ⟨mb, 0, none⟩) 64 (Wl.part M 0 64) :=
  ⟨Wl.part_len _ _ _, Wl.part_lt h.mlt _ _, fun _ => ⟨mb, 0, rfl, h.mrk.lt, fun k hk => by
    rw [Nat.zero_add, h.mrk.cell (by omega), Wl.part_getD _ _ _ _ hk, Nat.zero_add]⟩⟩
end Pb
theorem noughts_sect (w : World) (g : Nat) (h : Blk w g 5 (noughts 64)) : Sect w g 5 1 (fun _ => 0) := by
  refine ⟨_, h, by simp [noughts], fun i hi => ?_⟩
  rw [Nat.mul_one] at hi
  have : ∀ n : Nat, i < n → (noughts n)[i]? = some (.int .u8 0) := fun n hn => by unfold noughts; rw [List.getElem?_toArray, List.getElem?_replicate, if_pos hn]
  exact this 64 hi
/-- At the start. -/
theorem Pb.start {w w1 w2 w3 w4 : World} {p r s l g cap m n : Nat} {A B : Option Addr} {cA cB : Nat} {xs ys : List Value} {D3 : Dk} {L : Wl.Lg} (hn : n ≤ 4096) (hd : DiskAt w1 p r s n n (Dk.new n)) (hb : Below w.heap.size w w1) (hp : w.heap.size ≤ p ∧ w.heap.size ≤ r ∧ w.heap.size ≤ s)
    (h : RN w1 w2 m n n A B cA cB xs ys) (hu3 : Upd (dT p r s) w2 w3) (hd3 : DiskAt w3 p r s n n D3) (hb4 : Below w3.heap.size w3 w4) (hl4 : LogAt w4 l g cap p L) (h1 : w3.heap.size ≤ l) (h2 : w3.heap.size ≤ g) :
    Apart w.heap.size p r s g l m w4.heap.size A B ∧ Pb w (w4.alloc (.cells (noughts 64) 5)) p r s n g cap l m w4.heap.size A B cA cB D3 (Dk.new n) L (fun _ => 0) := by
  have hl := hd.lt
  have hb2 : Below w.heap.size w w2 := hb.trans (h.bel.mono hb.size)
  have hrt : ∀ k, rT m A B k → w1.heap.size ≤ k := by
    rintro k (rfl | e | e)
    · exact h.mem
    · exact (own_pl h.own1 e).1
    · exact (own_pl h.own2 e).1
  have hs12 := h.bel.size
  have hs23 := hu3.size
  have hs34 := hb4.size
  have hrl : ∀ k, rT m A B k → k < w2.heap.size := by
    rintro k (rfl | e | e)
    · exact h.blk.lt
    · obtain ⟨C, hC⟩ := (own_pl h.own1 e).2; exact hC.lt
    · obtain ⟨C, hC⟩ := (own_pl h.own2 e).2; exact hC.lt
  have hll := hl4.blk.lt
  have hgl := hl4.marks.lt
  have hap : Apart w.heap.size p r s g l m w4.heap.size A B := by
    refine ⟨fun k hk hk2 => ?_, fun k hk e => ?_, fun hk => ?_, fun k hk => ?_⟩
    · have a1 := hrt k hk
      have a2 := hrl k hk
      rcases hk2 with (hk2 | hk2) | hk2
      · rcases hk2 with rfl | rfl | rfl <;> omega
      · omega
      · omega
    · have a2 := hrl k hk
      omega
    · rcases hk with (hk2 | hk2) | hk2
      · rcases hk2 with e | e | e <;> omega
      · omega
      · omega
    · have hbs := hb.size
      rcases hk with ((hk2 | hk2) | hk2) | hk2 | hk2
      · rcases hk2 with rfl | rfl | rfl
        · exact hp.1
        · exact hp.2.1
        · exact hp.2.2
      · omega
      · omega
      · have := hrt k hk2; omega
      · omega
  have hN : ∀ g' C, w1.heap.size ≤ g' → Blk w2 g' 5 C → ¬ pT p r s g l m w4.heap.size A B g' := by
    rintro g' C hg hC hk
    have hgl2 := hC.lt
    rcases hk with ((hk2 | hk2) | hk2) | hk2 | hk2
    · rcases hk2 with rfl | rfl | rfl <;> omega
    · omega
    · omega
    · rcases hk2 with rfl | e | e
      · exact hC.ne_ h.blk (by decide) rfl
      · obtain ⟨C', hC'⟩ := (own_pl h.own1 e).2
        exact hC.ne_ hC' (by decide) rfl
      · obtain ⟨C', hC'⟩ := (own_pl h.own2 e).2
        exact hC.ne_ hC' (by decide) rfl
    · omega
  have hr2 := h.ref hn (pT p r s g l m w4.heap.size A B) (fun k hk => .inr (.inl hk)) hN
  have hr3 := hr2.upd hu3 (fun k _ hk => .inl (.inl (.inl hk))) (fun k hk hk2 => hap.ra k hk (.inl (.inl hk2)))
  have hal : Below w4.heap.size w4 (w4.alloc (.cells (noughts 64) 5)) := (Below.refl _ _).alloc (Nat.le_refl _) _
  refine ⟨hap, (opened hd3 hb4 hl4 h1 h2).below hal, (hr3.below hb4).below hal, noughts_sect _ _ (Blk.new _ _ _), fun k => by simp, fun k hk => ?_, ?_⟩
  · rw [World.size_alloc]
    have h3 := hd3.lt
    rcases hk with ((hk2 | hk2) | hk2) | hk2 | hk2
    · rcases hk2 with rfl | rfl | rfl <;> omega
    · omega
    · omega
    · have := hrl k hk2; omega
    · omega
  · have b3 := hb2.trans (hu3.below (dT_far hp) hb2.size)
    have b4 := b3.trans (hb4.mono b3.size)
    exact b4.trans (hal.mono b4.size)
end Go.Proofs.Ytiiegimnnngnnaa
