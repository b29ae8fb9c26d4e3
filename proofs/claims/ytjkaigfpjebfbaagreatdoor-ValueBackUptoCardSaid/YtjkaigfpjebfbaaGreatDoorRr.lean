/- relation's reader: is, word. -/
import Derived.Test.YtjkaigfpjebfbaaGreatDoorRm
import Derived.Test.YtjkaigfpjebfbaaGreatDoorRw2
namespace Go.Proofs.YtjkaigfpjebfbaaGreatDoor
open Go.RowKit
set_option linter.unusedVariables false

/-- The slice at A, of n texts, reads as T. -/
def Txts (w : World) (A : Option Addr) (n : Nat) (T : List Rl.Bs) : Prop :=
  T.length = n ∧ (0 < n → ∃ b o, A = some ⟨b, o, none⟩ ∧ b < w.heap.size ∧ ∀ k, k < n → w.cell? ⟨b, o + k, none⟩ = some (.string (Rl.tob (T.getD k []))))
theorem Txts.nil (w : World) (A : Option Addr) : Txts w A 0 [] := ⟨rfl, fun h => absurd h (by omega)⟩
theorem Txts.upd {P : Nat → Prop} {w w' : World} {A : Option Addr} {n : Nat} {T : List Rl.Bs} (h : Txts w A n T) (hu : Upd P w w') (hP : ∀ b o, A = some ⟨b, o, none⟩ → 0 < n → ¬ P b) : Txts w' A n T :=
  ⟨h.1, fun h0 => by
    obtain ⟨b, o, e, hl, hc⟩ := h.2 h0
    exact ⟨b, o, e, Nat.lt_of_lt_of_le hl hu.size, fun k hk => (hu.cell hl (hP b o e h0)).trans (hc k hk)⟩⟩
/-- A reader: what words are still to read. -/
structure RdAt (w : World) (q M : Nat) (A : Option Addr) (n c : Nat) (T : List Rl.Bs) : Prop where
  blk : Blk w q 122 #[.slice A n c]
  tx : Txts w A n T
  cap : n ≤ c
  lo : q < M ∧ ∀ b o, A = some ⟨b, o, none⟩ → b < M
theorem RdAt.ne {w : World} {q M : Nat} {A : Option Addr} {n c : Nat} {T : List Rl.Bs} (h : RdAt w q M A n c T) : ∀ b o, A = some ⟨b, o, none⟩ → 0 < n → b ≠ q := by
  intro b o e h0 hb
  obtain ⟨b', o', e', _, hc⟩ := h.tx.2 h0
  rw [e] at e'
  injection e' with e'
  injection e' with e1 e2
  subst e1 e2 hb
  have := hc 0 h0
  rw [h.blk.cell (o + 0)] at this
  rcases o with _ | o
  · simp at this
  · simp at this
theorem RdAt.upd {P : Nat → Prop} {w w' : World} {q M : Nat} {A : Option Addr} {n c : Nat} {T : List Rl.Bs} (h : RdAt w q M A n c T) (hu : Upd P w w') (hq : ¬ P q) (hP : ∀ b o, A = some ⟨b, o, none⟩ → 0 < n → ¬ P b) : RdAt w' q M A n c T :=
  ⟨h.blk.upd hu hq, h.tx.upd hu hP, h.cap, h.lo⟩
theorem RdAt.below {w w' : World} {q M : Nat} {A : Option Addr} {n c : Nat} {T : List Rl.Bs} (h : RdAt w q M A n c T) (hb : Below w.heap.size w w') : RdAt w' q M A n c T :=
  h.upd (Upd.of_below hb (T := fun k => w.heap.size ≤ k) (fun _ _ h => h)) (by have := h.blk.lt; omega) (fun b o e h0 => by
    obtain ⟨b', o', e', hl, _⟩ := h.tx.2 h0
    rw [e] at e'
    injection e' with e'
    injection e' with e1 e2
    omega)
theorem txt_eqv (x t : Rl.Bs) : ((Rl.tob x).toList == (Rl.tob t).toList) = decide (x = t) := by
  rw [str_eqv, Bool.eq_iff_iff, decide_eq_true_eq, decide_eq_true_eq]
  exact ⟨fun h => by have := congrArg bl h; exact this, fun h => by rw [h]⟩
/-- A word read: the reader goes on behind it. -/
theorem RdAt.step {w : World} {q M b o c n : Nat} {x : Rl.Bs} {T : List Rl.Bs} (h : RdAt w q M (some ⟨b, o, none⟩) (n + 1) c (x :: T)) (A' : Option Addr) (hA : A' = if c = 1 then some ⟨b, o, none⟩ else some ⟨b, o + 1, none⟩) :
    RdAt (w.setCell ⟨q, 0, none⟩ (.slice A' n (c - 1))) q M A' n (c - 1) T := by
  have hu : Upd (fun k => k = q) w (w.setCell ⟨q, 0, none⟩ (.slice A' n (c - 1))) := (Upd.refl (fun k => k = q) w).setCell (p := ⟨q, 0, none⟩) (.inl rfl) _
  have hcap := h.cap
  have hl : T.length = n := by have := h.tx.1; simpa using this
  refine ⟨by have := h.blk.set_ 0 (.slice A' n (c - 1)); simpa using this, ⟨hl, fun h0 => ?_⟩, by omega, h.lo.1, fun b' o' e => ?_⟩
  · obtain ⟨b', o', e', hb, hc⟩ := h.tx.2 (by omega)
    injection e' with e'
    injection e' with e1 e2
    subst e1 e2
    rw [if_neg (by omega)] at hA
    refine ⟨b, o + 1, hA, Nat.lt_of_lt_of_le hb hu.size, fun k hk => ?_⟩
    rw [hu.cell hb (fun e => h.ne b o rfl (by omega) e), show o + 1 + k = o + (k + 1) by omega, hc (k + 1) (by omega)]
    rfl
  · rw [hA] at e
    have : b' = b := by
      split at e
      · injection e with e; injection e with e _; exact e.symm
      · injection e with e; injection e with e _; exact e.symm
    rw [this]
    exact h.lo.2 b o rfl
set_option maxRecDepth 100000 in
set_option maxHeartbeats 1000000 in
theorem is_any (q M : Nat) (A : Option Addr) (n c : Nat) (T : List Rl.Bs) (t : Rl.Bs) (w : World) (h : RdAt w q M A n c T) (hn : n ≤ 4294967296) :
    Calls Tryz.prog 85 #[.pointer (some ⟨q, 0, none⟩), .string (Rl.tob t)] w fun e w' => Upd (fun k => k = q) w w' ∧ match Rl.isT t T with
      | none => e = .returned (.bool false) ∧ w' = w
      | some T' => e = .returned (.bool true) ∧ ∃ A' n' c', RdAt w' q M A' n' c' T' ∧ n' ≤ n := by
  have k0 : w.cell? ⟨q, 0, none⟩ = some (.slice A n c) := h.blk.cell 0
  have f0 : w.frozen? ⟨q, 0, none⟩ = false := h.blk.frozen 0
  have HR := Lib.hid h
  have hl := h.tx.1
  cases T with
  | nil =>
    have hn0 : n = 0 := hl.symm
    subst hn0
    clear h hl
    go_enter Tryz.func85, Tryz.ntmps85
    go_wp2_with fail
    go_ret
    exact ⟨Upd.refl _ _, rfl, rfl⟩
  | cons x T =>
    obtain ⟨m, hm⟩ : ∃ m, n = m + 1 := ⟨T.length, by rw [← hl]; simp⟩
    subst hm
    obtain ⟨b, o, hA, hbl, hc⟩ := h.tx.2 (by omega)
    subst hA
    have kx : w.cell? ⟨b, o, none⟩ = some (.string (Rl.tob x)) := hc 0 (by omega)
    obtain ⟨X, hX⟩ : ∃ X, X = Rl.tob x := ⟨_, rfl⟩
    obtain ⟨S, hS⟩ : ∃ S, S = Rl.tob t := ⟨_, rfl⟩
    have heq := txt_eqv x t
    rw [← hX, ← hS] at heq
    rw [← hX] at kx
    rw [← hS]
    have hcap := h.cap
    have i1 : (0 : Int) < ((m : Int) + 1) := by omega
    have nz : (((m : Int) + 1) == 0) = false := by rw [beq_eq_false_iff_ne]; omega
    have i2 : (1 : Int) ≤ (m : Int) + 1 := by omega
    have i3 : (m : Int) + 1 ≤ (c : Int) := by omega
    have HS1 : Hid (c = 1 → RdAt (w.setCell ⟨q, 0, none⟩ (.slice (some ⟨b, o, none⟩) m 0)) q M (some ⟨b, o, none⟩) m 0 T) := Lib.hid (fun e => by
      have := HR.out.step (some ⟨b, o, none⟩) (by rw [if_pos e])
      rw [e] at this
      exact this)
    have HS2 : Hid (¬ c = 1 → RdAt (w.setCell ⟨q, 0, none⟩ (.slice (some ⟨b, o + 1, none⟩) m (c - 1))) q M (some ⟨b, o + 1, none⟩) m (c - 1) T) := Lib.hid (fun e => HR.out.step _ (by rw [if_neg e]))
    have hup : ∀ u, Upd (fun k => k = q) w (w.setCell ⟨q, 0, none⟩ u) := fun u => (Upd.refl (fun k => k = q) w).setCell (p := ⟨q, 0, none⟩) (.inl rfl) u
    have HUP := Lib.hid hup
    clear hup
    clear hc hbl hX hS h hl
    show Calls _ _ _ _ fun e w' => Upd (fun k => k = q) w w' ∧ match (if x = t then some T else none) with | none => _ | some T' => _
    by_cases hxt : x = t
    · rw [decide_eq_true hxt] at heq
      rw [if_pos hxt]
      clear hxt
      go_enter Tryz.func85, Tryz.ntmps85
      go_wp2_with fail
      all_goals
        go_ret
        first
          | exact ⟨HUP.out _, rfl, _, m, ⟨_, HS1.out (by assumption)⟩, Nat.le_succ _⟩
          | exact ⟨HUP.out _, rfl, _, m, ⟨_, HS2.out (by assumption)⟩, Nat.le_succ _⟩
    · rw [decide_eq_false hxt] at heq
      rw [if_neg hxt]
      clear hxt
      go_enter Tryz.func85, Tryz.ntmps85
      go_wp2_with fail
      go_ret
      exact ⟨Upd.refl _ _, rfl, rfl⟩
theorem is_any2 (q M : Nat) (A : Option Addr) (n c : Nat) (T : List Rl.Bs) (t : Rl.Bs) (w : World) (h : RdAt w q M A n c T) (hn : n ≤ 4294967296) :
    Calls Tryz.prog 85 #[.pointer (some ⟨q, 0, none⟩), .string (Rl.tob t)] w fun e w' => e = .returned (.bool (Rl.isT t T).isSome) ∧ Upd (fun k => k = q) w w' ∧ ∃ A' n' c', RdAt w' q M A' n' c' ((Rl.isT t T).getD T) ∧ n' ≤ n :=
  (is_any q M A n c T t w h hn).mono fun e w' ⟨hu, hr⟩ => by
    cases hi : Rl.isT t T with
    | none =>
      rw [hi] at hr
      obtain ⟨rfl, rfl⟩ := hr
      exact ⟨rfl, hu, A, n, c, h, Nat.le_refl _⟩
    | some T' =>
      rw [hi] at hr
      obtain ⟨rfl, A', n', c', hr, hn'⟩ := hr
      exact ⟨rfl, hu, A', n', c', hr, hn'⟩
set_option maxRecDepth 100000 in
set_option maxHeartbeats 1000000 in
theorem word_any (q M : Nat) (A : Option Addr) (n c : Nat) (T : List Rl.Bs) (w : World) (h : RdAt w q M A n c T) (hn : n ≤ 4294967296) :
    Calls Tryz.prog 114 #[.pointer (some ⟨q, 0, none⟩)] w fun e w' => e = .returned (.string (Rl.tob (Rl.wordT T).1)) ∧ Upd (fun k => k = q) w w' ∧ ∃ A' n' c', RdAt w' q M A' n' c' (Rl.wordT T).2 ∧ n' ≤ n := by
  have k0 : w.cell? ⟨q, 0, none⟩ = some (.slice A n c) := h.blk.cell 0
  have f0 : w.frozen? ⟨q, 0, none⟩ = false := h.blk.frozen 0
  have HR := Lib.hid h
  have hl := h.tx.1
  cases T with
  | nil =>
    have hn0 : n = 0 := hl.symm
    subst hn0
    clear h hl
    go_enter Tryz.func114, Tryz.ntmps114
    go_wp2_with fail
    go_ret
    exact ⟨rfl, Upd.refl _ _, A, 0, c, HR.out, Nat.le_refl _⟩
  | cons x T =>
    obtain ⟨m, hm⟩ : ∃ m, n = m + 1 := ⟨T.length, by rw [← hl]; simp⟩
    subst hm
    obtain ⟨b, o, hA, hbl, hc⟩ := h.tx.2 (by omega)
    subst hA
    have kx : w.cell? ⟨b, o, none⟩ = some (.string (Rl.tob x)) := hc 0 (by omega)
    obtain ⟨X, hX⟩ : ∃ X, X = Rl.tob x := ⟨_, rfl⟩
    rw [← hX] at kx
    have hcap := h.cap
    have i1 : (0 : Int) < ((m : Int) + 1) := by omega
    have nz : (((m : Int) + 1) == 0) = false := by rw [beq_eq_false_iff_ne]; omega
    have i2 : (1 : Int) ≤ (m : Int) + 1 := by omega
    have i3 : (m : Int) + 1 ≤ (c : Int) := by omega
    have HX := Lib.hid hX
    have HS1 : Hid (c = 1 → RdAt (w.setCell ⟨q, 0, none⟩ (.slice (some ⟨b, o, none⟩) m 0)) q M (some ⟨b, o, none⟩) m 0 T) := Lib.hid (fun e => by
      have := HR.out.step (some ⟨b, o, none⟩) (by rw [if_pos e])
      rw [e] at this
      exact this)
    have HS2 : Hid (¬ c = 1 → RdAt (w.setCell ⟨q, 0, none⟩ (.slice (some ⟨b, o + 1, none⟩) m (c - 1))) q M (some ⟨b, o + 1, none⟩) m (c - 1) T) := Lib.hid (fun e => HR.out.step _ (by rw [if_neg e]))
    have hup : ∀ u, Upd (fun k => k = q) w (w.setCell ⟨q, 0, none⟩ u) := fun u => (Upd.refl (fun k => k = q) w).setCell (p := ⟨q, 0, none⟩) (.inl rfl) u
    have HUP := Lib.hid hup
    clear hup
    clear hc hbl hX h hl
    show Calls _ _ _ _ fun e w' => e = .returned (.string (Rl.tob x)) ∧ Upd (fun k => k = q) w w' ∧ ∃ A' n' c', RdAt w' q M A' n' c' T ∧ n' ≤ m + 1
    go_enter Tryz.func114, Tryz.ntmps114
    go_wp2_with fail
    all_goals
      go_ret
      first
        | exact ⟨by rw [← HX.out]; rfl, HUP.out _, _, m, ⟨_, HS1.out (by assumption)⟩, Nat.le_succ _⟩
        | exact ⟨by rw [← HX.out]; rfl, HUP.out _, _, m, ⟨_, HS2.out (by assumption)⟩, Nat.le_succ _⟩
end Go.Proofs.YtjkaigfpjebfbaaGreatDoor
