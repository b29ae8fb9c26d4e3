/- Records on sectors: what a crash leaves. No program is named here. -/
import Derived.Test.YtiiegimnnngnnaaWl2
namespace Go.Proofs.Ytiiegimnnngnnaa
set_option linter.unusedVariables false
namespace Wl

theorem mix_bit {x y p : Nat} (hp : p < 256) (i : Nat) (hi : i < 8) : (Dk.mix x y p).testBit i = if p.testBit i = true then x.testBit i else y.testBit i := by
  unfold Dk.mix
  have e : (255 - p).testBit i = !p.testBit i := by
    have h := Nat.testBit_two_pow_sub_succ (x := p) (n := 8) (by omega) i
    rw [show 2 ^ 8 - (p + 1) = 255 - p by omega] at h
    rw [h]; simp [hi]
  rw [Nat.testBit_or, Nat.testBit_and, Nat.testBit_and, e]
  cases p.testBit i <;> simp
theorem eq_bits8 {x y : Nat} (hx : x < 256) (hy : y < 256) (h : ∀ i, i < 8 → x.testBit i = y.testBit i) : x = y := by
  apply Nat.eq_of_testBit_eq
  intro i
  by_cases hi : i < 8
  · exact h i hi
  · have e : ∀ z, z < 256 → z.testBit i = false := fun z hz => Nat.testBit_lt_two_pow (Nat.lt_of_lt_of_le hz (Nat.pow_le_pow_right (show 0 < 2 by decide) (show 8 ≤ i by omega)))
    rw [e x hx, e y hy]
theorem mix_self {x p : Nat} (hx : x < 256) (hp : p < 256) : Dk.mix x x p = x :=
  eq_bits8 (Dk.mix_lt hx hx) hx fun i hi => by rw [mix_bit hp i hi]; split <;> rfl
theorem mix_either {y p t : Nat} (hy : y < 256) (hp : p < 256) (ht : t < 8) : Dk.mix (y ||| 2 ^ t) y p = y ||| 2 ^ t ∨ Dk.mix (y ||| 2 ^ t) y p = y := by
  have hx : y ||| 2 ^ t < 256 := Nat.or_lt_two_pow (n := 8) hy (Nat.pow_lt_pow_right (by decide) ht)
  have hb : ∀ i, i ≠ t → (y ||| 2 ^ t).testBit i = y.testBit i := fun i hi => by
    rw [Nat.testBit_or, Nat.testBit_two_pow_of_ne (fun e => hi e.symm)]; simp
  by_cases h : p.testBit t = true
  · refine .inl (eq_bits8 (Dk.mix_lt hx hy) hx fun i hi => ?_)
    rw [mix_bit hp i hi]
    by_cases e : i = t
    · rw [e, if_pos h]
    · rw [hb i e]; split <;> rfl
  · refine .inr (eq_bits8 (Dk.mix_lt hx hy) hy fun i hi => ?_)
    rw [mix_bit hp i hi]
    by_cases e : i = t
    · rw [e, if_neg h]
    · rw [hb i e]; split <;> rfl
theorem pick_lt {picks : List Nat} (h : ∀ x ∈ picks, x < 256) (k : Nat) : picks.getD k 0 < 256 := Dk.getD_lt h k
theorem crash_eq {D : Dk} {picks : List Nat} (ok : D.Ok) (hp : ∀ x ∈ picks, x < 256) {k : Nat} (h : D.S k = D.R k) : (D.crash picks).R k = D.R k := by
  show D.crashR picks k = _
  unfold Dk.crashR
  split
  · rfl
  · rw [h]; exact mix_self (ok.R k) (pick_lt hp _)
theorem crash_one {D : Dk} {picks : List Nat} (ok : D.Ok) (hp : ∀ x ∈ picks, x < 256) {k t : Nat} (ht : t < 8) (h : D.R k = D.S k ||| 2 ^ t) : (D.crash picks).R k = D.R k ∨ (D.crash picks).R k = D.S k := by
  show D.crashR picks k = _ ∨ D.crashR picks k = _
  unfold Dk.crashR
  split
  · exact .inl rfl
  · rw [h]; exact mix_either (ok.S k) (pick_lt hp _) ht
theorem Laid.init {R : Nat → Nat} {nx : Nat} {b : List Nat} : ∀ {rs : List (List Nat)} {p : Nat}, Laid R p (rs ++ [b]) nx → ∃ n0, Laid R p rs n0 ∧ n0 ≤ nx
  | [], p, h => ⟨p, rfl, by have : nx = p + need b.length := h.2.2; omega⟩
  | c :: r, p, h => by
    obtain ⟨n0, h1, h2⟩ := Laid.init (rs := r) h.2.2
    exact ⟨n0, ⟨h.1, h.2.1, h1⟩, h2⟩
theorem crash_a {D D' : Dk} {fr to nx : Nat} {rs : List (List Nat)} {picks : List Nat} (h : Area D fr to nx rs) (hn : D'.n = D.n) (ok : D'.Ok) (hp : ∀ x ∈ picks, x < 256)
    (hj : ∀ j, 64 * fr ≤ j → j < 64 * to → D'.S j = D.S j ∧ (D'.R j = D.R j ∨ 64 * nx ≤ j)) : Area (D'.crash picks) fr to nx rs := by
  have hle := h.laid.le
  have hnx := h.nx
  have hlt := h.lt
  have e : ∀ k, 64 * fr ≤ k → k < 64 * nx → (D'.crash picks).R k = D.R k := fun k h1 h2 => by
    obtain ⟨a1, a2⟩ := hj k h1 (by omega)
    have a3 : D'.R k = D.R k := by
      rcases a2 with a2 | a2
      · exact a2
      · omega
    rw [crash_eq ok hp (by rw [a1, a3]; exact h.sure k h1 (by omega)), a3]
  refine ⟨rfl, by show to ≤ D'.n; rw [hn]; exact h.fit, h.lt, h.laid.congr fun k h1 h2 => (e k (by omega) h2).symm, hnx, h.few, fun j hj2 => ?_, fun _ _ _ => rfl⟩
  rw [← h.marks j hj2]
  exact mk_congr fun k hk => e _ (by omega) (by omega)
theorem crash_b {D D' : Dk} {L : Lg} {rs : List (List Nat)} {b : List Nat} {picks : List Nat} {M : Nat → Nat} (h : Holds D L rs) (hn : D'.n = D.n) (ok : D'.Ok) (hp : ∀ x ∈ picks, x < 256) (h5 : L.n ≠ 512)
    (hroom : L.next + need b.length ≤ L.to) (hM : D'.S = M) (hl : Laid M (L.fr + 1) (rs ++ [b]) (L.next + need b.length)) (hm : ∀ k, k < 64 → M (64 * L.fr + k) = L.m k)
    (hR : ∀ j, D'.R j = M j ∨ (64 * L.fr ≤ j ∧ j < 64 * L.fr + 64 ∧ D'.R j = setMark L.m L.n (j - 64 * L.fr))) :
    ∃ rs' nx, (rs' = rs ∨ rs' = rs ++ [b]) ∧ Area (D'.crash picks) L.fr L.to nx rs' := by
  subst hM
  have hle := hl.le
  have hlt := h.area.lt
  have hfit := h.area.fit
  have hfew := h.area.few
  have hLn := h.n
  have e0 : ∀ k, ¬ (64 * L.fr ≤ k ∧ k < 64 * L.fr + 64) → (D'.crash picks).R k = D'.S k := fun k hk => by
    have a : D'.R k = D'.S k := by
      rcases hR k with a | a
      · exact a
      · exact absurd ⟨a.1, a.2.1⟩ hk
    rw [crash_eq ok hp a.symm, a]
  have e1 : ∀ k, k < 64 → k ≠ L.n / 8 → (D'.crash picks).R (64 * L.fr + k) = L.m k := fun k hk hne => by
    have a : D'.R (64 * L.fr + k) = D'.S (64 * L.fr + k) := by
      rcases hR (64 * L.fr + k) with a | ⟨_, _, a⟩
      · exact a
      · rw [a, hm k hk, Nat.add_sub_cancel_left]
        unfold setMark
        rw [if_neg hne]
    rw [crash_eq ok hp a.symm, a, hm k hk]
  have hn8 : L.n / 8 < 64 := by omega
  have e2 : (D'.crash picks).R (64 * L.fr + L.n / 8) = L.m (L.n / 8) ∨ (D'.crash picks).R (64 * L.fr + L.n / 8) = setMark L.m L.n (L.n / 8) := by
    rcases hR (64 * L.fr + L.n / 8) with a | ⟨_, _, a⟩
    · exact .inl (by rw [crash_eq ok hp a.symm, a, hm _ hn8])
    · have a' : D'.R (64 * L.fr + L.n / 8) = setMark L.m L.n (L.n / 8) := by rw [a, Nat.add_sub_cancel_left]
      have e3 : setMark L.m L.n (L.n / 8) = L.m (L.n / 8) ||| 2 ^ (7 - L.n % 8) := by unfold setMark; rw [if_pos rfl]
      rcases crash_one ok hp (k := 64 * L.fr + L.n / 8) (t := 7 - L.n % 8) (by omega) (by rw [a', e3, hm _ hn8]) with q | q
      · exact .inr (by rw [q, a'])
      · exact .inl (by rw [q, hm _ hn8])
  have hl2 : Laid (D'.crash picks).R (L.fr + 1) (rs ++ [b]) (L.next + need b.length) := hl.congr fun k h1 h2 => (e0 k (by omega)).symm
  have hmarks : ∀ i, i < 512 → mk L.m 0 i = decide (i < L.n) := fun i hi => by rw [← mk_at h.m, h.area.marks i hi, hLn]
  rcases e2 with e2 | e2
  · obtain ⟨n0, g1, g2⟩ := hl2.init
    refine ⟨rs, n0, .inl rfl, ⟨rfl, by show L.to ≤ D'.n; rw [hn]; exact hfit, hlt, g1, by omega, hfew, fun j hj => ?_, fun _ _ _ => rfl⟩⟩
    have e : ∀ k, k < 64 → (D'.crash picks).R (64 * L.fr + k) = L.m k := fun k hk => by
      by_cases q : k = L.n / 8
      · rw [q]; exact e2
      · exact e1 k hk q
    rw [mk_at e, hmarks j hj, hLn]
  · refine ⟨rs ++ [b], _, .inr rfl, ⟨rfl, by show L.to ≤ D'.n; rw [hn]; exact hfit, hlt, hl2, hroom, by rw [List.length_append]; simp only [List.length_cons, List.length_nil]; omega, fun j hj => ?_, fun _ _ _ => rfl⟩⟩
    have e : ∀ k, k < 64 → (D'.crash picks).R (64 * L.fr + k) = setMark L.m L.n k := fun k hk => by
      by_cases q : k = L.n / 8
      · rw [q]; exact e2
      · rw [e1 k hk q]; unfold setMark; rw [if_neg q]
    rw [mk_at e, List.length_append, ← hLn]
    exact mk_set_all (by omega) hmarks j hj
end Wl
end Go.Proofs.Ytiiegimnnngnnaa
