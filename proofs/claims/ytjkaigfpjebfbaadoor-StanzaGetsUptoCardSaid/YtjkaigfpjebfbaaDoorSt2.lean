/- Stanzas on the heap: as they are read, and as they are built. -/
import Derived.Test.YtjkaigfpjebfbaaDoorSt1
import Derived.Test.YtjkaigfpjebfbaaDoorHeap
import Derived.Test.YtjkaigfpjebfbaaDoorBlk
namespace Go.Proofs.YtjkaigfpjebfbaaDoor
open Go.RowKit
set_option linter.unusedVariables false

theorem own_upd {T : Nat → Prop} {w w' : World} {base : Nat} {e : TypeId} {size n : Nat} {v : Value} {xs : List Value} (h : w.ownsRow base e size v n xs) (hu : Upd T w w') (hT : ∀ k, v.ownBlock = some k → ¬ T k) : w'.ownsRow base e size v n xs := by
  refine ⟨h.1, ?_⟩
  rcases h.2 with h2 | ⟨g, cap, cur, rfl, hg, hh, h3⟩
  · exact .inl h2
  · exact .inr ⟨g, cap, cur, rfl, hg, (hu.block g (Blk.lt hh) (hT g rfl)).trans hh, h3⟩
theorem own_is {w : World} {base : Nat} {e : TypeId} {size n : Nat} {v : Value} {xs : List Value} (h : w.ownsRow base e size v n xs) {k : Nat} (hk : v.ownBlock = some k) : base ≤ k ∧ ∃ cur, w.heap[k]? = some (.cells cur e (0, 0)) := by
  rcases h.2 with ⟨rfl, _⟩ | ⟨g, cap, cur, rfl, hg, hh, _⟩
  · cases hk
  · have : g = k := by simpa [Value.ownBlock] using hk
    subst this
    exact ⟨hg, cur, hh⟩
theorem own_shape {w : World} {base : Nat} {e : TypeId} {size n : Nat} {v : Value} {xs : List Value} (h : w.ownsRow base e size v n xs) : ∃ A c, v = .slice A n c := by
  rcases h.2 with ⟨rfl, hn⟩ | ⟨g, cap, cur, rfl, _⟩
  · exact ⟨none, 0, by rw [hn]⟩
  · exact ⟨_, _, rfl⟩
theorem own_ne {w : World} {base base' : Nat} {e e' : TypeId} {size size' n n' g g' c c' : Nat} {xs xs' : List Value} (h : w.ownsRow base e size (.slice (some ⟨g, 0, none⟩) n c) n xs) (h' : w.ownsRow base' e' size' (.slice (some ⟨g', 0, none⟩) n' c') n' xs') (hne : e ≠ e') : g ≠ g' := by
  rintro rfl
  obtain ⟨_, c1, k1⟩ := own_is h (k := g) rfl
  obtain ⟨_, c2, k2⟩ := own_is h' (k := g) rfl
  rw [k1] at k2
  injection k2 with k2
  injection k2 with _ k2
  exact hne k2
theorem own_ne_blk {w : World} {base : Nat} {e t : TypeId} {size n g q c : Nat} {xs : List Value} {C : Array Value} (h : w.ownsRow base e size (.slice (some ⟨g, 0, none⟩) n c) n xs) (hb : Blk w q t C) (hne : e ≠ t) : g ≠ q := by
  rintro rfl
  obtain ⟨_, c1, k1⟩ := own_is h (k := g) rfl
  unfold Blk at hb
  rw [k1] at hb
  injection hb with k2
  injection k2 with _ k2
  exact hne k2
/-- The first n * size cells at A are xs, all of them in a block of G. -/
def RowG (w : World) (G : Nat → Prop) (size : Nat) (A : Option Addr) (n : Nat) (xs : List Value) : Prop :=
  xs.length = n * size ∧ (0 < n → ∃ g o, A = some ⟨g, o, none⟩ ∧ g < w.heap.size ∧ G g ∧ ∀ j u, xs[j]? = some u → w.cell? ⟨g, o + j, none⟩ = some u)
section
variable {w w' : World} {G G' : Nat → Prop} {T : Nat → Prop}
theorem RowG.upd {size n : Nat} {A : Option Addr} {xs : List Value} (h : RowG w G size A n xs) (hu : Upd T w w') (hT : ∀ k, G k → ¬ T k) : RowG w' G size A n xs :=
  ⟨h.1, fun hn => by
    obtain ⟨g, o, e, h1, h2, h3⟩ := h.2 hn
    exact ⟨g, o, e, Nat.lt_of_lt_of_le h1 hu.size, h2, fun j u hj => (hu.cell (p := ⟨g, o + j, none⟩) h1 (hT g h2)).trans (h3 j u hj)⟩⟩
theorem RowG.mono {size n : Nat} {A : Option Addr} {xs : List Value} (h : RowG w G size A n xs) (hG : ∀ k, G k → G' k) : RowG w G' size A n xs :=
  ⟨h.1, fun hn => by
    obtain ⟨g, o, e, h1, h2, h3⟩ := h.2 hn
    exact ⟨g, o, e, h1, hG g h2, h3⟩⟩
theorem RowG.of_own {base : Nat} {e : TypeId} {size n c : Nat} {A : Option Addr} {xs : List Value} (h : w.ownsRow base e size (.slice A n c) n xs) (hG : ∀ k, A = some ⟨k, 0, none⟩ → G k) : RowG w G size A n xs :=
  ⟨h.1, fun hn => by
    obtain ⟨g, cap, hv, _, hlt⟩ := h.form hn
    injection hv with hv _ _
    subst hv
    refine ⟨g, 0, rfl, hlt, hG g rfl, fun j u hj => ?_⟩
    have := h.cells (g := g) rfl j u hj
    have e : (⟨g, 0, none⟩ : Addr).add j = ⟨g, 0 + j, none⟩ := by unfold Addr.add; split <;> simp_all
    rw [← e]
    exact this⟩
theorem own_cap {base : Nat} {e : TypeId} {size n c : Nat} {A : Option Addr} {xs : List Value} (h : w.ownsRow base e size (.slice A n c) n xs) : n ≤ c := by
  rcases h.2 with ⟨h1, h2⟩ | ⟨g, cap, cur, h1, _, _, h2, _⟩
  · injection h1 with _ h3 h4; omega
  · injection h1 with _ _ h4; omega
/-- A field's lines. -/
def LV (w : World) (G : Nat → Prop) (v : Value) (ls : List ByteArray) : Prop := ∃ A c, v = .slice A ls.length c ∧ ls.length ≤ c ∧ RowG w G 1 A ls.length (ls.map Value.string)
theorem LV.upd {v : Value} {ls : List ByteArray} (h : LV w G v ls) (hu : Upd T w w') (hT : ∀ k, G k → ¬ T k) : LV w' G v ls := by
  obtain ⟨A, c, rfl, hc, hr⟩ := h
  exact ⟨A, c, rfl, hc, hr.upd hu hT⟩
theorem LV.mono {v : Value} {ls : List ByteArray} (h : LV w G v ls) (hG : ∀ k, G k → G' k) : LV w G' v ls := by
  obtain ⟨A, c, rfl, hc, hr⟩ := h
  exact ⟨A, c, rfl, hc, hr.mono hG⟩
/-- Fields, by their cells. -/
def FV (w : World) (G : Nat → Prop) : List Value → List Fd → Prop
  | xs, [] => xs = []
  | xs, f :: r => ∃ v ys, xs = .string f.n :: v :: ys ∧ LV w G v f.ls ∧ FV w G ys r
theorem FV.upd (hu : Upd T w w') (hT : ∀ k, G k → ¬ T k) : ∀ {xs : List Value} {l : List Fd}, FV w G xs l → FV w' G xs l
  | xs, [], h => h
  | xs, f :: r, h => by
    obtain ⟨v, ys, e, h1, h2⟩ := h
    exact ⟨v, ys, e, h1.upd hu hT, FV.upd hu hT h2⟩
theorem FV.mono (hG : ∀ k, G k → G' k) : ∀ {xs : List Value} {l : List Fd}, FV w G xs l → FV w G' xs l
  | xs, [], h => h
  | xs, f :: r, h => by
    obtain ⟨v, ys, e, h1, h2⟩ := h
    exact ⟨v, ys, e, h1.mono hG, FV.mono hG h2⟩
theorem FV.snoc {v : Value} {f : Fd} (hv : LV w G v f.ls) : ∀ {xs : List Value} {l : List Fd}, FV w G xs l → FV w G (xs ++ [.string f.n, v]) (l ++ [f])
  | xs, [], h => by
    have h : xs = [] := h
    subst h
    exact ⟨v, [], rfl, hv, rfl⟩
  | xs, g :: r, h => by
    obtain ⟨u, ys, rfl, h1, h2⟩ := h
    exact ⟨u, ys ++ [.string f.n, v], rfl, h1, FV.snoc hv h2⟩
theorem FV.len : ∀ {xs : List Value} {l : List Fd}, FV w G xs l → xs.length = l.length * 2
  | xs, [], h => by have h : xs = [] := h; subst h; rfl
  | xs, g :: r, h => by
    obtain ⟨u, ys, rfl, h1, h2⟩ := h
    have := FV.len h2
    simp only [List.length_cons, this]
    omega
theorem FV.at_ : ∀ {xs : List Value} {l : List Fd}, FV w G xs l → ∀ j (h : j < l.length), xs[j * 2]? = some (.string l[j].n) ∧ ∃ v, xs[j * 2 + 1]? = some v ∧ LV w G v l[j].ls
  | xs, g :: r, h, 0, _ => by
    obtain ⟨u, ys, rfl, h1, h2⟩ := h
    exact ⟨rfl, u, rfl, h1⟩
  | xs, g :: r, h, j + 1, hj => by
    obtain ⟨u, ys, rfl, h1, h2⟩ := h
    have := FV.at_ h2 j (by simpa using hj)
    have e1 : (j + 1) * 2 = j * 2 + 1 + 1 := by omega
    rw [e1]
    exact this
/-- Stanzas, by their cells. -/
def SV (w : World) (G : Nat → Prop) : List Value → List St → Prop
  | xs, [] => xs = []
  | xs, s :: r => ∃ A c fx ys, xs = .int .i64 s.line :: .slice A s.fs.length c :: ys ∧ s.fs.length ≤ c ∧ RowG w G 2 A s.fs.length fx ∧ FV w G fx s.fs ∧ SV w G ys r
theorem SV.upd (hu : Upd T w w') (hT : ∀ k, G k → ¬ T k) : ∀ {xs : List Value} {l : List St}, SV w G xs l → SV w' G xs l
  | xs, [], h => h
  | xs, f :: r, h => by
    obtain ⟨A, c, fx, ys, e, h0, h1, h2, h3⟩ := h
    exact ⟨A, c, fx, ys, e, h0, h1.upd hu hT, h2.upd hu hT, SV.upd hu hT h3⟩
theorem SV.mono (hG : ∀ k, G k → G' k) : ∀ {xs : List Value} {l : List St}, SV w G xs l → SV w G' xs l
  | xs, [], h => h
  | xs, f :: r, h => by
    obtain ⟨A, c, fx, ys, e, h0, h1, h2, h3⟩ := h
    exact ⟨A, c, fx, ys, e, h0, h1.mono hG, h2.mono hG, SV.mono hG h3⟩
theorem SV.snoc {A : Option Addr} {c : Nat} {fx : List Value} {s : St} (h0 : s.fs.length ≤ c) (h1 : RowG w G 2 A s.fs.length fx) (h2 : FV w G fx s.fs) : ∀ {xs : List Value} {l : List St}, SV w G xs l → SV w G (xs ++ [.int .i64 s.line, .slice A s.fs.length c]) (l ++ [s])
  | xs, [], h => by
    have h : xs = [] := h
    subst h
    exact ⟨A, c, fx, [], rfl, h0, h1, h2, rfl⟩
  | xs, g :: r, h => by
    obtain ⟨B, d, fy, ys, rfl, k0, k1, k2, k3⟩ := h
    exact ⟨B, d, fy, _, rfl, k0, k1, k2, SV.snoc h0 h1 h2 k3⟩
theorem SV.len : ∀ {xs : List Value} {l : List St}, SV w G xs l → xs.length = l.length * 2
  | xs, [], h => by have h : xs = [] := h; subst h; rfl
  | xs, g :: r, h => by
    obtain ⟨A, c, fx, ys, rfl, _, _, _, h2⟩ := h
    have := SV.len h2
    simp only [List.length_cons, this]
    omega
theorem SV.at_ : ∀ {xs : List Value} {l : List St}, SV w G xs l → ∀ j (h : j < l.length), xs[j * 2]? = some (.int .i64 l[j].line) ∧ ∃ A c fx, xs[j * 2 + 1]? = some (.slice A l[j].fs.length c) ∧ l[j].fs.length ≤ c ∧ RowG w G 2 A l[j].fs.length fx ∧ FV w G fx l[j].fs
  | xs, g :: r, h, 0, _ => by
    obtain ⟨A, c, fx, ys, rfl, h0, h1, h2, h3⟩ := h
    exact ⟨rfl, A, c, fx, rfl, h0, h1, h2⟩
  | xs, g :: r, h, j + 1, hj => by
    obtain ⟨A, c, fx, ys, rfl, h0, h1, h2, h3⟩ := h
    have := SV.at_ h3 j (by simpa using hj)
    have e1 : (j + 1) * 2 = j * 2 + 1 + 1 := by omega
    rw [e1]
    exact this
/-- Stanzas as a value. -/
def StzG (w : World) (G : Nat → Prop) (v : Value) (L : List St) : Prop := ∃ A c xs, v = .slice A L.length c ∧ L.length ≤ c ∧ RowG w G 2 A L.length xs ∧ SV w G xs L
def StzAt (w : World) (v : Value) (L : List St) : Prop := ∃ G, StzG w G v L
theorem StzG.upd {v : Value} {L : List St} (h : StzG w G v L) (hu : Upd T w w') (hT : ∀ k, G k → ¬ T k) : StzG w' G v L := by
  obtain ⟨A, c, xs, rfl, hc, hr, hs⟩ := h
  exact ⟨A, c, xs, rfl, hc, hr.upd hu hT, hs.upd hu hT⟩
theorem StzAt.below {v : Value} {L : List St} (h : StzAt w v L) (hb : Below w.heap.size w w') : StzAt w' v L := by
  obtain ⟨G, h⟩ := h
  exact ⟨G, h.upd (Upd.of_below hb (T := fun _ => False) (fun k h1 h2 => by omega)) (fun _ _ h => h)⟩
theorem StzAt.nil (w : World) : StzAt w (.slice none 0 0) [] := ⟨fun _ => False, none, 0, [], rfl, Nat.le_refl _, ⟨rfl, fun h => absurd h (by simp)⟩, rfl⟩
end
/-- What is built: the stanza that is open lies at ko, its fields at kf, the lines of its last at kl; all else in blocks of G. -/
structure Opn (w : World) (base : Nat) (G : Nat → Prop) (ko co kf cf kl cl : Nat) (xs fx : List Value) (Lp : List St) (ln : Int) (Fp : List Fd) (nm : ByteArray) (ls : List ByteArray) : Prop where
  o : w.ownsRow base 34 2 (.slice (some ⟨ko, 0, none⟩) (Lp.length + 1) co) (Lp.length + 1) (xs ++ [.int .i64 ln, .slice (some ⟨kf, 0, none⟩) (Fp.length + 1) cf])
  sv : SV w G xs Lp
  f : w.ownsRow base 40 2 (.slice (some ⟨kf, 0, none⟩) (Fp.length + 1) cf) (Fp.length + 1) (fx ++ [.string nm, .slice (some ⟨kl, 0, none⟩) ls.length cl])
  fv : FV w G fx Fp
  l : w.ownsRow base 9 1 (.slice (some ⟨kl, 0, none⟩) ls.length cl) ls.length (ls.map Value.string)
  g : ∀ k, G k → k < w.heap.size ∧ k ≠ ko ∧ k ≠ kf ∧ k ≠ kl
/-- Nothing is open. -/
structure Shu (w : World) (base : Nat) (G : Nat → Prop) (A : Option Addr) (c : Nat) (xs : List Value) (L : List St) : Prop where
  o : w.ownsRow base 34 2 (.slice A L.length c) L.length xs
  sv : SV w G xs L
  g : ∀ k, G k → k < w.heap.size ∧ A ≠ some ⟨k, 0, none⟩
theorem Shu.nil (w : World) (base : Nat) : Shu w base (fun _ => False) none 0 [] [] := ⟨World.ownsRow_nil _ _ _ _, rfl, fun _ h => h.elim⟩
section
variable {w w' : World} {base : Nat} {G : Nat → Prop} {ko co kf cf kl cl : Nat} {xs fx : List Value} {Lp : List St} {ln : Int} {Fp : List Fd} {nm : ByteArray} {ls : List ByteArray}
theorem Opn.ne (h : Opn w base G ko co kf cf kl cl xs fx Lp ln Fp nm ls) : ko ≠ kf ∧ ko ≠ kl ∧ kf ≠ kl := ⟨own_ne h.o h.f (by decide), own_ne h.o h.l (by decide), own_ne h.f h.l (by decide)⟩
theorem Opn.upd {T : Nat → Prop} (h : Opn w base G ko co kf cf kl cl xs fx Lp ln Fp nm ls) (hu : Upd T w w') (h1 : ¬ T ko) (h2 : ¬ T kf) (h3 : ¬ T kl) (h4 : ∀ k, G k → ¬ T k) : Opn w' base G ko co kf cf kl cl xs fx Lp ln Fp nm ls where
  o := own_upd h.o hu (fun k e => by injection e with e; subst e; exact h1)
  sv := h.sv.upd hu h4
  f := own_upd h.f hu (fun k e => by injection e with e; subst e; exact h2)
  fv := h.fv.upd hu h4
  l := own_upd h.l hu (fun k e => by injection e with e; subst e; exact h3)
  g := fun k hk => ⟨Nat.lt_of_lt_of_le (h.g k hk).1 hu.size, (h.g k hk).2⟩
theorem Shu.upd {T : Nat → Prop} {A : Option Addr} {c : Nat} {L : List St} (h : Shu w base G A c xs L) (hu : Upd T w w') (h1 : ∀ k, A = some ⟨k, 0, none⟩ → ¬ T k) (h4 : ∀ k, G k → ¬ T k) : Shu w' base G A c xs L where
  o := own_upd h.o hu (fun k e => h1 k (by
    cases A with
    | none => cases e
    | some a =>
      rcases h.o.2 with ⟨e2, _⟩ | ⟨g, cap, cur, e2, _⟩
      · cases e2
      · injection e2 with e2 _ _
        injection e2 with e2
        subst e2
        injection e with e
        have e : g = k := e
        rw [e]))
  sv := h.sv.upd hu h4
  g := fun k hk => ⟨Nat.lt_of_lt_of_le (h.g k hk).1 hu.size, (h.g k hk).2⟩
/-- A blank line closes what is open. -/
theorem Opn.close (h : Opn w base G ko co kf cf kl cl xs fx Lp ln Fp nm ls) : Shu w base (fun k => G k ∨ k = kf ∨ k = kl) (some ⟨ko, 0, none⟩) co (xs ++ [.int .i64 ln, .slice (some ⟨kf, 0, none⟩) (Fp.length + 1) cf]) (Lp ++ [⟨ln, Fp ++ [⟨nm, ls⟩]⟩]) := by
  have hn := h.ne
  have e1 : (Lp ++ [(⟨ln, Fp ++ [⟨nm, ls⟩]⟩ : St)]).length = Lp.length + 1 := by simp
  have e2 : (Fp ++ [(⟨nm, ls⟩ : Fd)]).length = Fp.length + 1 := by simp
  have hlv : LV w (fun k => G k ∨ k = kf ∨ k = kl) (.slice (some ⟨kl, 0, none⟩) ls.length cl) ls := ⟨_, _, rfl, own_cap h.l, RowG.of_own h.l (fun k e => by injection e with e; injection e with e; exact .inr (.inr e.symm))⟩
  refine ⟨by rw [e1]; exact h.o, ?_, fun k hk => ?_⟩
  · have := SV.snoc (s := ⟨ln, Fp ++ [⟨nm, ls⟩]⟩) (A := some ⟨kf, 0, none⟩) (c := cf) (by rw [e2]; exact own_cap h.f) (by rw [e2]; exact RowG.of_own (G := fun k => G k ∨ k = kf ∨ k = kl) h.f (fun k e => by injection e with e; injection e with e; exact .inr (.inl e.symm))) (FV.snoc (f := ⟨nm, ls⟩) hlv (h.fv.mono (fun k hk => .inl hk))) (h.sv.mono (fun k hk => Or.inl hk))
    rw [e2] at this
    exact this
  · have hlt : ∀ g, (∃ c, w.heap[g]? = some c) → g < w.heap.size := fun g ⟨c, hc⟩ => by
      rcases Nat.lt_or_ge g w.heap.size with h9 | h9
      · exact h9
      · rw [Array.getElem?_eq_none h9] at hc; cases hc
    have ne_some : ∀ g, g ≠ ko → (some ⟨ko, 0, none⟩ : Option Addr) ≠ some ⟨g, 0, none⟩ := fun g hg e => by injection e with e; injection e with e; exact hg e.symm
    rcases hk with hk | rfl | rfl
    · exact ⟨(h.g k hk).1, ne_some k (h.g k hk).2.1⟩
    · obtain ⟨_, cur, hc⟩ := own_is h.f (k := k) rfl
      exact ⟨hlt k ⟨_, hc⟩, ne_some k (Ne.symm hn.1)⟩
    · obtain ⟨_, cur, hc⟩ := own_is h.l (k := k) rfl
      exact ⟨hlt k ⟨_, hc⟩, ne_some k (Ne.symm hn.2.1)⟩
theorem set_last2 (xs : List Value) (a b c : Value) (n : Nat) (h : xs.length = n * 2) : (xs ++ [a, b]).set (n * 2 + 1) c = xs ++ [a, c] := by
  rw [← h, List.set_append_right _ _ (by omega)]
  have : xs.length + 1 - xs.length = 1 := by omega
  rw [this]
  rfl
theorem Opn.xlen (h : Opn w base G ko co kf cf kl cl xs fx Lp ln Fp nm ls) : xs.length = Lp.length * 2 ∧ fx.length = Fp.length * 2 := ⟨h.sv.len, h.fv.len⟩
/-- A further line. -/
theorem Opn.line (h : Opn w base G ko co kf cf kl cl xs fx Lp ln Fp nm ls) {w5 : World} {kl' c5 : Nat} {x : ByteArray} (hu : Upd (fun k => k = kl) w w5) (hk : kl' = kl ∨ w.heap.size ≤ kl')
    (ho : w5.ownsRow base 9 1 (.slice (some ⟨kl', 0, none⟩) (ls.length + 1) c5) (ls.length + 1) (ls.map Value.string ++ [.string x])) :
    Opn (w5.setCell ⟨kf, Fp.length * 2 + 1, none⟩ (.slice (some ⟨kl', 0, none⟩) (ls.length + 1) c5)) base G ko co kf cf kl' c5 xs fx Lp ln Fp nm (ls ++ [x]) ∧ Upd (fun k => k = kl ∨ k = kf) w (w5.setCell ⟨kf, Fp.length * 2 + 1, none⟩ (.slice (some ⟨kl', 0, none⟩) (ls.length + 1) c5)) := by
  have hn := h.ne
  have hx := h.xlen
  have hel : (ls ++ [x]).length = ls.length + 1 := by simp
  have hem : (ls ++ [x]).map Value.string = ls.map Value.string ++ [.string x] := by simp
  have h5o := own_upd h.o hu (fun k e => by injection e with e; subst e; exact hn.2.1)
  have h5f := own_upd h.f hu (fun k e => by injection e with e; subst e; exact hn.2.2)
  have hne5 : kf ≠ kl' := own_ne h5f ho (by decide)
  have hneo : ko ≠ kl' := own_ne h5o ho (by decide)
  have hs := (h5f.stored (Fp.length * 2 + 1) (.slice (some ⟨kl', 0, none⟩) (ls.length + 1) c5))
  have hu2 : Upd (fun k => k = kf) w5 (w5.setCell ⟨kf, Fp.length * 2 + 1, none⟩ (.slice (some ⟨kl', 0, none⟩) (ls.length + 1) c5)) := (Upd.refl (fun k => k = kf) _).setCell (p := ⟨kf, Fp.length * 2 + 1, none⟩) (.inl rfl) _
  refine ⟨⟨own_upd h5o hu2 (fun k e => by injection e with e; subst e; exact hn.1), (h.sv.upd hu (fun k hk e => (h.g k hk).2.2.2 e)).upd hu2 (fun k hk e => (h.g k hk).2.2.1 e), ?_, (h.fv.upd hu (fun k hk e => (h.g k hk).2.2.2 e)).upd hu2 (fun k hk e => (h.g k hk).2.2.1 e), ?_, fun k hk' => ?_⟩, ?_⟩
  · rw [hel]
    have := hs.1
    rw [set_last2 _ _ _ _ _ hx.2] at this
    exact this
  · rw [hel, hem]
    exact own_upd ho hu2 (fun k e => by injection e with e; subst e; exact Ne.symm hne5)
  · have h9 := h.g k hk'
    refine ⟨Nat.lt_of_lt_of_le (Nat.lt_of_lt_of_le h9.1 hu.size) hu2.size, h9.2.1, h9.2.2.1, ?_⟩
    rcases hk with e | e
    · rw [e]; exact h9.2.2.2
    · omega
  · exact (hu.mono (fun k _ hk => Or.inl hk)).trans (hu2.mono (fun k _ hk => Or.inr hk))
/-- A further field: its lines lie at kl' already. -/
theorem Opn.field (h : Opn w base G ko co kf cf kl cl xs fx Lp ln Fp nm ls) {w5 : World} {kf' c5 kl' cl' : Nat} {nm' x : ByteArray} (hu : Upd (fun k => k = kf) w w5) (hk : kf' = kf ∨ w.heap.size ≤ kf') (hkl : ∀ k, (G k ∨ k = kl) → k ≠ kl')
    (ho : w5.ownsRow base 40 2 (.slice (some ⟨kf', 0, none⟩) (Fp.length + 1 + 1) c5) (Fp.length + 1 + 1) (fx ++ [.string nm, .slice (some ⟨kl, 0, none⟩) ls.length cl] ++ [.string nm', .slice (some ⟨kl', 0, none⟩) 1 cl']))
    (hl : w5.ownsRow base 9 1 (.slice (some ⟨kl', 0, none⟩) 1 cl') 1 [.string x]) :
    Opn (w5.setCell ⟨ko, Lp.length * 2 + 1, none⟩ (.slice (some ⟨kf', 0, none⟩) (Fp.length + 1 + 1) c5)) base (fun k => G k ∨ k = kl) ko co kf' c5 kl' cl' xs (fx ++ [.string nm, .slice (some ⟨kl, 0, none⟩) ls.length cl]) Lp ln (Fp ++ [⟨nm, ls⟩]) nm' [x] ∧ Upd (fun k => k = kf ∨ k = ko) w (w5.setCell ⟨ko, Lp.length * 2 + 1, none⟩ (.slice (some ⟨kf', 0, none⟩) (Fp.length + 1 + 1) c5)) := by
  have hn := h.ne
  have hx := h.xlen
  have hel : (Fp ++ [(⟨nm, ls⟩ : Fd)]).length = Fp.length + 1 := by simp
  have h5o := own_upd h.o hu (fun k e => by injection e with e; subst e; exact hn.1)
  have h5l := own_upd h.l hu (fun k e => by injection e with e; subst e; exact Ne.symm hn.2.2)
  have hneo : ko ≠ kf' := own_ne h5o ho (by decide)
  have hnel : ko ≠ kl' := own_ne h5o hl (by decide)
  have hnfl : kf' ≠ kl := own_ne ho h5l (by decide)
  have hu2 : Upd (fun k => k = ko) w5 (w5.setCell ⟨ko, Lp.length * 2 + 1, none⟩ (.slice (some ⟨kf', 0, none⟩) (Fp.length + 1 + 1) c5)) := (Upd.refl (fun k => k = ko) _).setCell (p := ⟨ko, Lp.length * 2 + 1, none⟩) (.inl rfl) _
  have hs := (h5o.stored (Lp.length * 2 + 1) (.slice (some ⟨kf', 0, none⟩) (Fp.length + 1 + 1) c5))
  have hlv : LV w5 (fun k => G k ∨ k = kl) (.slice (some ⟨kl, 0, none⟩) ls.length cl) ls := ⟨_, _, rfl, own_cap h5l, RowG.of_own h5l (fun k e => by injection e with e; injection e with e; exact .inr e.symm)⟩
  have hfv : FV w5 (fun k => G k ∨ k = kl) (fx ++ [.string nm, .slice (some ⟨kl, 0, none⟩) ls.length cl]) (Fp ++ [⟨nm, ls⟩]) := FV.snoc (f := ⟨nm, ls⟩) hlv ((h.fv.upd hu (fun k hk e => (h.g k hk).2.2.1 e)).mono (fun k hk => .inl hk))
  have hko : ∀ k, (G k ∨ k = kl) → ¬ (k = ko) := fun k hk e => by
    rcases hk with hk | hk
    · exact (h.g k hk).2.1 e
    · exact hn.2.1 (e.symm.trans hk)
  refine ⟨⟨?_, ((h.sv.upd hu (fun k hk e => (h.g k hk).2.2.1 e)).mono (fun k hk => Or.inl hk)).upd hu2 hko, ?_, hfv.upd hu2 hko, own_upd hl hu2 (fun k e => by injection e with e; subst e; exact Ne.symm hnel), fun k hk' => ?_⟩, ?_⟩
  · rw [hel]
    have := hs.1
    rw [set_last2 _ _ _ _ _ hx.1] at this
    exact this
  · rw [hel]
    exact own_upd ho hu2 (fun k e => by injection e with e; subst e; exact Ne.symm hneo)
  · have hlt : k < w.heap.size := by
      rcases hk' with h9 | h9
      · exact (h.g k h9).1
      · obtain ⟨_, cur, hc⟩ := own_is h.l (k := kl) rfl
        rw [h9]
        exact Blk.lt hc
    refine ⟨Nat.lt_of_lt_of_le (Nat.lt_of_lt_of_le hlt hu.size) hu2.size, hko k hk', ?_, hkl k hk'⟩
    rcases hk' with h9 | h9
    · rcases hk with e | e
      · rw [e]; exact (h.g k h9).2.2.1
      · omega
    · rw [h9]; exact Ne.symm hnfl
  · exact (hu.mono (fun k _ hk => Or.inl hk)).trans (hu2.mono (fun k _ hk => Or.inr hk))
/-- A stanza begins: its cells stand in the row, its first field's row is new. -/
theorem Shu.field {A : Option Addr} {c : Nat} {L : List St} (h : Shu w base G A c xs L) {w4 w5 : World} {ko' c4 kf' c5 kl' cl' : Nat} {nm' x : ByteArray} {T : Nat → Prop} (hu : Upd T w w4) (hT : ∀ k, G k → ¬ T k) (hk : A = some ⟨ko', 0, none⟩ ∨ w.heap.size ≤ ko')
    (ho : w4.ownsRow base 34 2 (.slice (some ⟨ko', 0, none⟩) (L.length + 1) c4) (L.length + 1) (xs ++ [.int .i64 ln, .slice none 0 0])) (hu5 : Upd (fun _ => False) w4 w5) (hkf : ∀ k, G k → k ≠ kf') (hkl : ∀ k, G k → k ≠ kl')
    (hf : w5.ownsRow base 40 2 (.slice (some ⟨kf', 0, none⟩) 1 c5) 1 [.string nm', .slice (some ⟨kl', 0, none⟩) 1 cl']) (hl : w5.ownsRow base 9 1 (.slice (some ⟨kl', 0, none⟩) 1 cl') 1 [.string x]) :
    Opn (w5.setCell ⟨ko', L.length * 2 + 1, none⟩ (.slice (some ⟨kf', 0, none⟩) 1 c5)) base G ko' c4 kf' c5 kl' cl' xs [] L ln [] nm' [x] ∧ Upd (fun k => T k ∨ k = ko') w (w5.setCell ⟨ko', L.length * 2 + 1, none⟩ (.slice (some ⟨kf', 0, none⟩) 1 c5)) := by
  have h5o := own_upd ho hu5 (fun _ _ h => h)
  have hnf : ko' ≠ kf' := own_ne h5o hf (by decide)
  have hnl : ko' ≠ kl' := own_ne h5o hl (by decide)
  have hu2 : Upd (fun k => k = ko') w5 (w5.setCell ⟨ko', L.length * 2 + 1, none⟩ (.slice (some ⟨kf', 0, none⟩) 1 c5)) := (Upd.refl (fun k => k = ko') _).setCell (p := ⟨ko', L.length * 2 + 1, none⟩) (.inl rfl) _
  have hs := (h5o.stored (L.length * 2 + 1) (.slice (some ⟨kf', 0, none⟩) 1 c5))
  have hG : ∀ k, G k → ¬ k = ko' := fun k hk' e => by
    rcases hk with h9 | h9
    · exact (h.g k hk').2 (by rw [h9, e])
    · have := (h.g k hk').1; omega
  refine ⟨⟨?_, ((h.sv.upd hu hT).upd hu5 (fun _ _ h => h)).upd hu2 hG, own_upd hf hu2 (fun k e => by injection e with e; subst e; exact Ne.symm hnf), rfl, own_upd hl hu2 (fun k e => by injection e with e; subst e; exact Ne.symm hnl), fun k hk' => ?_⟩, ?_⟩
  · have := hs.1
    rw [set_last2 _ _ _ _ _ h.sv.len] at this
    exact this
  · have h9 := h.g k hk'
    exact ⟨Nat.lt_of_lt_of_le h9.1 (Nat.le_trans hu.size (Nat.le_trans hu5.size hu2.size)), hG k hk', hkf k hk', hkl k hk'⟩
  · exact ((hu.mono (fun k _ hk => Or.inl hk)).trans (hu5.mono (fun k _ hk => hk.elim))).trans (hu2.mono (fun k _ hk => Or.inr hk))
theorem Shu.at {A : Option Addr} {c : Nat} {L : List St} (h : Shu w base G A c xs L) : StzAt w (.slice A L.length c) L :=
  ⟨fun k => G k ∨ A = some ⟨k, 0, none⟩, A, c, xs, rfl, own_cap h.o, RowG.of_own h.o (fun k e => .inr e), h.sv.mono (fun k hk => .inl hk)⟩
end
end Go.Proofs.YtjkaigfpjebfbaaDoor
