/- Put together: slices.Clone of atoms, of provides, of a clause's atoms; own; value.own: clauses in memory of their own; OfClauses, OfAtoms, OfProvides; Clauses, Atoms, Provides. -/
import Derived.Test.YtjkaigfpjebfbaaGreatDoorZB
import Derived.Test.YtjkaigfpjebfbaaGreatDoorVb
import Derived.Test.YtjkaigfpjebfbaaGreatDoorRw
import Derived.Deep.CutRange
/- slices.Clone of atoms, of provides, of a clause's atoms; own. -/
namespace Go.Proofs.YtjkaigfpjebfbaaGreatDoor
open Go.RowKit
set_option linter.unusedVariables false

/-- An atom's cells. -/
def raC (a : RA) : List Value := [.string a.n, .int .i64 a.r, .string a.v]
def catR (l : List RA) : List Value := l.flatMap raC
theorem catR_at : ∀ (l : List RA) (j : Nat) (h : j < l.length), (catR l)[j * 3]? = some (.string l[j].n) ∧ (catR l)[j * 3 + 1]? = some (.int .i64 l[j].r) ∧ (catR l)[j * 3 + 2]? = some (.string l[j].v)
  | [], j, h => absurd h (by simp)
  | a :: r, 0, h => ⟨rfl, rfl, rfl⟩
  | a :: r, j + 1, h => by
    have hr := catR_at r j (by simpa using h)
    have e : catR (a :: r) = raC a ++ catR r := rfl
    have hl : (raC a).length = 3 := rfl
    have h3 : ∀ k, (catR (a :: r))[(j + 1) * 3 + k]? = (catR r)[j * 3 + k]? := fun k => by
      rw [e, List.getElem?_append_right (by omega), hl]
      congr 1
      omega
    exact ⟨(h3 0).trans hr.1, (h3 1).trans hr.2.1, (h3 2).trans hr.2.2⟩
theorem catR_get : ∀ (l : List RA) (j : Nat) (u : Value), (catR l)[j]? = some u → ∃ i, ∃ h : i < l.length, (j = i * 3 ∧ u = .string l[i].n) ∨ (j = i * 3 + 1 ∧ u = .int .i64 l[i].r) ∨ (j = i * 3 + 2 ∧ u = .string l[i].v)
  | [], j, u, h => by cases h
  | a :: r, 0, u, h => ⟨0, by simp, .inl ⟨rfl, by injection h with h; exact h.symm⟩⟩
  | a :: r, 1, u, h => ⟨0, by simp, .inr (.inl ⟨rfl, by injection h with h; exact h.symm⟩)⟩
  | a :: r, 2, u, h => ⟨0, by simp, .inr (.inr ⟨rfl, by injection h with h; exact h.symm⟩)⟩
  | a :: r, j + 3, u, h => by
    obtain ⟨i, hi, h2⟩ := catR_get r j u h
    refine ⟨i + 1, by simpa using hi, ?_⟩
    rcases h2 with ⟨rfl, e⟩ | ⟨rfl, e⟩ | ⟨rfl, e⟩
    · exact .inl ⟨by omega, e⟩
    · exact .inr (.inl ⟨by omega, e⟩)
    · exact .inr (.inr ⟨by omega, e⟩)
theorem catR_len : ∀ l, (catR l).length = l.length * 3
  | [] => rfl
  | a :: r => by
    have e : catR (a :: r) = raC a ++ catR r := rfl
    rw [e, List.length_append, catR_len r, List.length_cons]
    show 3 + _ = _
    omega
theorem catR_one (l : List RA) : ∀ u ∈ catR l, u.oneCell' = true := fun u hu => by
  obtain ⟨j, hj, e⟩ := List.mem_iff_getElem.1 hu
  obtain ⟨i, hi, h⟩ := catR_get l j u (by rw [← e]; exact List.getElem?_eq_getElem hj)
  rcases h with ⟨_, rfl⟩ | ⟨_, rfl⟩ | ⟨_, rfl⟩ <;> rfl
theorem AtsAt.of_row {w : World} {base m c : Nat} {A : Option Addr} {l : List RA} (h : w.ownsRow base 87 3 (.slice A m c) m (catR l)) (hm : m = l.length) : AtsAt w (.slice A m c) l := by
  subst hm
  refine ⟨A, c, rfl, (row_shape h).1, fun j hj => ?_⟩
  obtain ⟨ad, e, hb, hc2⟩ := (Reads.of_own h).2 (by omega)
  have h0 := (row_shape h).2 _ e
  obtain ⟨g, o, sp⟩ := ad
  have h0 : sp = none := h0
  subst h0 e
  have ha := catR_at l j hj
  refine ⟨g, o, rfl, ?_, ?_, ?_⟩
  · have := hc2 _ _ ha.1; rwa [addN] at this
  · have := hc2 _ _ ha.2.1; rwa [addN] at this
  · have := hc2 _ _ ha.2.2; rwa [addN] at this
theorem AtsAt.cells {w : World} {v : Value} {L : List RA} (h : AtsAt w v L) : ∃ A c, v = .slice A L.length c ∧ Reads w w.heap.size 3 A L.length (catR L) := by
  obtain ⟨A, c, rfl, _, hA⟩ := h
  refine ⟨A, c, rfl, catR_len L, fun h0 => ?_⟩
  obtain ⟨g, o, rfl, k1, _, _⟩ := hA 0 h0
  refine ⟨_, rfl, World.block_lt_of_cell? w _ k1, fun j u hj => ?_⟩
  rw [addN]
  obtain ⟨i, hi, h2⟩ := catR_get _ _ _ hj
  obtain ⟨g', o', e', q1, q2, q3⟩ := hA i hi
  injection e' with e'
  injection e' with e1 e2
  subst e1 e2
  rcases h2 with ⟨rfl, rfl⟩ | ⟨rfl, rfl⟩ | ⟨rfl, rfl⟩
  · exact q1
  · exact q2
  · exact q3
/-- A provide's cells. -/
def rpC (a : RP) : List Value := [.string a.n, .string a.v]
def catRP (l : List RP) : List Value := l.flatMap rpC
theorem catRP_at : ∀ (l : List RP) (j : Nat) (h : j < l.length), (catRP l)[j * 2]? = some (.string l[j].n) ∧ (catRP l)[j * 2 + 1]? = some (.string l[j].v)
  | [], j, h => absurd h (by simp)
  | a :: r, 0, h => ⟨rfl, rfl⟩
  | a :: r, j + 1, h => by
    have hr := catRP_at r j (by simpa using h)
    have e : catRP (a :: r) = rpC a ++ catRP r := rfl
    have hl : (rpC a).length = 2 := rfl
    have h3 : ∀ k, (catRP (a :: r))[(j + 1) * 2 + k]? = (catRP r)[j * 2 + k]? := fun k => by
      rw [e, List.getElem?_append_right (by omega), hl]
      congr 1
      omega
    exact ⟨(h3 0).trans hr.1, (h3 1).trans hr.2⟩
theorem catRP_get : ∀ (l : List RP) (j : Nat) (u : Value), (catRP l)[j]? = some u → ∃ i, ∃ h : i < l.length, (j = i * 2 ∧ u = .string l[i].n) ∨ (j = i * 2 + 1 ∧ u = .string l[i].v)
  | [], j, u, h => by cases h
  | a :: r, 0, u, h => ⟨0, by simp, .inl ⟨rfl, by injection h with h; exact h.symm⟩⟩
  | a :: r, 1, u, h => ⟨0, by simp, .inr ⟨rfl, by injection h with h; exact h.symm⟩⟩
  | a :: r, j + 2, u, h => by
    obtain ⟨i, hi, h2⟩ := catRP_get r j u h
    refine ⟨i + 1, by simpa using hi, ?_⟩
    rcases h2 with ⟨rfl, e⟩ | ⟨rfl, e⟩
    · exact .inl ⟨by omega, e⟩
    · exact .inr ⟨by omega, e⟩
theorem catRP_len : ∀ l, (catRP l).length = l.length * 2
  | [] => rfl
  | a :: r => by
    have e : catRP (a :: r) = rpC a ++ catRP r := rfl
    rw [e, List.length_append, catRP_len r, List.length_cons]
    show 2 + _ = _
    omega
theorem catRP_one (l : List RP) : ∀ u ∈ catRP l, u.oneCell' = true := fun u hu => by
  obtain ⟨j, hj, e⟩ := List.mem_iff_getElem.1 hu
  obtain ⟨i, hi, h⟩ := catRP_get l j u (by rw [← e]; exact List.getElem?_eq_getElem hj)
  rcases h with ⟨_, rfl⟩ | ⟨_, rfl⟩ <;> rfl
theorem PrsAt.of_row {w : World} {base m c : Nat} {A : Option Addr} {l : List RP} (h : w.ownsRow base 90 2 (.slice A m c) m (catRP l)) (hm : m = l.length) : PrsAt w (.slice A m c) l := by
  subst hm
  refine ⟨A, c, rfl, (row_shape h).1, fun j hj => ?_⟩
  obtain ⟨ad, e, hb, hc2⟩ := (Reads.of_own h).2 (by omega)
  have h0 := (row_shape h).2 _ e
  obtain ⟨g, o, sp⟩ := ad
  have h0 : sp = none := h0
  subst h0 e
  have ha := catRP_at l j hj
  refine ⟨g, o, rfl, ?_, ?_⟩
  · have := hc2 _ _ ha.1; rwa [addN] at this
  · have := hc2 _ _ ha.2; rwa [addN] at this
theorem PrsAt.cells {w : World} {v : Value} {L : List RP} (h : PrsAt w v L) : ∃ A c, v = .slice A L.length c ∧ Reads w w.heap.size 2 A L.length (catRP L) := by
  obtain ⟨A, c, rfl, _, hA⟩ := h
  refine ⟨A, c, rfl, catRP_len L, fun h0 => ?_⟩
  obtain ⟨g, o, rfl, k1, _⟩ := hA 0 h0
  refine ⟨_, rfl, World.block_lt_of_cell? w _ k1, fun j u hj => ?_⟩
  rw [addN]
  obtain ⟨i, hi, h2⟩ := catRP_get _ _ _ hj
  obtain ⟨g', o', e', q1, q3⟩ := hA i hi
  injection e' with e'
  injection e' with e1 e2
  subst e1 e2
  rcases h2 with ⟨rfl, rfl⟩ | ⟨rfl, rfl⟩
  · exact q1
  · exact q3
theorem own_sl {w : World} {base : Nat} {e : TypeId} {size n : Nat} {v : Value} {xs : List Value} (h : w.ownsRow base e size v n xs) : ∃ A c, v = .slice A n c := by
  rcases h.2 with ⟨rfl, hn⟩ | ⟨g, cap, cur, rfl, _⟩
  · exact ⟨none, 0, by rw [hn]⟩
  · exact ⟨_, _, rfl⟩
theorem nil_CloneA (n c : Nat) (w : World) : (binOp .eql 23 (.slice none n c) (.slice none 0 0)).run Tryz.prog w = .ok (.bool true) w := by kernel_rfl
theorem some_CloneA (a : Addr) (n c : Nat) (w : World) : (binOp .eql 23 (.slice (some a) n c) (.slice none 0 0)).run Tryz.prog w = .ok (.bool false) w := by kernel_rfl
set_option maxRecDepth 100000 in
set_option maxHeartbeats 2000000 in
theorem CloneA_any (v : Value) (L : List RA) (w : World) (h : AtsAt w v L) (hL : L.length ≤ 1048576) :
    Calls Tryz.prog 46 #[v] w fun e w' => ∃ A n c, e = .returned (.slice A n c) ∧ n = L.length ∧ w'.ownsRow w.heap.size 87 3 (.slice A n c) n (catR L) ∧ Below w.heap.size w w' := by
  obtain ⟨i0, hi0, hz0, hz1, hz2⟩ := info_parts atom_row
  have h9 := h
  obtain ⟨A, c, rfl, hr⟩ := h.cells
  obtain ⟨n, hn⟩ : ∃ n, n = L.length := ⟨_, rfl⟩
  have HL : Hid (n = L.length) := Lib.hid hn
  rw [← hn] at hr hL ⊢
  have HR := Lib.hid hr
  cases A with
  | none =>
    have e0 := nil_CloneA n c
    have hL0 : L = [] := by
      rcases Nat.eq_zero_or_pos n with h0 | h0
      · exact List.eq_nil_of_length_eq_zero (by omega)
      · obtain ⟨_, e, _⟩ := hr.2 h0
        cases e
    have HL0 := Lib.hid hL0
    clear hr hn h9 hL0
    go_enter Tryz.func46, Tryz.ntmps46
    go_wp2_with fail
    go_ret
    exact ⟨none, 0, 0, rfl, by have := HL.out; rw [HL0.out] at this; exact this.symm, by rw [HL0.out]; exact World.ownsRow_nil _ _ _ _, Below.refl _ _⟩
  | some a =>
    have e0 := some_CloneA a n c
    clear hr hn h9
    go_enter Tryz.func46, Tryz.ntmps46
    go_wp2_with (at_builtin; refine wpList_append_any _ rfl (.tmp 5) (.tmp 6) 23 rfl w.heap.size 87 i0 _ 3 40 Tryz.underlying23 hi0 hz0 hz1 hz2 rfl (by decide) (.slice (some ⟨w.heap.size, 0, none⟩) 0 0) 0 [] rfl (own_empty w _ 3 _ rfl) w.heap.size (some a) n c (catR L) rfl (HR.out.alloc (Nat.le_refl _) _) (catR_one L) (by unfold maxLen; omega) (by omega) (by simp) ?_; intro v5 w5 hown5 hg5 hat5; rw [Nat.zero_add, List.nil_append] at hown5; have HB5 : Hid (Below w.heap.size w w5) := Lib.hid (((Below.refl _ w).alloc (Nat.le_refl _) _).grown hg5 (by simp) (fun k hk => by have : w.heap.size = k := (by simpa [Value.ownBlock] using hk); omega)); obtain ⟨vA, vc, rfl⟩ := own_sl hown5; have HO5 := Lib.hid hown5; clear hown5 hg5 hat5)
    go_ret
    exact ⟨vA, n, vc, rfl, rfl, HO5.out, HB5.out⟩
theorem nil_CloneC (n c : Nat) (w : World) : (binOp .eql 55 (.slice none n c) (.slice none 0 0)).run Tryz.prog w = .ok (.bool true) w := by kernel_rfl
theorem some_CloneC (a : Addr) (n c : Nat) (w : World) : (binOp .eql 55 (.slice (some a) n c) (.slice none 0 0)).run Tryz.prog w = .ok (.bool false) w := by kernel_rfl
set_option maxRecDepth 100000 in
set_option maxHeartbeats 2000000 in
theorem CloneC_any (v : Value) (L : List RA) (w : World) (h : AtsAt w v L) (hL : L.length ≤ 1048576) :
    Calls Tryz.prog 68 #[v] w fun e w' => ∃ A n c, e = .returned (.slice A n c) ∧ n = L.length ∧ w'.ownsRow w.heap.size 87 3 (.slice A n c) n (catR L) ∧ Below w.heap.size w w' := by
  obtain ⟨i0, hi0, hz0, hz1, hz2⟩ := info_parts atom_row
  have h9 := h
  obtain ⟨A, c, rfl, hr⟩ := h.cells
  obtain ⟨n, hn⟩ : ∃ n, n = L.length := ⟨_, rfl⟩
  have HL : Hid (n = L.length) := Lib.hid hn
  rw [← hn] at hr hL ⊢
  have HR := Lib.hid hr
  cases A with
  | none =>
    have e0 := nil_CloneC n c
    have hL0 : L = [] := by
      rcases Nat.eq_zero_or_pos n with h0 | h0
      · exact List.eq_nil_of_length_eq_zero (by omega)
      · obtain ⟨_, e, _⟩ := hr.2 h0
        cases e
    have HL0 := Lib.hid hL0
    clear hr hn h9 hL0
    go_enter Tryz.func68, Tryz.ntmps68
    go_wp2_with fail
    go_ret
    exact ⟨none, 0, 0, rfl, by have := HL.out; rw [HL0.out] at this; exact this.symm, by rw [HL0.out]; exact World.ownsRow_nil _ _ _ _, Below.refl _ _⟩
  | some a =>
    have e0 := some_CloneC a n c
    clear hr hn h9
    go_enter Tryz.func68, Tryz.ntmps68
    go_wp2_with (at_builtin; refine wpList_append_any _ rfl (.tmp 5) (.tmp 6) 55 rfl w.heap.size 87 i0 _ 3 40 Tryz.underlying55 hi0 hz0 hz1 hz2 rfl (by decide) (.slice (some ⟨w.heap.size, 0, none⟩) 0 0) 0 [] rfl (own_empty w _ 3 _ rfl) w.heap.size (some a) n c (catR L) rfl (HR.out.alloc (Nat.le_refl _) _) (catR_one L) (by unfold maxLen; omega) (by omega) (by simp) ?_; intro v5 w5 hown5 hg5 hat5; rw [Nat.zero_add, List.nil_append] at hown5; have HB5 : Hid (Below w.heap.size w w5) := Lib.hid (((Below.refl _ w).alloc (Nat.le_refl _) _).grown hg5 (by simp) (fun k hk => by have : w.heap.size = k := (by simpa [Value.ownBlock] using hk); omega)); obtain ⟨vA, vc, rfl⟩ := own_sl hown5; have HO5 := Lib.hid hown5; clear hown5 hg5 hat5)
    go_ret
    exact ⟨vA, n, vc, rfl, rfl, HO5.out, HB5.out⟩
theorem nil_CloneP (n c : Nat) (w : World) : (binOp .eql 24 (.slice none n c) (.slice none 0 0)).run Tryz.prog w = .ok (.bool true) w := by kernel_rfl
theorem some_CloneP (a : Addr) (n c : Nat) (w : World) : (binOp .eql 24 (.slice (some a) n c) (.slice none 0 0)).run Tryz.prog w = .ok (.bool false) w := by kernel_rfl
set_option maxRecDepth 100000 in
set_option maxHeartbeats 2000000 in
theorem CloneP_any (v : Value) (L : List RP) (w : World) (h : PrsAt w v L) (hL : L.length ≤ 1048576) :
    Calls Tryz.prog 47 #[v] w fun e w' => ∃ A n c, e = .returned (.slice A n c) ∧ n = L.length ∧ w'.ownsRow w.heap.size 90 2 (.slice A n c) n (catRP L) ∧ Below w.heap.size w w' := by
  obtain ⟨i0, hi0, hz0, hz1, hz2⟩ := info_parts prov_row
  have h9 := h
  obtain ⟨A, c, rfl, hr⟩ := h.cells
  obtain ⟨n, hn⟩ : ∃ n, n = L.length := ⟨_, rfl⟩
  have HL : Hid (n = L.length) := Lib.hid hn
  rw [← hn] at hr hL ⊢
  have HR := Lib.hid hr
  cases A with
  | none =>
    have e0 := nil_CloneP n c
    have hL0 : L = [] := by
      rcases Nat.eq_zero_or_pos n with h0 | h0
      · exact List.eq_nil_of_length_eq_zero (by omega)
      · obtain ⟨_, e, _⟩ := hr.2 h0
        cases e
    have HL0 := Lib.hid hL0
    clear hr hn h9 hL0
    go_enter Tryz.func47, Tryz.ntmps47
    go_wp2_with fail
    go_ret
    exact ⟨none, 0, 0, rfl, by have := HL.out; rw [HL0.out] at this; exact this.symm, by rw [HL0.out]; exact World.ownsRow_nil _ _ _ _, Below.refl _ _⟩
  | some a =>
    have e0 := some_CloneP a n c
    clear hr hn h9
    go_enter Tryz.func47, Tryz.ntmps47
    go_wp2_with (at_builtin; refine wpList_append_any _ rfl (.tmp 5) (.tmp 6) 24 rfl w.heap.size 90 i0 _ 2 32 Tryz.underlying24 hi0 hz0 hz1 hz2 rfl (by decide) (.slice (some ⟨w.heap.size, 0, none⟩) 0 0) 0 [] rfl (own_empty w _ 2 _ rfl) w.heap.size (some a) n c (catRP L) rfl (HR.out.alloc (Nat.le_refl _) _) (catRP_one L) (by unfold maxLen; omega) (by omega) (by simp) ?_; intro v5 w5 hown5 hg5 hat5; rw [Nat.zero_add, List.nil_append] at hown5; have HB5 : Hid (Below w.heap.size w w5) := Lib.hid (((Below.refl _ w).alloc (Nat.le_refl _) _).grown hg5 (by simp) (fun k hk => by have : w.heap.size = k := (by simpa [Value.ownBlock] using hk); omega)); obtain ⟨vA, vc, rfl⟩ := own_sl hown5; have HO5 := Lib.hid hown5; clear hown5 hg5 hat5)
    go_ret
    exact ⟨vA, n, vc, rfl, rfl, HO5.out, HB5.out⟩
end Go.Proofs.YtjkaigfpjebfbaaGreatDoor
/- value.own: clauses in memory of their own. -/
namespace Go.Proofs.YtjkaigfpjebfbaaGreatDoor
open Go.RowKit
set_option linter.unusedVariables false

theorem reads_one9 {w : World} {g : Nat} {t : TypeId} {a : Value} {B : Nat} (h : Blk w g t #[a]) (hB : g < B) : Reads w B 1 (some ⟨g, 0, none⟩) 1 [a] :=
  ⟨rfl, fun _ => ⟨_, rfl, hB, fun j u hj => by
    rw [addN, Nat.zero_add, h.cell j]
    match j, hj with
    | 0, hj => exact hj
    | j + 1, hj => cases hj⟩⟩
theorem own_lower {w : World} {base base' : Nat} {e : TypeId} {size n : Nat} {v : Value} {xs : List Value} (h : w.ownsRow base e size v n xs) (hb : base' ≤ base) : w.ownsRow base' e size v n xs :=
  ⟨h.1, h.2.imp id fun ⟨g, cap, cur, a, b, r⟩ => ⟨g, cap, cur, a, Nat.le_trans hb b, r⟩⟩
theorem own_apart {w : World} {base base' : Nat} {e e' : TypeId} {size size' n n' : Nat} {v v' : Value} {xs xs' : List Value} (h : w.ownsRow base e size v n xs) (h' : w.ownsRow base' e' size' v' n' xs') (hne : e ≠ e') : ∀ k, v.ownBlock = some k → v'.ownBlock ≠ some k := fun k hk hk' => by
  obtain ⟨_, c1, k1⟩ := own_is h hk
  obtain ⟨_, c2, k2⟩ := own_is h' hk'
  rw [k1] at k2
  injection k2 with k2
  injection k2 with _ k2
  exact hne k2
/-- A row of clauses' slices, each in memory of its own. -/
def ClsO (w : World) (base : Nat) (xs : List Value) (L : List (List RA)) : Prop := xs.length = L.length ∧ ∀ j (h1 : j < xs.length) (h2 : j < L.length), (∃ A c, xs[j] = .slice A L[j].length c) ∧ w.ownsRow base 87 3 xs[j] L[j].length (catR L[j])
theorem ClsO.snoc {w : World} {base : Nat} {xs : List Value} {L : List (List RA)} {v : Value} {l : List RA} (h : ClsO w base xs L) (hs : ∃ A c, v = .slice A l.length c) (hv : w.ownsRow base 87 3 v l.length (catR l)) : ClsO w base (xs ++ [v]) (L ++ [l]) := by
  refine ⟨by rw [List.length_append, List.length_append, h.1]; rfl, fun j h1 h2 => ?_⟩
  by_cases e : j < xs.length
  · have e2 : j < L.length := by rw [← h.1]; exact e
    rw [List.getElem_append_left e, List.getElem_append_left e2]
    exact h.2 j e e2
  · rw [List.length_append] at h1
    simp only [List.length_cons, List.length_nil] at h1
    have e3 : j = xs.length := by omega
    subst e3
    have e4 := h.1
    rw [List.getElem_append_right (Nat.le_refl _), List.getElem_append_right (by omega)]
    simp only [Nat.sub_self, List.getElem_cons_zero, ← e4]
    exact ⟨hs, hv⟩
theorem ClsO.upd {w w' : World} {base : Nat} {xs : List Value} {L : List (List RA)} {T : Nat → Prop} (h : ClsO w base xs L) (hu : Upd T w w') (hT : ∀ k, T k → ∀ (v : Value) (n : Nat) (ys : List Value), w.ownsRow base 87 3 v n ys → v.ownBlock ≠ some k) : ClsO w' base xs L :=
  ⟨h.1, fun j h1 h2 => ⟨(h.2 j h1 h2).1, own_upd (h.2 j h1 h2).2 hu (fun k hk ht => hT k ht _ _ _ (h.2 j h1 h2).2 hk)⟩⟩
theorem ClsO.cls {w : World} {base base' m c : Nat} {A : Option Addr} {xs : List Value} {L : List (List RA)} (h : ClsO w base xs L) (ho : w.ownsRow base' 55 1 (.slice A m c) m xs) : m = L.length ∧ ClsAt w (.slice A m c) L := by
  have hl : xs.length = m := by have := ho.1; omega
  have hm : m = L.length := by rw [← hl, h.1]
  refine ⟨hm, ?_⟩
  subst hm
  refine ⟨A, c, rfl, (row_shape ho).1, fun j hj => ?_⟩
  obtain ⟨ad, e, hb, hc2⟩ := (Reads.of_own ho).2 (by omega)
  have h0 := (row_shape ho).2 _ e
  obtain ⟨g0, o, sp⟩ := ad
  have h0 : sp = none := h0
  subst h0 e
  have := hc2 j _ (List.getElem?_eq_getElem (by omega))
  rw [addN] at this
  obtain ⟨⟨A2, c2, e2⟩, h3⟩ := h.2 j (by omega) hj
  refine ⟨g0, o, _, rfl, this, ?_⟩
  rw [e2] at h3 ⊢
  exact AtsAt.of_row h3 rfl
set_option maxRecDepth 100000 in
set_option maxHeartbeats 4000000 in
theorem own_any (v : Value) (L : List (List RA)) (w : World) (h : ClsAt w v L) (hL : L.length ≤ 1048576) (hI : ∀ l ∈ L, l.length ≤ 1048576) :
    Calls Tryz.prog 45 #[v] w fun e w' => ∃ A n c, e = .returned (.slice A n c) ∧ n = L.length ∧ (∀ w3, Upd (fun k => k < w.heap.size) w' w3 → ClsAt w3 (.slice A n c) L) ∧ Below w.heap.size w w' := by
  obtain ⟨i0, hi0, hz0, hz1, hz2⟩ := info_parts cl_row
  obtain ⟨A, c, rfl, hc, hA⟩ := h
  obtain ⟨n, hn⟩ : ∃ n, n = L.length := ⟨_, rfl⟩
  have HN := Lib.hid hn
  have HA := Lib.hid hA
  have HI := Lib.hid hI
  rw [← hn] at hL hc ⊢
  clear hA hI hn
  go_enter Tryz.func45, Tryz.ntmps45
  go_wp2_with fail
  go_loopw [8, 3] (fun t u wr => ∃ (i : Nat) (xs : List Value), t = .int .i64 (i : Int) ∧ i ≤ n ∧ Hid (wr.ownsRow w.heap.size 55 1 u i xs ∧ ClsO wr w.heap.size xs (L.take i) ∧ Below w.heap.size w wr)) (fun t _ _ => n - (match t with | .int _ x => x.toNat | _ => 0))
  case atStart => exact ⟨0, [], rfl, Nat.zero_le _, Lib.hid ⟨World.ownsRow_nil _ _ _ _, ⟨rfl, fun j h1 h2 => by cases h1⟩, Below.refl _ _⟩⟩
  case round =>
    obtain ⟨i, xs, rfl, hi, HX⟩ := hrel
    obtain ⟨uA, uc, rfl⟩ := own_sl HX.out.1
    by_cases hlt : i < n
    case neg =>
      have hln : ¬ (i : Int) < (n : Int) := by omega
      have HF : Hid (i = n ∧ ∀ w3, Upd (fun k => k < w.heap.size) wr w3 → ClsAt w3 (.slice uA i uc) L) := Lib.hid (by
        have h1 := HX.out.2.1.cls HX.out.1
        rw [List.take_of_length_le (by have := HN.out; omega)] at h1
        refine ⟨h1.1.trans HN.out.symm, fun w3 hu => ?_⟩
        have h2 := (HX.out.2.1.upd hu (fun k hk v m ys hv hk2 => by have := (own_is hv hk2).1; omega)).cls (own_upd HX.out.1 hu (fun k hk ht => by have := (own_is HX.out.1 hk).1; omega))
        rw [List.take_of_length_le (by have := HN.out; omega)] at h2
        exact h2.2)
      go_wp2_with fail
      go_ret
      exact ⟨uA, i, uc, rfl, HF.out.1, HF.out.2, HX.out.2.2⟩
    have hln : (i : Int) < (n : Int) := by omega
    have hil : i < L.length := by have := HN.out; omega
    obtain ⟨g, o, V, rfl, k0, hV⟩ := HA.out i hil
    have k1 : wr.cell? ⟨g, o + i, none⟩ = some V := by rw [HX.out.2.2.cell (World.block_lt_of_cell? w _ k0)]; exact k0
    obtain ⟨l, hl⟩ : ∃ l, l = L[i] := ⟨_, rfl⟩
    rw [← hl] at hV
    have hlz : l.length ≤ 1048576 := by rw [hl]; exact HI.out _ (List.getElem_mem hil)
    have HCL := Lib.hid (CloneC_any V l wr (hV.below HX.out.2.2) hlz)
    have HT : Hid (L.take (i + 1) = L.take i ++ [l]) := Lib.hid (by rw [hl]; exact List.take_succ_eq_append_getElem hil)
    obtain ⟨VA, Vc, rfl, _⟩ := hV
    obtain ⟨q, hq⟩ : ∃ q, q = l.length := ⟨_, rfl⟩
    rw [← hq] at k1 HCL
    have HQ := Lib.hid hq
    clear k0 hl hq
    go_upto_region 6 with (first | (go_at_call 68; refine (HCL.out).mono ?_; rintro e w1 ⟨CA, cn, cc, rfl, hcn, hco, hb1⟩; have HCO := Lib.hid (And.intro hcn hco); have HB1 := Lib.hid hb1; have HO1 : Hid (w1.ownsRow w.heap.size 55 1 (.slice uA i uc) i xs) := Lib.hid (own_upd HX.out.1 (Upd.of_below hb1 (T := fun _ => False) (fun k h1 h2 => by omega)) (fun _ _ h => h)); clear hcn hco hb1) | (at_builtin; refine wpList_append_any _ rfl (.tmp 12) (.tmp 15) 22 rfl w.heap.size 55 i0 _ 1 24 Tryz.underlying22 hi0 hz0 hz1 hz2 rfl (by decide) (.slice uA i uc) i xs rfl (HO1.out.alloc _) (w1.heap.size + 1) (some ⟨w1.heap.size, 0, none⟩) 1 1 [.slice CA cn cc] rfl (reads_one9 (Blk.new w1 _ _) (by simp)) (fun u hu => by simp at hu; subst hu; rfl) (by unfold maxLen; omega) (by omega) (Nat.le_trans HX.out.2.2.size (Nat.le_trans HB1.out.size (by simp))) ?_; intro v5 w5 hown5 hg5 hat5; have HG5 := Lib.hid hg5; have HO5 := Lib.hid hown5; clear hown5 hg5 hat5))
    have hbw1 : Below w.heap.size w w1 := HX.out.2.2.trans (HB1.out.mono HX.out.2.2.size)
    have hu5 : Upd (fun k => (Value.slice uA i uc).ownBlock = some k) w1 w5 := ((Upd.refl _ w1).alloc _).grown HG5.out (fun k hk => .inl hk)
    have hc1 : ClsO w1 w.heap.size (xs ++ [.slice CA cn cc]) (L.take i ++ [l]) := by
      refine (HX.out.2.1.upd (Upd.of_below HB1.out (T := fun _ => False) (fun k h1 h2 => by omega)) (fun _ h => h.elim)).snoc ⟨CA, cc, ?_⟩ ?_
      · rw [HCO.out.1, HQ.out]
      · have h9 := HCO.out.2
        rw [HCO.out.1, HQ.out] at h9 ⊢
        exact own_lower h9 HX.out.2.2.size
    have HC5 : Hid (ClsO w5 w.heap.size (xs ++ [.slice CA cn cc]) (L.take (i + 1))) := Lib.hid (by
      rw [HT.out]
      exact hc1.upd hu5 (fun k hk v m ys hv => fun hk2 => own_apart hv HO1.out (by decide) k hk2 hk))
    have HBW5 : Hid (Below w.heap.size w w5) := Lib.hid ((hbw1.alloc hbw1.size _).grown HG5.out (Nat.le_trans hbw1.size (by simp)) (fun k hk => (own_is HO1.out hk).1))
    clear hbw1 hu5 hc1
    go_wp2_with fail
    refine ⟨⟨i + 1, _, by go_num, by omega, Lib.hid ⟨HO5.out, HC5.out, HBW5.out⟩⟩, ?_⟩
    show n - ((i : Int) + 1).toNat < n - (i : Int).toNat
    omega
end Go.Proofs.YtjkaigfpjebfbaaGreatDoor
/- OfClauses, OfAtoms, OfProvides; Clauses, Atoms, Provides. -/
namespace Go.Proofs.YtjkaigfpjebfbaaGreatDoor
open Go.RowKit
set_option linter.unusedVariables false

/-- A value of the kth kind as it lies in memory. -/
inductive VAt (w : World) : Nat → Value → List (List RA) → List RA → List RP → Prop
  | none : VAt w 0 .nilIface [] [] []
  | text (s : ByteArray) : VAt w 1 (vText s) [] [] []
  | count (n : Int) : VAt w 2 (vCount n) [] [] []
  | yes (b : Bool) : VAt w 3 (vYes b) [] [] []
  | clauses (A : Option Addr) (n c : Nat) (L : List (List RA)) (h : ClsAt w (.slice A n c) L) (h1 : L.length ≤ 1048576) (h2 : ∀ l ∈ L, l.length ≤ 1048576) : VAt w 4 (vClauses (.slice A n c)) L [] []
  | atoms (A : Option Addr) (n c : Nat) (L : List RA) (h : AtsAt w (.slice A n c) L) (h1 : L.length ≤ 1048576) : VAt w 5 (vAtoms (.slice A n c)) [] L []
  | provides (A : Option Addr) (n c : Nat) (L : List RP) (h : PrsAt w (.slice A n c) L) (h1 : L.length ≤ 1048576) : VAt w 6 (vProvides (.slice A n c)) [] [] L
theorem VAt.kind {w : World} {k : Nat} {x : Value} {C : List (List RA)} {A : List RA} {P : List RP} (h : VAt w k x C A P) : VK k x := by
  cases h with
  | none => exact .none
  | text s => exact .text s
  | count n => exact .count n
  | yes b => exact .yes b
  | clauses A n c L h h1 h2 => exact .clauses A n c
  | atoms A n c L h h1 => exact .atoms A n c
  | provides A n c L h h1 => exact .provides A n c
theorem VAt.below {w w' : World} {k : Nat} {x : Value} {C : List (List RA)} {A : List RA} {P : List RP} (h : VAt w k x C A P) (hb : Below w.heap.size w w') : VAt w' k x C A P := by
  cases h with
  | none => exact .none
  | text s => exact .text s
  | count n => exact .count n
  | yes b => exact .yes b
  | clauses A n c L h h1 h2 => exact .clauses A n c _ (h.below hb) h1 h2
  | atoms A n c L h h1 => exact .atoms A n c _ (h.below hb) h1
  | provides A n c L h h1 => exact .provides A n c _ (h.below hb) h1
/-- The one cell of a block behind it is set: a row of the call's own stands. -/
theorem own_set {w : World} {base n g : Nat} {e : TypeId} {size : Nat} {v x : Value} {xs : List Value} (h : w.ownsRow base e size v n xs) (hg : g < base) : (w.setCell ⟨g, 0, none⟩ x).ownsRow base e size v n xs :=
  own_upd h ((Upd.refl (fun k => k = g) w).setCell (.inl rfl) _) (fun k hk e => by have := (own_is h hk).1; omega)

set_option maxRecDepth 100000 in
set_option maxHeartbeats 1000000 in
theorem OfAtoms_any (v : Value) (L : List RA) (w : World) (h : AtsAt w v L) (hL : L.length ≤ 1048576) : Calls Tryz.prog 27 #[v] w fun e w' => ∃ A n c, e = .returned (.agg #[.iface 23 (.slice A n c)]) ∧ (∀ W, Upd (fun k => k < w.heap.size) w' W → AtsAt W (.slice A n c) L) ∧ Below w.heap.size w w' := by
  obtain ⟨w1, hw1⟩ : ∃ w1, w1 = w.alloc (.cells #[.nilIface] 30) := ⟨_, rfl⟩
  have hz : w1.heap.size = w.heap.size + 1 := by rw [hw1]; simp
  have HK : Hid (Blk w1 w.heap.size 30 #[.nilIface]) := Lib.hid (by rw [hw1]; exact Blk.new w _ _)
  have HB : Hid (Below w.heap.size w w1) := Lib.hid (by rw [hw1]; exact (Below.refl _ w).alloc (Nat.le_refl _) _)
  have HC := Lib.hid (CloneA_any v L w1 (h.below HB.out) hL)
  have HZ := Lib.hid hz
  clear h hz
  go_enter Tryz.func27, Tryz.ntmps27
  go_upto_region 1 with fail
  rw [← hw1]
  clear hw1
  go_wp2_with (go_at_call 46; refine (HC.out).mono ?_; rintro e w2 ⟨CA, cn, cc, rfl, hcn, hco, hb2⟩; have HK2 : Hid (Blk w2 w.heap.size 30 #[.nilIface]) := Lib.hid (HK.out.below hb2 HK.out.lt); have HB2 := Lib.hid (HB.out.trans (hb2.mono HB.out.size)); have HO := Lib.hid (And.intro hcn hco); have k0 : w2.cell? ⟨w.heap.size, 0, none⟩ = some .nilIface := HK2.out.cell 0; have k1 : w2.frozen? ⟨w.heap.size, 0, none⟩ = false := HK2.out.frozen 0; clear hb2 hcn hco)
  refine ret_val Tryz.results27 w.heap.size #[.iface 23 (.slice CA cn cc)] (HK2.out.set_ 0 _) rfl rfl rfl ⟨CA, cn, cc, rfl, ?_, HB2.out.setCell (Nat.le_refl _) _⟩
  exact fun W hW => AtsAt.of_row (own_upd (own_set HO.out.2 (by have := HZ.out; omega)) hW (fun k hk e => by have h8 := own_is HO.out.2 hk; have h9 := HZ.out; have h10 : k < w.heap.size := e; omega)) HO.out.1

set_option maxRecDepth 100000 in
set_option maxHeartbeats 1000000 in
theorem OfProvides_any (v : Value) (L : List RP) (w : World) (h : PrsAt w v L) (hL : L.length ≤ 1048576) : Calls Tryz.prog 28 #[v] w fun e w' => ∃ A n c, e = .returned (.agg #[.iface 24 (.slice A n c)]) ∧ (∀ W, Upd (fun k => k < w.heap.size) w' W → PrsAt W (.slice A n c) L) ∧ Below w.heap.size w w' := by
  obtain ⟨w1, hw1⟩ : ∃ w1, w1 = w.alloc (.cells #[.nilIface] 30) := ⟨_, rfl⟩
  have hz : w1.heap.size = w.heap.size + 1 := by rw [hw1]; simp
  have HK : Hid (Blk w1 w.heap.size 30 #[.nilIface]) := Lib.hid (by rw [hw1]; exact Blk.new w _ _)
  have HB : Hid (Below w.heap.size w w1) := Lib.hid (by rw [hw1]; exact (Below.refl _ w).alloc (Nat.le_refl _) _)
  have HC := Lib.hid (CloneP_any v L w1 (h.below HB.out) hL)
  have HZ := Lib.hid hz
  clear h hz
  go_enter Tryz.func28, Tryz.ntmps28
  go_upto_region 1 with fail
  rw [← hw1]
  clear hw1
  go_wp2_with (go_at_call 47; refine (HC.out).mono ?_; rintro e w2 ⟨CA, cn, cc, rfl, hcn, hco, hb2⟩; have HK2 : Hid (Blk w2 w.heap.size 30 #[.nilIface]) := Lib.hid (HK.out.below hb2 HK.out.lt); have HB2 := Lib.hid (HB.out.trans (hb2.mono HB.out.size)); have HO := Lib.hid (And.intro hcn hco); have k0 : w2.cell? ⟨w.heap.size, 0, none⟩ = some .nilIface := HK2.out.cell 0; have k1 : w2.frozen? ⟨w.heap.size, 0, none⟩ = false := HK2.out.frozen 0; clear hb2 hcn hco)
  refine ret_val Tryz.results28 w.heap.size #[.iface 24 (.slice CA cn cc)] (HK2.out.set_ 0 _) rfl rfl rfl ⟨CA, cn, cc, rfl, ?_, HB2.out.setCell (Nat.le_refl _) _⟩
  exact fun W hW => PrsAt.of_row (own_upd (own_set HO.out.2 (by have := HZ.out; omega)) hW (fun k hk e => by have h8 := own_is HO.out.2 hk; have h9 := HZ.out; have h10 : k < w.heap.size := e; omega)) HO.out.1

set_option maxRecDepth 100000 in
set_option maxHeartbeats 1000000 in
theorem OfClauses_any (v : Value) (L : List (List RA)) (w : World) (h : ClsAt w v L) (hL : L.length ≤ 1048576) (hI : ∀ l ∈ L, l.length ≤ 1048576) : Calls Tryz.prog 26 #[v] w fun e w' => ∃ A n c, e = .returned (.agg #[.iface 22 (.slice A n c)]) ∧ (∀ W, Upd (fun k => k < w.heap.size) w' W → ClsAt W (.slice A n c) L) ∧ Below w.heap.size w w' := by
  obtain ⟨w1, hw1⟩ : ∃ w1, w1 = w.alloc (.cells #[.nilIface] 30) := ⟨_, rfl⟩
  have hz : w1.heap.size = w.heap.size + 1 := by rw [hw1]; simp
  have HK : Hid (Blk w1 w.heap.size 30 #[.nilIface]) := Lib.hid (by rw [hw1]; exact Blk.new w _ _)
  have HB : Hid (Below w.heap.size w w1) := Lib.hid (by rw [hw1]; exact (Below.refl _ w).alloc (Nat.le_refl _) _)
  have HC := Lib.hid (own_any v L w1 (h.below HB.out) hL hI)
  have HZ := Lib.hid hz
  clear h hz
  go_enter Tryz.func26, Tryz.ntmps26
  go_upto_region 1 with fail
  rw [← hw1]
  clear hw1
  go_wp2_with (go_at_call 45; refine (HC.out).mono ?_; rintro e w2 ⟨CA, cn, cc, rfl, hcn, hco, hb2⟩; have HK2 : Hid (Blk w2 w.heap.size 30 #[.nilIface]) := Lib.hid (HK.out.below hb2 HK.out.lt); have HB2 := Lib.hid (HB.out.trans (hb2.mono HB.out.size)); have HO := Lib.hid hco; have k0 : w2.cell? ⟨w.heap.size, 0, none⟩ = some .nilIface := HK2.out.cell 0; have k1 : w2.frozen? ⟨w.heap.size, 0, none⟩ = false := HK2.out.frozen 0; clear hb2 hcn hco)
  refine ret_val Tryz.results26 w.heap.size #[.iface 22 (.slice CA cn cc)] (HK2.out.set_ 0 _) rfl rfl rfl ⟨CA, cn, cc, rfl, ?_, HB2.out.setCell (Nat.le_refl _) _⟩
  exact fun W hW => HO.out _ (((Upd.refl _ w2).setCell (.inl (by show w.heap.size < w1.heap.size; have := HZ.out; omega)) _).trans (hW.mono (fun k _ hk => by show k < w1.heap.size; have hk : k < w.heap.size := hk; have := HZ.out; omega)))

set_option maxRecDepth 100000 in
set_option maxHeartbeats 2000000 in
theorem Clauses_any {k : Nat} {x : Value} {C : List (List RA)} {A9 : List RA} {P : List RP} (w : World) (hv : VAt w k x C A9 P) : Calls Tryz.prog 15 #[.agg #[x]] w fun e w' => ∃ u, e = .returned (.tuple #[u, .bool (decide (k = 4))]) ∧ ClsAt w' u C ∧ Below w.heap.size w w' := by
  obtain ⟨w1, hw1⟩ : ∃ w1, w1 = w.alloc (.cells #[x] 30) := ⟨_, rfl⟩
  have k0 : w1.cell? ⟨w.heap.size, 0, none⟩ = some x := by rw [hw1]; exact (Blk.new w _ _).cell 0
  have HB : Hid (Below w.heap.size w w1) := Lib.hid (by rw [hw1]; exact (Below.refl _ w).alloc (Nat.le_refl _) _)
  cases hv with
  | none =>
    have HC := Lib.hid (own_any (.slice none 0 0) [] w1 (ClsAt.nil _) (by decide) (fun l hl => by cases hl))
    have t1 := ta_none_clauses 
    go_enter Tryz.func15, Tryz.ntmps15
    go_upto_region 1 with fail
    rw [← hw1]
    clear hw1
    go_wp2_with (go_at_call 45; refine (HC.out).mono ?_; rintro e w2 ⟨CA, cn, cc, rfl, hcn, hco, hb2⟩; have HO := Lib.hid (And.intro hco hcn); have HB2 := Lib.hid (HB.out.trans (hb2.mono HB.out.size)); clear hb2 hco hcn)
    exact bodyPost_ret (v := .tuple #[.slice CA cn cc, .bool false]) (by simp [results, Tryz.results15, go_sem]) rfl ⟨_, rfl, HO.out.1 _ (Upd.refl _ _), HB2.out⟩
  | text s =>
    have HC := Lib.hid (own_any (.slice none 0 0) [] w1 (ClsAt.nil _) (by decide) (fun l hl => by cases hl))
    have t1 := ta_text_clauses s
    go_enter Tryz.func15, Tryz.ntmps15
    go_upto_region 1 with fail
    rw [← hw1]
    clear hw1
    go_wp2_with (go_at_call 45; refine (HC.out).mono ?_; rintro e w2 ⟨CA, cn, cc, rfl, hcn, hco, hb2⟩; have HO := Lib.hid (And.intro hco hcn); have HB2 := Lib.hid (HB.out.trans (hb2.mono HB.out.size)); clear hb2 hco hcn)
    exact bodyPost_ret (v := .tuple #[.slice CA cn cc, .bool false]) (by simp [results, Tryz.results15, go_sem]) rfl ⟨_, rfl, HO.out.1 _ (Upd.refl _ _), HB2.out⟩
  | count n =>
    have HC := Lib.hid (own_any (.slice none 0 0) [] w1 (ClsAt.nil _) (by decide) (fun l hl => by cases hl))
    have t1 := ta_count_clauses n
    go_enter Tryz.func15, Tryz.ntmps15
    go_upto_region 1 with fail
    rw [← hw1]
    clear hw1
    go_wp2_with (go_at_call 45; refine (HC.out).mono ?_; rintro e w2 ⟨CA, cn, cc, rfl, hcn, hco, hb2⟩; have HO := Lib.hid (And.intro hco hcn); have HB2 := Lib.hid (HB.out.trans (hb2.mono HB.out.size)); clear hb2 hco hcn)
    exact bodyPost_ret (v := .tuple #[.slice CA cn cc, .bool false]) (by simp [results, Tryz.results15, go_sem]) rfl ⟨_, rfl, HO.out.1 _ (Upd.refl _ _), HB2.out⟩
  | yes b =>
    have HC := Lib.hid (own_any (.slice none 0 0) [] w1 (ClsAt.nil _) (by decide) (fun l hl => by cases hl))
    have t1 := ta_yes_clauses b
    go_enter Tryz.func15, Tryz.ntmps15
    go_upto_region 1 with fail
    rw [← hw1]
    clear hw1
    go_wp2_with (go_at_call 45; refine (HC.out).mono ?_; rintro e w2 ⟨CA, cn, cc, rfl, hcn, hco, hb2⟩; have HO := Lib.hid (And.intro hco hcn); have HB2 := Lib.hid (HB.out.trans (hb2.mono HB.out.size)); clear hb2 hco hcn)
    exact bodyPost_ret (v := .tuple #[.slice CA cn cc, .bool false]) (by simp [results, Tryz.results15, go_sem]) rfl ⟨_, rfl, HO.out.1 _ (Upd.refl _ _), HB2.out⟩
  | clauses A n c L h h1 h2 =>
    have HC := Lib.hid (own_any _ _ w1 (h.below HB.out) h1 h2)
    have t1 := ta_clauses_clauses (.slice A n c)
    go_enter Tryz.func15, Tryz.ntmps15
    go_upto_region 1 with fail
    rw [← hw1]
    clear hw1
    go_wp2_with (go_at_call 45; refine (HC.out).mono ?_; rintro e w2 ⟨CA, cn, cc, rfl, hcn, hco, hb2⟩; have HO := Lib.hid (And.intro hco hcn); have HB2 := Lib.hid (HB.out.trans (hb2.mono HB.out.size)); clear hb2 hco hcn)
    exact bodyPost_ret (v := .tuple #[.slice CA cn cc, .bool true]) (by simp [results, Tryz.results15, go_sem]) rfl ⟨_, rfl, HO.out.1 _ (Upd.refl _ _), HB2.out⟩
  | atoms A n c L h h1 =>
    have HC := Lib.hid (own_any (.slice none 0 0) [] w1 (ClsAt.nil _) (by decide) (fun l hl => by cases hl))
    have t1 := ta_atoms_clauses (.slice A n c)
    go_enter Tryz.func15, Tryz.ntmps15
    go_upto_region 1 with fail
    rw [← hw1]
    clear hw1
    go_wp2_with (go_at_call 45; refine (HC.out).mono ?_; rintro e w2 ⟨CA, cn, cc, rfl, hcn, hco, hb2⟩; have HO := Lib.hid (And.intro hco hcn); have HB2 := Lib.hid (HB.out.trans (hb2.mono HB.out.size)); clear hb2 hco hcn)
    exact bodyPost_ret (v := .tuple #[.slice CA cn cc, .bool false]) (by simp [results, Tryz.results15, go_sem]) rfl ⟨_, rfl, HO.out.1 _ (Upd.refl _ _), HB2.out⟩
  | provides A n c L h h1 =>
    have HC := Lib.hid (own_any (.slice none 0 0) [] w1 (ClsAt.nil _) (by decide) (fun l hl => by cases hl))
    have t1 := ta_provides_clauses (.slice A n c)
    go_enter Tryz.func15, Tryz.ntmps15
    go_upto_region 1 with fail
    rw [← hw1]
    clear hw1
    go_wp2_with (go_at_call 45; refine (HC.out).mono ?_; rintro e w2 ⟨CA, cn, cc, rfl, hcn, hco, hb2⟩; have HO := Lib.hid (And.intro hco hcn); have HB2 := Lib.hid (HB.out.trans (hb2.mono HB.out.size)); clear hb2 hco hcn)
    exact bodyPost_ret (v := .tuple #[.slice CA cn cc, .bool false]) (by simp [results, Tryz.results15, go_sem]) rfl ⟨_, rfl, HO.out.1 _ (Upd.refl _ _), HB2.out⟩
set_option maxRecDepth 100000 in
set_option maxHeartbeats 2000000 in
theorem Atoms_any {k : Nat} {x : Value} {C : List (List RA)} {A9 : List RA} {P : List RP} (w : World) (hv : VAt w k x C A9 P) : Calls Tryz.prog 16 #[.agg #[x]] w fun e w' => ∃ u, e = .returned (.tuple #[u, .bool (decide (k = 5))]) ∧ AtsAt w' u A9 ∧ Below w.heap.size w w' := by
  obtain ⟨w1, hw1⟩ : ∃ w1, w1 = w.alloc (.cells #[x] 30) := ⟨_, rfl⟩
  have k0 : w1.cell? ⟨w.heap.size, 0, none⟩ = some x := by rw [hw1]; exact (Blk.new w _ _).cell 0
  have HB : Hid (Below w.heap.size w w1) := Lib.hid (by rw [hw1]; exact (Below.refl _ w).alloc (Nat.le_refl _) _)
  cases hv with
  | none =>
    have HC := Lib.hid (CloneA_any (.slice none 0 0) [] w1 (AtsAt.nil _) (by decide))
    have t1 := ta_none_atoms 
    go_enter Tryz.func16, Tryz.ntmps16
    go_upto_region 1 with fail
    rw [← hw1]
    clear hw1
    go_wp2_with (go_at_call 46; refine (HC.out).mono ?_; rintro e w2 ⟨CA, cn, cc, rfl, hcn, hco, hb2⟩; have HO := Lib.hid (And.intro hco hcn); have HB2 := Lib.hid (HB.out.trans (hb2.mono HB.out.size)); clear hb2 hco hcn)
    exact bodyPost_ret (v := .tuple #[.slice CA cn cc, .bool false]) (by simp [results, Tryz.results16, go_sem]) rfl ⟨_, rfl, AtsAt.of_row HO.out.1 HO.out.2, HB2.out⟩
  | text s =>
    have HC := Lib.hid (CloneA_any (.slice none 0 0) [] w1 (AtsAt.nil _) (by decide))
    have t1 := ta_text_atoms s
    go_enter Tryz.func16, Tryz.ntmps16
    go_upto_region 1 with fail
    rw [← hw1]
    clear hw1
    go_wp2_with (go_at_call 46; refine (HC.out).mono ?_; rintro e w2 ⟨CA, cn, cc, rfl, hcn, hco, hb2⟩; have HO := Lib.hid (And.intro hco hcn); have HB2 := Lib.hid (HB.out.trans (hb2.mono HB.out.size)); clear hb2 hco hcn)
    exact bodyPost_ret (v := .tuple #[.slice CA cn cc, .bool false]) (by simp [results, Tryz.results16, go_sem]) rfl ⟨_, rfl, AtsAt.of_row HO.out.1 HO.out.2, HB2.out⟩
  | count n =>
    have HC := Lib.hid (CloneA_any (.slice none 0 0) [] w1 (AtsAt.nil _) (by decide))
    have t1 := ta_count_atoms n
    go_enter Tryz.func16, Tryz.ntmps16
    go_upto_region 1 with fail
    rw [← hw1]
    clear hw1
    go_wp2_with (go_at_call 46; refine (HC.out).mono ?_; rintro e w2 ⟨CA, cn, cc, rfl, hcn, hco, hb2⟩; have HO := Lib.hid (And.intro hco hcn); have HB2 := Lib.hid (HB.out.trans (hb2.mono HB.out.size)); clear hb2 hco hcn)
    exact bodyPost_ret (v := .tuple #[.slice CA cn cc, .bool false]) (by simp [results, Tryz.results16, go_sem]) rfl ⟨_, rfl, AtsAt.of_row HO.out.1 HO.out.2, HB2.out⟩
  | yes b =>
    have HC := Lib.hid (CloneA_any (.slice none 0 0) [] w1 (AtsAt.nil _) (by decide))
    have t1 := ta_yes_atoms b
    go_enter Tryz.func16, Tryz.ntmps16
    go_upto_region 1 with fail
    rw [← hw1]
    clear hw1
    go_wp2_with (go_at_call 46; refine (HC.out).mono ?_; rintro e w2 ⟨CA, cn, cc, rfl, hcn, hco, hb2⟩; have HO := Lib.hid (And.intro hco hcn); have HB2 := Lib.hid (HB.out.trans (hb2.mono HB.out.size)); clear hb2 hco hcn)
    exact bodyPost_ret (v := .tuple #[.slice CA cn cc, .bool false]) (by simp [results, Tryz.results16, go_sem]) rfl ⟨_, rfl, AtsAt.of_row HO.out.1 HO.out.2, HB2.out⟩
  | clauses A n c L h h1 h2 =>
    have HC := Lib.hid (CloneA_any (.slice none 0 0) [] w1 (AtsAt.nil _) (by decide))
    have t1 := ta_clauses_atoms (.slice A n c)
    go_enter Tryz.func16, Tryz.ntmps16
    go_upto_region 1 with fail
    rw [← hw1]
    clear hw1
    go_wp2_with (go_at_call 46; refine (HC.out).mono ?_; rintro e w2 ⟨CA, cn, cc, rfl, hcn, hco, hb2⟩; have HO := Lib.hid (And.intro hco hcn); have HB2 := Lib.hid (HB.out.trans (hb2.mono HB.out.size)); clear hb2 hco hcn)
    exact bodyPost_ret (v := .tuple #[.slice CA cn cc, .bool false]) (by simp [results, Tryz.results16, go_sem]) rfl ⟨_, rfl, AtsAt.of_row HO.out.1 HO.out.2, HB2.out⟩
  | atoms A n c L h h1 =>
    have HC := Lib.hid (CloneA_any _ _ w1 (h.below HB.out) h1)
    have t1 := ta_atoms_atoms (.slice A n c)
    go_enter Tryz.func16, Tryz.ntmps16
    go_upto_region 1 with fail
    rw [← hw1]
    clear hw1
    go_wp2_with (go_at_call 46; refine (HC.out).mono ?_; rintro e w2 ⟨CA, cn, cc, rfl, hcn, hco, hb2⟩; have HO := Lib.hid (And.intro hco hcn); have HB2 := Lib.hid (HB.out.trans (hb2.mono HB.out.size)); clear hb2 hco hcn)
    exact bodyPost_ret (v := .tuple #[.slice CA cn cc, .bool true]) (by simp [results, Tryz.results16, go_sem]) rfl ⟨_, rfl, AtsAt.of_row HO.out.1 HO.out.2, HB2.out⟩
  | provides A n c L h h1 =>
    have HC := Lib.hid (CloneA_any (.slice none 0 0) [] w1 (AtsAt.nil _) (by decide))
    have t1 := ta_provides_atoms (.slice A n c)
    go_enter Tryz.func16, Tryz.ntmps16
    go_upto_region 1 with fail
    rw [← hw1]
    clear hw1
    go_wp2_with (go_at_call 46; refine (HC.out).mono ?_; rintro e w2 ⟨CA, cn, cc, rfl, hcn, hco, hb2⟩; have HO := Lib.hid (And.intro hco hcn); have HB2 := Lib.hid (HB.out.trans (hb2.mono HB.out.size)); clear hb2 hco hcn)
    exact bodyPost_ret (v := .tuple #[.slice CA cn cc, .bool false]) (by simp [results, Tryz.results16, go_sem]) rfl ⟨_, rfl, AtsAt.of_row HO.out.1 HO.out.2, HB2.out⟩
set_option maxRecDepth 100000 in
set_option maxHeartbeats 2000000 in
theorem Provides_any {k : Nat} {x : Value} {C : List (List RA)} {A9 : List RA} {P : List RP} (w : World) (hv : VAt w k x C A9 P) : Calls Tryz.prog 17 #[.agg #[x]] w fun e w' => ∃ u, e = .returned (.tuple #[u, .bool (decide (k = 6))]) ∧ PrsAt w' u P ∧ Below w.heap.size w w' := by
  obtain ⟨w1, hw1⟩ : ∃ w1, w1 = w.alloc (.cells #[x] 30) := ⟨_, rfl⟩
  have k0 : w1.cell? ⟨w.heap.size, 0, none⟩ = some x := by rw [hw1]; exact (Blk.new w _ _).cell 0
  have HB : Hid (Below w.heap.size w w1) := Lib.hid (by rw [hw1]; exact (Below.refl _ w).alloc (Nat.le_refl _) _)
  cases hv with
  | none =>
    have HC := Lib.hid (CloneP_any (.slice none 0 0) [] w1 (PrsAt.nil _) (by decide))
    have t1 := ta_none_provides 
    go_enter Tryz.func17, Tryz.ntmps17
    go_upto_region 1 with fail
    rw [← hw1]
    clear hw1
    go_wp2_with (go_at_call 47; refine (HC.out).mono ?_; rintro e w2 ⟨CA, cn, cc, rfl, hcn, hco, hb2⟩; have HO := Lib.hid (And.intro hco hcn); have HB2 := Lib.hid (HB.out.trans (hb2.mono HB.out.size)); clear hb2 hco hcn)
    exact bodyPost_ret (v := .tuple #[.slice CA cn cc, .bool false]) (by simp [results, Tryz.results17, go_sem]) rfl ⟨_, rfl, PrsAt.of_row HO.out.1 HO.out.2, HB2.out⟩
  | text s =>
    have HC := Lib.hid (CloneP_any (.slice none 0 0) [] w1 (PrsAt.nil _) (by decide))
    have t1 := ta_text_provides s
    go_enter Tryz.func17, Tryz.ntmps17
    go_upto_region 1 with fail
    rw [← hw1]
    clear hw1
    go_wp2_with (go_at_call 47; refine (HC.out).mono ?_; rintro e w2 ⟨CA, cn, cc, rfl, hcn, hco, hb2⟩; have HO := Lib.hid (And.intro hco hcn); have HB2 := Lib.hid (HB.out.trans (hb2.mono HB.out.size)); clear hb2 hco hcn)
    exact bodyPost_ret (v := .tuple #[.slice CA cn cc, .bool false]) (by simp [results, Tryz.results17, go_sem]) rfl ⟨_, rfl, PrsAt.of_row HO.out.1 HO.out.2, HB2.out⟩
  | count n =>
    have HC := Lib.hid (CloneP_any (.slice none 0 0) [] w1 (PrsAt.nil _) (by decide))
    have t1 := ta_count_provides n
    go_enter Tryz.func17, Tryz.ntmps17
    go_upto_region 1 with fail
    rw [← hw1]
    clear hw1
    go_wp2_with (go_at_call 47; refine (HC.out).mono ?_; rintro e w2 ⟨CA, cn, cc, rfl, hcn, hco, hb2⟩; have HO := Lib.hid (And.intro hco hcn); have HB2 := Lib.hid (HB.out.trans (hb2.mono HB.out.size)); clear hb2 hco hcn)
    exact bodyPost_ret (v := .tuple #[.slice CA cn cc, .bool false]) (by simp [results, Tryz.results17, go_sem]) rfl ⟨_, rfl, PrsAt.of_row HO.out.1 HO.out.2, HB2.out⟩
  | yes b =>
    have HC := Lib.hid (CloneP_any (.slice none 0 0) [] w1 (PrsAt.nil _) (by decide))
    have t1 := ta_yes_provides b
    go_enter Tryz.func17, Tryz.ntmps17
    go_upto_region 1 with fail
    rw [← hw1]
    clear hw1
    go_wp2_with (go_at_call 47; refine (HC.out).mono ?_; rintro e w2 ⟨CA, cn, cc, rfl, hcn, hco, hb2⟩; have HO := Lib.hid (And.intro hco hcn); have HB2 := Lib.hid (HB.out.trans (hb2.mono HB.out.size)); clear hb2 hco hcn)
    exact bodyPost_ret (v := .tuple #[.slice CA cn cc, .bool false]) (by simp [results, Tryz.results17, go_sem]) rfl ⟨_, rfl, PrsAt.of_row HO.out.1 HO.out.2, HB2.out⟩
  | clauses A n c L h h1 h2 =>
    have HC := Lib.hid (CloneP_any (.slice none 0 0) [] w1 (PrsAt.nil _) (by decide))
    have t1 := ta_clauses_provides (.slice A n c)
    go_enter Tryz.func17, Tryz.ntmps17
    go_upto_region 1 with fail
    rw [← hw1]
    clear hw1
    go_wp2_with (go_at_call 47; refine (HC.out).mono ?_; rintro e w2 ⟨CA, cn, cc, rfl, hcn, hco, hb2⟩; have HO := Lib.hid (And.intro hco hcn); have HB2 := Lib.hid (HB.out.trans (hb2.mono HB.out.size)); clear hb2 hco hcn)
    exact bodyPost_ret (v := .tuple #[.slice CA cn cc, .bool false]) (by simp [results, Tryz.results17, go_sem]) rfl ⟨_, rfl, PrsAt.of_row HO.out.1 HO.out.2, HB2.out⟩
  | atoms A n c L h h1 =>
    have HC := Lib.hid (CloneP_any (.slice none 0 0) [] w1 (PrsAt.nil _) (by decide))
    have t1 := ta_atoms_provides (.slice A n c)
    go_enter Tryz.func17, Tryz.ntmps17
    go_upto_region 1 with fail
    rw [← hw1]
    clear hw1
    go_wp2_with (go_at_call 47; refine (HC.out).mono ?_; rintro e w2 ⟨CA, cn, cc, rfl, hcn, hco, hb2⟩; have HO := Lib.hid (And.intro hco hcn); have HB2 := Lib.hid (HB.out.trans (hb2.mono HB.out.size)); clear hb2 hco hcn)
    exact bodyPost_ret (v := .tuple #[.slice CA cn cc, .bool false]) (by simp [results, Tryz.results17, go_sem]) rfl ⟨_, rfl, PrsAt.of_row HO.out.1 HO.out.2, HB2.out⟩
  | provides A n c L h h1 =>
    have HC := Lib.hid (CloneP_any _ _ w1 (h.below HB.out) h1)
    have t1 := ta_provides_provides (.slice A n c)
    go_enter Tryz.func17, Tryz.ntmps17
    go_upto_region 1 with fail
    rw [← hw1]
    clear hw1
    go_wp2_with (go_at_call 47; refine (HC.out).mono ?_; rintro e w2 ⟨CA, cn, cc, rfl, hcn, hco, hb2⟩; have HO := Lib.hid (And.intro hco hcn); have HB2 := Lib.hid (HB.out.trans (hb2.mono HB.out.size)); clear hb2 hco hcn)
    exact bodyPost_ret (v := .tuple #[.slice CA cn cc, .bool true]) (by simp [results, Tryz.results17, go_sem]) rfl ⟨_, rfl, PrsAt.of_row HO.out.1 HO.out.2, HB2.out⟩
end Go.Proofs.YtjkaigfpjebfbaaGreatDoor
