/- The reference's disk: New. -/
import Derived.Test.YtiiegimnnngnnaaRef4
import Derived.Deep.RegionLaw
namespace Go.Proofs.Ytiiegimnnngnnaa
open Go.RowKit Go.Sort
set_option linter.unusedVariables false

/-- Slices of 64 noughts, each in a block of its own from base on. -/
def RowsN (w : World) (base : Nat) (xs : List Value) : Prop := ∀ v ∈ xs, ∃ g, v = .slice (some ⟨g, 0, none⟩) 64 64 ∧ Blk w g 5 (noughts 64) ∧ base ≤ g
theorem ownsRow_below {w w' : World} {base : Nat} {e : TypeId} {size n : Nat} {v : Value} {xs : List Value} (h : w.ownsRow base e size v n xs) (hb : Below w.heap.size w w') : w'.ownsRow base e size v n xs := by
  obtain ⟨h1, h2⟩ := h
  refine ⟨h1, ?_⟩
  rcases h2 with h2 | ⟨g, cap, cur, e1, e2, e3, e4⟩
  · exact .inl h2
  · exact .inr ⟨g, cap, cur, e1, e2, (hb.block g (Array.getElem?_eq_some_iff.1 e3).1).trans e3, e4⟩
theorem ownsRow_far {w : World} {base : Nat} {e : TypeId} {size n : Nat} {v : Value} {xs : List Value} (h : w.ownsRow base e size v n xs) {m i : Nat} {u : Value} (hm : v.ownBlock ≠ some m) : (w.setCell ⟨m, i, none⟩ u).ownsRow base e size v n xs := by
  obtain ⟨h1, h2⟩ := h
  refine ⟨h1, ?_⟩
  rcases h2 with h2 | ⟨g, cap, cur, rfl, e2, e3, e4⟩
  · exact .inl h2
  · exact .inr ⟨g, cap, cur, rfl, e2, (Below.heap_setCell w ⟨m, i, none⟩ u g (fun e => hm (by rw [e]; rfl))).trans e3, e4⟩
/-- A disk under way: k rows in Now, l rows in Sure. -/
structure RN (w0 w : World) (m k l : Nat) (A B : Option Addr) (cA cB : Nat) (xs ys : List Value) : Prop where
  blk : Blk w m 59 #[.slice A k cA, .slice B l cB, .int .i64 0, .int .i64 0, .bool false]
  mem : w0.heap.size ≤ m
  own1 : w.ownsRow w0.heap.size 22 1 (.slice A k cA) k xs
  own2 : w.ownsRow w0.heap.size 22 1 (.slice B l cB) l ys
  ne : ∀ g, (Value.slice A k cA).ownBlock = some g → (Value.slice B l cB).ownBlock ≠ some g
  rows1 : RowsN w w0.heap.size xs
  rows2 : RowsN w w0.heap.size ys
  bel : Below w0.heap.size w0 w
theorem RN.below {w0 w w' : World} {m k l : Nat} {A B : Option Addr} {cA cB : Nat} {xs ys : List Value} (h : RN w0 w m k l A B cA cB xs ys) (hb : Below w.heap.size w w') : RN w0 w' m k l A B cA cB xs ys :=
  ⟨h.blk.below hb h.blk.lt, h.mem, ownsRow_below h.own1 hb, ownsRow_below h.own2 hb, h.ne, fun v hv => by obtain ⟨g, e, hg, hl⟩ := h.rows1 v hv; exact ⟨g, e, hg.below hb hg.lt, hl⟩, fun v hv => by obtain ⟨g, e, hg, hl⟩ := h.rows2 v hv; exact ⟨g, e, hg.below hb hg.lt, hl⟩, h.bel.trans (hb.mono h.bel.size)⟩
theorem RowsN.grown {w w' : World} {base : Nat} {xs : List Value} (h : RowsN w base xs) {b : Nat} {v : Value} {n : Nat} {zs : List Value} (ho : w.ownsRow b 22 1 v n zs) (hg : w.grownBy w' v.ownBlock) : RowsN w' base xs := fun u hu => by
  obtain ⟨g, e, hk, hl⟩ := h u hu
  exact ⟨g, e, hk.grown hg (Ne.symm (own_blk_ne ho hk (by decide))), hl⟩
theorem RowsN.far {w : World} {base m i : Nat} {u : Value} {xs : List Value} {C : Array Value} (h : RowsN w base xs) (hm : Blk w m 59 C) : RowsN (w.setCell ⟨m, i, none⟩ u) base xs := fun v hv => by
  obtain ⟨g, e, hk, hl⟩ := h v hv
  exact ⟨g, e, hk.far (p := ⟨m, i, none⟩) (hk.ne_ hm (by decide)) u, hl⟩
theorem below_grown {w0 w w' : World} (h : Below w0.heap.size w0 w) {b n : Nat} {e : TypeId} {v : Value} {zs : List Value} (ho : w.ownsRow w0.heap.size e 1 v n zs) (hg : w.grownBy w' v.ownBlock) : Below w0.heap.size w0 w' :=
  h.grown hg h.size (fun k hk => (ho.lt k hk).1)
/-- A row more in Now. -/
theorem RN.now {w0 w w' : World} {m k l g : Nat} {A B A' : Option Addr} {cA cB cA' : Nat} {xs ys : List Value} (h : RN w0 w m k l A B cA cB xs ys) (hg : Blk w g 5 (noughts 64)) (hgb : w0.heap.size ≤ g)
    (ho : w'.ownsRow w0.heap.size 22 1 (.slice A' (k + 1) cA') (k + 1) (xs ++ [.slice (some ⟨g, 0, none⟩) 64 64])) (hgr : w.grownBy w' (Value.slice A k cA).ownBlock)
    (hat : (Value.slice A' (k + 1) cA').ownBlock = (Value.slice A k cA).ownBlock ∨ (Value.slice A' (k + 1) cA').ownBlock = some w.heap.size) :
    RN w0 (w'.setCell ⟨m, 0, none⟩ (.slice A' (k + 1) cA')) m (k + 1) l A' B cA' cB (xs ++ [.slice (some ⟨g, 0, none⟩) 64 64]) ys := by
  have hm' : Blk w' m _ _ := h.blk.grown hgr (Ne.symm (own_blk_ne h.own1 h.blk (by decide)))
  have ho2 : w'.ownsRow w0.heap.size 22 1 (.slice B l cB) l ys := h.own2.kept hgr (by
    cases hq : (Value.slice B l cB).ownBlock with
    | none => exact .inl rfl
    | some q => exact .inr (fun e => h.ne q e.symm hq))
  refine ⟨(hm'.set_ 0 _).cast rfl, h.mem, ownsRow_far ho (own_blk_ne ho hm' (by decide)), ownsRow_far ho2 (own_blk_ne ho2 hm' (by decide)), ?_, ?_, (h.rows2.grown h.own1 hgr).far hm', (below_grown (b := 0) h.bel h.own1 hgr).setCell h.mem _⟩
  · intro q hq e
    rcases hat with h1 | h1
    · exact h.ne q (h1.symm.trans hq) e
    · rw [h1] at hq
      injection hq with hq
      have := (h.own2.lt q e).2
      omega
  · have h1 := h.rows1.grown h.own1 hgr
    have h2 : RowsN w' w0.heap.size (xs ++ [.slice (some ⟨g, 0, none⟩) 64 64]) := by
      intro v hv
      rcases List.mem_append.1 hv with h3 | h3
      · exact h1 v h3
      · rw [List.mem_singleton.1 h3]
        exact ⟨g, rfl, hg.grown hgr (Ne.symm (own_blk_ne h.own1 hg (by decide))), hgb⟩
    exact h2.far hm'
/-- A row more in Sure. -/
theorem RN.sure {w0 w w' : World} {m k l g : Nat} {A B B' : Option Addr} {cA cB cB' : Nat} {xs ys : List Value} (h : RN w0 w m k l A B cA cB xs ys) (hg : Blk w g 5 (noughts 64)) (hgb : w0.heap.size ≤ g)
    (ho : w'.ownsRow w0.heap.size 22 1 (.slice B' (l + 1) cB') (l + 1) (ys ++ [.slice (some ⟨g, 0, none⟩) 64 64])) (hgr : w.grownBy w' (Value.slice B l cB).ownBlock)
    (hat : (Value.slice B' (l + 1) cB').ownBlock = (Value.slice B l cB).ownBlock ∨ (Value.slice B' (l + 1) cB').ownBlock = some w.heap.size) :
    RN w0 (w'.setCell ⟨m, 1, none⟩ (.slice B' (l + 1) cB')) m k (l + 1) A B' cA cB' xs (ys ++ [.slice (some ⟨g, 0, none⟩) 64 64]) := by
  have hm' : Blk w' m _ _ := h.blk.grown hgr (Ne.symm (own_blk_ne h.own2 h.blk (by decide)))
  have ho2 : w'.ownsRow w0.heap.size 22 1 (.slice A k cA) k xs := h.own1.kept hgr (by
    cases hq : (Value.slice A k cA).ownBlock with
    | none => exact .inl rfl
    | some q => exact .inr (fun e => h.ne q hq e.symm))
  refine ⟨(hm'.set_ 1 _).cast rfl, h.mem, ownsRow_far ho2 (own_blk_ne ho2 hm' (by decide)), ownsRow_far ho (own_blk_ne ho hm' (by decide)), ?_, (h.rows1.grown h.own2 hgr).far hm', ?_, (below_grown (b := 0) h.bel h.own2 hgr).setCell h.mem _⟩
  · intro q hq e
    rcases hat with h1 | h1
    · exact h.ne q hq (h1.symm.trans e)
    · rw [h1] at e
      injection e with e
      have := (h.own1.lt q hq).2
      omega
  · have h1 := h.rows2.grown h.own2 hgr
    have h2 : RowsN w' w0.heap.size (ys ++ [.slice (some ⟨g, 0, none⟩) 64 64]) := by
      intro v hv
      rcases List.mem_append.1 hv with h3 | h3
      · exact h1 v h3
      · rw [List.mem_singleton.1 h3]
        exact ⟨g, rfl, hg.grown hgr (Ne.symm (own_blk_ne h.own2 hg (by decide))), hgb⟩
    exact h2.far hm'
theorem RN.form {w0 w : World} {m k l : Nat} {A B : Option Addr} {cA cB : Nat} {xs ys : List Value} (h : RN w0 w m k l A B cA cB xs ys) : True := trivial
theorem tab_of {w : World} {T : Nat → Prop} {base n : Nat} {A : Option Addr} {cA : Nat} {xs : List Value} (ho : w.ownsRow base 22 1 (.slice A n cA) n xs) (hr : RowsN w base xs) (hT : ∀ g, (Value.slice A n cA).ownBlock = some g → T g) (hN : ∀ g C, base ≤ g → Blk w g 5 C → ¬ T g) (f : Nat → List Nat) (hf : ∀ i, i < n → f i = List.replicate 64 0) : TabAt w T A n f := by
  intro hn
  obtain ⟨h1, h2⟩ := ho
  rcases h2 with ⟨_, h0⟩ | ⟨g, cap, cur, e, hg, hh, hnc, hcm, hsz, ht⟩
  · omega
  · cases e
    rw [Nat.mul_one] at ht h1 hsz
    refine ⟨g, cur, rfl, hh, by omega, hT g rfl, fun i hi => ?_⟩
    have hx : xs[i]? = some (xs[i]'(by omega)) := List.getElem?_eq_getElem (by omega)
    obtain ⟨g2, e2, hb2, hl2⟩ := hr _ (List.getElem_mem (l := xs) (n := i) (by omega))
    refine ⟨xs[i]'(by omega), ?_, g2, 0, 64, e2, Nat.le_refl _, by unfold maxLen; omega, ?_, hN g2 _ hl2 hb2⟩
    · rw [← hx, ← ht, List.getElem?_take, if_pos hi, Array.getElem?_toList]
    · rw [hf i hi]
      exact hb2.bytes_ 64 _ (by simp) (fun x hx => by have := (List.mem_replicate.1 hx).2; omega) (by rfl)
/-- What New hands back. -/
theorem RN.ref {w0 w : World} {m n : Nat} {A B : Option Addr} {cA cB : Nat} {xs ys : List Value} (h : RN w0 w m n n A B cA cB xs ys) (hn : n ≤ 4096) (T : Nat → Prop) (hT : ∀ k, rT m A B k → T k) (hN : ∀ g C, w0.heap.size ≤ g → Blk w g 5 C → ¬ T g) : RefAt w T m A B cA cB (Dk.new n) := by
  have hA : ∀ g, (Value.slice A n cA).ownBlock = some g → A = some ⟨g, 0, none⟩ := by
    intro g hg
    rcases h.own1.2 with ⟨e, _⟩ | ⟨g', cap, cur, e, _⟩
    · rw [e] at hg; cases hg
    · rw [e] at hg; cases e; cases hg; rfl
  have hB : ∀ g, (Value.slice B n cB).ownBlock = some g → B = some ⟨g, 0, none⟩ := by
    intro g hg
    rcases h.own2.2 with ⟨e, _⟩ | ⟨g', cap, cur, e, _⟩
    · rw [e] at hg; cases hg
    · rw [e] at hg; cases e; cases hg; rfl
  refine ⟨h.blk, hT m (.inl rfl), tab_of h.own1 h.rows1 (fun g hg => hT g (.inr (.inl (hA g hg)))) hN _ (fun i hi => rfl), tab_of h.own2 h.rows2 (fun g hg => hT g (.inr (.inr (hB g hg)))) hN _ (fun i hi => rfl), ?_, (own_cap h.own1).1, (own_cap h.own2).1, Dk.Ok.new hn⟩
  intro r _ e1 e2
  subst e1; subst e2
  exact h.ne r rfl rfl
theorem reads_one {w : World} {g t B : Nat} {v : Value} (h : Blk w g t #[v]) (hB : g < B) : Reads w B 1 (some ⟨g, 0, none⟩) 1 [v] :=
  ⟨rfl, fun _ => ⟨_, rfl, hB, fun j u hu => by
    match j, hu with
    | 0, hu => cases hu; have e2 : (⟨g, 0, none⟩ : Addr).add 0 = ⟨g, 0, none⟩ := by unfold Addr.add; split <;> simp_all
               rw [e2, h.cell]; rfl
    | j + 1, hu => simp at hu⟩⟩
theorem slice_row : (Try.prog.info? 22).map (fun i => (i.zero, i.size, i.bytes)) = some (some (.slice none 0 0), 1, 24) := by kernel_rfl
set_option maxRecDepth 100000 in
set_option maxHeartbeats 2000000 in
theorem RefNew_any (i : Int) (n : Nat) (hn : (n : Int) = max 0 (min i 4096)) (hlo : -9223372036854775808 ≤ i) (hhi : i ≤ 100) (w : World) :
    Calls Try.prog 41 #[.int .i64 i] w fun e w' => ∃ m A B cA cB xs ys, e = .returned (.pointer (some ⟨m, 0, none⟩)) ∧ RN w w' m n n A B cA cB xs ys := by
  obtain ⟨i0, hi0, hz0, hz1, hz2⟩ := info_parts slice_row
  have hmk : ∀ W : World, (Instr.makeSlice 22 (.int .i64 64) (.int .i64 64)).run Try.prog W = .ok (.slice (some ⟨W.heap.size, 0, none⟩) 64 64) (W.alloc (.cells (noughts 64) 5)) := make_bytes 64 (by omega)
  have hn4 : n ≤ 100 := by omega
  obtain ⟨Z, hZ⟩ : ∃ Z, Z = noughts 64 := ⟨_, rfl⟩
  rw [← hZ] at hmk
  have HZ := Lib.hid hZ
  have HN := Lib.hid hn
  clear hn hZ
  have h0 : RN w (w.alloc (.cells #[.slice none 0 0, .slice none 0 0, .int .i64 0, .int .i64 0, .bool false] 59)) w.heap.size 0 0 none none 0 0 [] [] :=
    ⟨Blk.new _ _ _, Nat.le_refl _, World.ownsRow_nil _ _ _ _, World.ownsRow_nil _ _ _ _, (fun g h => by cases h), (fun v h => by cases h), (fun v h => by cases h), (Below.refl _ _).alloc (Nat.le_refl _) _⟩
  have H0 := Lib.hid h0
  clear h0
  rcases (show (i ≤ 0 ∧ n = 0) ∨ (1 ≤ i ∧ i = (n : Int)) by have := HN.out; omega) with ⟨h1, rfl⟩ | ⟨h1, rfl⟩
  · go_enter Try.func41, Try.ntmps41
    go_wp2_with fail
    go_loopw [9] (fun v wr => v = .int .i64 0 ∧ wr = w.alloc (.cells #[.slice none 0 0, .slice none 0 0, .int .i64 0, .int .i64 0, .bool false] 59)) (fun _ _ => 0)
    case atStart => exact ⟨rfl, rfl⟩
    case round =>
      obtain ⟨rfl, rfl⟩ := hrel
      go_wp2_with fail
      go_ret
      exact ⟨_, _, _, _, _, _, _, rfl, H0.out⟩
  · go_enter Try.func41, Try.ntmps41
    go_wp2_with fail
    go_loopw [9] (fun v wr => ∃ k : Nat, k ≤ n ∧ v = .int .i64 k ∧ ∃ A B cA cB xs ys, RN w wr w.heap.size k k A B cA cB xs ys) (fun v _ => n - (intOf v).toNat)
    case atStart => exact ⟨0, by omega, rfl, _, _, _, _, _, _, H0.out⟩
    case round =>
      obtain ⟨k, hk, rfl, A, B, cA, cB, xs, ys, hrn⟩ := hrel
      have HRn := Lib.hid hrn
      have c0 : wr.cell? ⟨w.heap.size, 0, none⟩ = some (.slice A k cA) := hrn.blk.cell 0
      have f0 := hrn.blk.frozen 0
      have hml := hrn.blk.lt
      clear hrn H0
      by_cases hlt : k < n
      · go_upto_region 4 with (fail)
        go_cut [18] (fun _ wx => ∃ A' cA' xs', RN w wx w.heap.size (k + 1) k A' B cA' cB xs' ys)
        case first =>
          have h1 : RN w ((wr.drew.alloc (.cells Z 5)).alloc (.cells #[.slice (some ⟨wr.heap.size, 0, none⟩) 64 64] 22)) w.heap.size k k A B cA cB xs ys := HRn.out.below (((show Below wr.heap.size wr wr.drew from ⟨rfl, rfl, rfl, Nat.le_refl _, fun _ _ => rfl⟩).alloc (Nat.le_refl _) _).alloc (by simp) _)
          have H1 := Lib.hid h1
          have hg1 : Blk ((wr.drew.alloc (.cells Z 5)).alloc (.cells #[.slice (some ⟨wr.heap.size, 0, none⟩) 64 64] 22)) wr.heap.size 5 Z := (Blk.new wr.drew _ _).alloc _
          have HG1 := Lib.hid hg1
          have hs1 : Blk ((wr.drew.alloc (.cells Z 5)).alloc (.cells #[.slice (some ⟨wr.heap.size, 0, none⟩) 64 64] 22)) (wr.heap.size + 1) 22 #[.slice (some ⟨wr.heap.size, 0, none⟩) 64 64] := by
            have := Blk.new (wr.drew.alloc (.cells Z 5)) 22 #[.slice (some ⟨wr.heap.size, 0, none⟩) 64 64]
            rw [World.size_alloc] at this
            exact this
          have HS1 := Lib.hid hs1
          clear h1 hg1 hs1
          go_region_law ((refine step_append_any _ (by rfl) (.tmp 15) (.tmp 17) 57 (by rfl) w.heap.size 22 i0 _ 1 24 Try.underlying57 hi0 hz0 hz1 hz2 rfl (by omega) (.slice A k cA) k xs (by rfl) H1.out.own1 (wr.heap.size + 2) (some ⟨wr.heap.size + 1, 0, none⟩) 1 1 [.slice (some ⟨wr.heap.size, 0, none⟩) 64 64] (by rfl) (reads_one HS1.out (by omega)) (by simp [Value.oneCell']) (by unfold maxLen; omega) (by omega) (by simp; have := HRn.out.bel.size; omega) ?_; intro v1 w3 hown1 hgr1 hat1; obtain ⟨g3, c3, rfl, _, _⟩ := hown1.form (by omega); have hm3 : Blk w3 w.heap.size _ _ := H1.out.blk.grown hgr1 (Ne.symm (own_blk_ne H1.out.own1 H1.out.blk (by decide))); have k0 : w3.cell? ⟨w.heap.size, 0, none⟩ = some (.slice A k cA) := hm3.cell 0; have l0 := hm3.frozen 0; have HOw := Lib.hid hown1; have HGr := Lib.hid hgr1; have HAt := Lib.hid hat1; clear hown1 hgr1 hat1 hm3))
          all_goals
            go_wp2_with fail
            go_meet
            have hgz : Blk ((wr.drew.alloc (.cells Z 5)).alloc (.cells #[.slice (some ⟨wr.heap.size, 0, none⟩) 64 64] 22)) wr.heap.size 5 (noughts 64) := HG1.out.cast HZ.out
            exact ⟨_, _, _, (H1.out.now hgz HRn.out.bel.size HOw.out HGr.out HAt.out).below ⟨rfl, rfl, rfl, Nat.le_refl _, fun _ _ => rfl⟩⟩
        case rest =>
          obtain ⟨A', cA', xs', hrn⟩ := hcut
          have HRc := Lib.hid hrn
          have c1 : wc.cell? ⟨w.heap.size, 1, none⟩ = some (.slice B k cB) := hrn.blk.cell 1
          have f1 := hrn.blk.frozen 1
          have hmc := hrn.blk.lt
          clear hrn c0 f0 hml
          go_upto_region 5 with (fail)
          have h1 : RN w ((wc.drew.alloc (.cells Z 5)).alloc (.cells #[.slice (some ⟨wc.heap.size, 0, none⟩) 64 64] 22)) w.heap.size (k + 1) k A' B cA' cB xs' ys := HRc.out.below (((show Below wc.heap.size wc wc.drew from ⟨rfl, rfl, rfl, Nat.le_refl _, fun _ _ => rfl⟩).alloc (Nat.le_refl _) _).alloc (by simp) _)
          have H1 := Lib.hid h1
          have hg1 : Blk ((wc.drew.alloc (.cells Z 5)).alloc (.cells #[.slice (some ⟨wc.heap.size, 0, none⟩) 64 64] 22)) wc.heap.size 5 Z := (Blk.new wc.drew _ _).alloc _
          have HG1 := Lib.hid hg1
          have hs1 : Blk ((wc.drew.alloc (.cells Z 5)).alloc (.cells #[.slice (some ⟨wc.heap.size, 0, none⟩) 64 64] 22)) (wc.heap.size + 1) 22 #[.slice (some ⟨wc.heap.size, 0, none⟩) 64 64] := by
            have := Blk.new (wc.drew.alloc (.cells Z 5)) 22 #[.slice (some ⟨wc.heap.size, 0, none⟩) 64 64]
            rw [World.size_alloc] at this
            exact this
          have HS1 := Lib.hid hs1
          clear h1 hg1 hs1
          go_region_law ((refine step_append_any _ (by rfl) (.tmp 25) (.tmp 27) 57 (by rfl) w.heap.size 22 i0 _ 1 24 Try.underlying57 hi0 hz0 hz1 hz2 rfl (by omega) (.slice B k cB) k ys (by rfl) H1.out.own2 (wc.heap.size + 2) (some ⟨wc.heap.size + 1, 0, none⟩) 1 1 [.slice (some ⟨wc.heap.size, 0, none⟩) 64 64] (by rfl) (reads_one HS1.out (by omega)) (by simp [Value.oneCell']) (by unfold maxLen; omega) (by omega) (by simp; have := HRc.out.bel.size; omega) ?_; intro v1 w3 hown1 hgr1 hat1; obtain ⟨g3, c3, rfl, _, _⟩ := hown1.form (by omega); have hm3 : Blk w3 w.heap.size _ _ := H1.out.blk.grown hgr1 (Ne.symm (own_blk_ne H1.out.own2 H1.out.blk (by decide))); have k1 : w3.cell? ⟨w.heap.size, 1, none⟩ = some (.slice B k cB) := hm3.cell 1; have l1 := hm3.frozen 1; have HOw := Lib.hid hown1; have HGr := Lib.hid hgr1; have HAt := Lib.hid hat1; clear hown1 hgr1 hat1 hm3))
          all_goals
            have HRd := Lib.hid ((H1.out.sure (HG1.out.cast HZ.out) HRc.out.bel.size HOw.out HGr.out HAt.out))
            go_wp2_with fail
            go_roundw
            case rel => exact ⟨k + 1, by omega, by go_num, _, _, _, _, _, _, HRd.out.below ⟨rfl, rfl, rfl, Nat.le_refl _, fun _ _ => rfl⟩⟩
            case measure => simp [intOf]; omega
      · obtain rfl : k = n := by omega
        go_wp2_with fail
        go_ret
        exact ⟨_, _, _, _, _, _, _, rfl, HRn.out⟩
end Go.Proofs.Ytiiegimnnngnnaa
