/- The reference's disk: Read, Write, Flush. -/
import Derived.Test.YtiiegimnnngnnaaRef
namespace Go.Proofs.Ytiiegimnnngnnaa
open Go.RowKit Go.Sort
set_option linter.unusedVariables false

theorem slice_size : (Try.prog.info? 22).map (·.size) = some 1 := by kernel_rfl
set_option maxRecDepth 100000 in
set_option maxHeartbeats 1000000 in
theorem RefRead_any (w : World) (T : Nat → Prop) (m : Nat) (A B : Option Addr) (cA cB : Nat) (D : Dk) (i : Int) (h : RefAt w T m A B cA cB D) :
    Calls Try.prog 67 #[.pointer (some ⟨m, 0, none⟩), .int .i64 i] w fun e w' =>
      ∃ v n bs, e = .returned (.tuple #[v, .int .i64 (D.readErr i)]) ∧ w'.ownsRow w.heap.size 5 1 v n (bs.map fun x => Value.int .u8 ((x : Nat) : Int)) ∧ Below w.heap.size w w' ∧
        (D.readErr i = 0 → n = 64 ∧ bs = D.sector i.toNat ∧ 0 ≤ i ∧ i < D.n) ∧ (D.readErr i ≠ 0 → v = .slice none 0 0 ∧ n = 0 ∧ bs = []) := by
  have HR := Lib.hid h
  have hb := h.blk
  unfold refCells at hb
  have c0 : w.cell? ⟨m, 0, none⟩ = some (.slice A D.n cA) := hb.cell 0
  have c4 : w.cell? ⟨m, 4, none⟩ = some (.bool D.down) := hb.cell 4
  clear h hb
  have none_ : ∀ x : Int, x ≠ 0 → ∀ (e : Ending) (w' : World), e = .returned (.tuple #[.slice none 0 0, .int .i64 x]) → w = w' → ∃ v n bs, e = .returned (.tuple #[v, .int .i64 x]) ∧ w'.ownsRow w.heap.size 5 1 v n ((bs : List Nat).map fun x => Value.int .u8 ((x : Nat) : Int)) ∧ Below w.heap.size w w' ∧
        (x = 0 → n = 64 ∧ bs = D.sector i.toNat ∧ 0 ≤ i ∧ i < D.n) ∧ (x ≠ 0 → v = .slice none 0 0 ∧ n = 0 ∧ bs = []) := by
    rintro x hx e _ rfl rfl
    exact ⟨.slice none 0 0, 0, [], rfl, World.ownsRow_nil _ _ _ _, Below.refl _ _, fun h => absurd h hx, fun _ => ⟨rfl, rfl, rfl⟩⟩
  have HNone := Lib.hid none_
  clear none_
  cases hd : D.down
  · by_cases h1 : 0 ≤ i
    · by_cases h2 : i < (D.n : Int)
      · obtain ⟨j, rfl⟩ := Int.eq_ofNat_of_zero_le h1
        have e2 : D.readErr (j : Int) = 0 := by unfold Dk.readErr; rw [hd]; simp; omega
        rw [e2]
        rw [hd] at c4
        obtain ⟨r, C, rfl, hC, hCs, _, hrow⟩ := HR.out.now (by omega)
        obtain ⟨v, hv, g, o, c, rfl, hc, hc2, hbt, _⟩ := hrow j (by omega)
        have cj : w.cell? ⟨r, j, none⟩ = some (.slice (some ⟨g, o, none⟩) 64 c) := by rw [hC.cell, hv]
        have HBt := Lib.hid hbt
        obtain ⟨i0, hi0, hz0, hz1, hz2⟩ := info_parts byte_row
        clear e2 hd HR hrow hv hC hbt HNone
        refine Calls.mono (R := fun e w' => ∃ v, e = .returned (.tuple #[v, .int .i64 0]) ∧ w'.ownsRow w.heap.size 5 1 v 64 ((D.sector j).map fun x => Value.int .u8 ((x : Nat) : Int)) ∧ Below w.heap.size w w') ?_ ?_
        · obtain ⟨Xs, hXs⟩ : ∃ Xs, Xs = D.sector j := ⟨_, rfl⟩
          rw [← hXs] at HBt ⊢
          clear hXs
          generalize D.n = n at *
          go_enter Try.func67, Try.ntmps67
          go_wp2_with (
            (at_builtin
             refine wpList_append_any _ rfl (.const (.slice none 0 0)) (.tmp 27) 22 rfl w.heap.size 5 i0 _ 1 1 Try.underlying22 hi0 hz0 hz1 hz2 rfl (by omega) (.slice none 0 0) 0 [] rfl (World.ownsRow_nil _ _ _ _) w.heap.size (some ⟨g, o, none⟩) 64 c _ rfl HBt.out.reads (bytes_one Xs) (by unfold maxLen; omega) (by omega) (Nat.le_refl _) ?_
             intro v1 w1 hown1 hg1 hat1
             have hb1 : Below w.heap.size w w1 := (Below.refl _ _).grown hg1 (by simp) (fun k hk => by cases hk)
             rw [Nat.zero_add, List.nil_append] at hown1
             have HO := Lib.hid hown1
             clear hg1 hat1 hown1))
          go_ret2
          exact ⟨v1, rfl, HO.out, hb1⟩
        · rintro e w' ⟨v, rfl, hown, hbel⟩
          exact ⟨v, 64, _, rfl, hown, hbel, fun _ => ⟨rfl, by simp, by omega, h2⟩, fun h => absurd rfl h⟩
      · have e2 : D.readErr i = 1 := by unfold Dk.readErr; rw [hd]; simp; omega
        rw [e2]
        rw [hd] at c4
        clear e2 hd HR
        refine Calls.mono (R := fun e w' => e = .returned (.tuple #[.slice none 0 0, .int .i64 1]) ∧ w = w') ?_ (fun e w' h => HNone.out 1 (by decide) e w' h.1 h.2)
        generalize D.n = n at *
        go_enter Try.func67, Try.ntmps67
        go_wp2
        go_ret2
        exact ⟨rfl, rfl⟩
    · have e2 : D.readErr i = 1 := by unfold Dk.readErr; rw [hd]; simp; omega
      rw [e2]
      rw [hd] at c4
      clear e2 hd HR
      refine Calls.mono (R := fun e w' => e = .returned (.tuple #[.slice none 0 0, .int .i64 1]) ∧ w = w') ?_ (fun e w' h => HNone.out 1 (by decide) e w' h.1 h.2)
      generalize D.n = n at *
      go_enter Try.func67, Try.ntmps67
      go_wp2
      go_ret2
      exact ⟨rfl, rfl⟩
  · have e2 : D.readErr i = 7 := by unfold Dk.readErr; rw [hd]; rfl
    rw [e2]
    rw [hd] at c4
    clear e2 hd HR
    refine Calls.mono (R := fun e w' => e = .returned (.tuple #[.slice none 0 0, .int .i64 7]) ∧ w = w') ?_ (fun e w' h => HNone.out 7 (by decide) e w' h.1 h.2)
    generalize D.n = n at *
    go_enter Try.func67, Try.ntmps67
    go_wp2
    go_ret2
    exact ⟨rfl, rfl⟩

/-- One row is put in the place of another. -/
theorem TabAt.put {w w' : World} {T : Nat → Prop} {r n j : Nat} {f f' : Nat → List Nat} {v : Value} (h : TabAt w T (some ⟨r, 0, none⟩) n f) (hw : Below w.heap.size w w') (hv : RowVal w' T v (f' j)) (hj : j < n) (hf : ∀ i, i < n → i ≠ j → f' i = f i) :
    TabAt (w'.setCell ⟨r, j, none⟩ v) T (some ⟨r, 0, none⟩) n f' := by
  intro hn
  obtain ⟨r', C, e, hb, hs, ht, hi⟩ := h hn
  cases e
  have hu : Upd (fun k => w.heap.size ≤ k) w w' := Upd.of_below hw (fun _ _ h => h)
  have hb' := hb.upd hu (by have := hb.lt; omega)
  have h1 := upd1 (upd0 r w') j v
  refine ⟨r, _, rfl, hb'.set_ j v, by simpa using hs, ht, fun i him => ?_⟩
  by_cases e : j = i
  · subst e
    exact ⟨v, by rw [Array.getElem?_setIfInBounds, if_pos rfl, if_pos (by omega)], hv.upd h1 (fun k _ e => by subst e; exact ht)⟩
  · obtain ⟨u, hu1, hu2⟩ := hi i him
    rw [hf i him (Ne.symm e)]
    exact ⟨u, by rw [Array.getElem?_setIfInBounds, if_neg e]; exact hu1, (hu2.upd hu (fun k h1 h2 => absurd h1 (by omega))).upd h1 (fun k _ e => by subst e; exact ht)⟩
theorem one_below {B : Nat} {w W : World} {a : Addr} {v : Option Value} (h : w.cell? a = v) (h1 : a.block < B) (hb : Below B w W) : W.cell? a = v := (hb.cell h1).trans h
theorem one_far {W : World} {a p : Addr} {u : Value} {v : Option Value} (h : W.cell? a = v) (hne : a.block ≠ p.block) : (W.setCell p u).cell? a = v := by
  rw [World.cell?_setCell_other _ _ _ _ (fun e => hne (by rw [e]))]; exact h
theorem own_cap {w : World} {base : Nat} {e : TypeId} {A : Option Addr} {n c : Nat} {xs : List Value} (h : w.ownsRow base e 1 (.slice A n c) n xs) : n ≤ c ∧ c ≤ maxLen := by
  rcases h.2 with ⟨h0, _⟩ | ⟨g, cap, cur, hv, hg, hh, hn, hcap, _⟩
  · cases h0
    exact ⟨Nat.le_refl _, Nat.zero_le _⟩
  · cases hv
    exact ⟨hn, hcap⟩
theorem Dk.write_sectorS (D : Dk) (i : Int) (b : List Nat) (j : Nat) : (D.write i b).sectorS j = D.sectorS j := by unfold Dk.sectorS; rw [D.write_S]
set_option maxRecDepth 100000 in
set_option maxHeartbeats 1000000 in
theorem RefWrite_any (w : World) (T : Nat → Prop) (m : Nat) (A B X : Option Addr) (cA cB l c : Nat) (D : Dk) (i : Int) (b : List Nat) (h : RefAt w T m A B cA cB D) (hb : Bytes w X l b) (hlc : l ≤ c)
    (hX : ∀ g o, X = some ⟨g, o, none⟩ → 0 < l → ¬ T g)
    (hT : ∀ k, T k → k < w.heap.size) (hc : D.calls < 4611686018427387904) :
    Calls Try.prog 59 #[.pointer (some ⟨m, 0, none⟩), .int .i64 i, .slice X l c] w fun e w' =>
      e = .returned (.int .i64 (D.writeErr i l)) ∧ RefAt w' T m A B cA cB (D.write i b) ∧ Upd (rT m A B) w w' := by
  have hl := hb.1
  have hok := h.ok.write hc (i := i) hb.2.1
  have HC := Lib.hid (call_any w T m A B cA cB D h hc)
  have HBy := Lib.hid hb
  have HX := Lib.hid hX
  clear h hb hX
  have hcase : (D.down = true) ∨ (D.down = false ∧ D.may i l = true) ∨ (D.down = false ∧ D.may i l = false) := by
    cases D.down <;> cases D.may i l <;> simp
  have hmono : ∀ w w' : World, Upd (fun k => k = m) w w' → Upd (rT m A B) w w' := fun w w' h => h.mono (fun k _ e => .inl e)
  have HMono := Lib.hid hmono
  clear hmono
  rcases hcase with hd | ⟨hd, hm⟩ | ⟨hd, hm⟩
  · have e1 : D.tick.down = true := by unfold Dk.tick; rw [hd]; simp
    have e2 : D.writeErr i l = 7 := by unfold Dk.writeErr; rw [e1]; rfl
    have e3 : D.write i b = D.tick := by unfold Dk.write; rw [hd]; rfl
    rw [e2, e3]
    rw [hd, e1] at HC
    clear e1 e2 e3 hd hok
    go_enter Try.func59, Try.ntmps59
    go_wp2_with (first
      | (go_at_call 75; refine HC.out.mono ?_; rintro e w1 ⟨rfl, hd1, hu1⟩; have HD1 := Lib.hid hd1; clear hd1))
    go_ret
    exact ⟨rfl, HD1.out, HMono.out _ _ hu1⟩
  · have hin : 0 ≤ i ∧ i < (D.n : Int) ∧ l = 64 := by unfold Dk.may at hm; simp at hm; omega
    obtain ⟨hi0, hin, rfl⟩ := hin
    obtain ⟨j, rfl⟩ := Int.eq_ofNat_of_zero_le hi0
    have hjn : j < D.n := by omega
    have e2 : D.writeErr (j : Int) 64 = if D.tick.down then 7 else 0 := by unfold Dk.writeErr; rw [hm]; rfl
    rw [e2]
    rw [hd] at HC
    have hsec := D.sector_write j b hl hd hjn
    have hwr : D.write (j : Int) b = { D.tick with R := (D.write (j : Int) b).R } := by unfold Dk.write; rw [hd, hl, hm]; rfl
    have hsec2 := D.write_sectorS (j : Int) b
    have htn := D.tick_n
    have hwn := D.write_n (j : Int) b
    have htr : D.tick.sector = D.sector := by funext k; unfold Dk.sector; rw [D.tick_R]
    have hts : D.tick.sectorS = D.sectorS := by funext k; unfold Dk.sectorS; rw [D.tick_S]
    have fin : ∀ (w1 w2 : World) (r : Nat) (v : Value), A = some ⟨r, 0, none⟩ → RefAt w1 T m A B cA cB D.tick → Upd (fun k => k = m) w w1 → Below w1.heap.size w1 w2 → RowVal w2 T v b → T r → RefAt (w2.setCell ⟨r, j, none⟩ v) T m A B cA cB (D.write (j : Int) b) ∧ Upd (rT m A B) w (w2.setCell ⟨r, j, none⟩ v) := by
      rintro w1 w2 r v rfl h1 hu1 hb2 hv hTr
      have hu2 : Upd (rT m (some ⟨r, 0, none⟩) B) w1 (w2.setCell ⟨r, j, none⟩ v) :=
        Upd.setCell (T := rT m (some ⟨r, 0, none⟩) B) (Upd.mono (T := fun k => w1.heap.size ≤ k) (Upd.of_below hb2 (fun _ _ h => h)) (fun k h1 h2 => absurd h1 (by omega))) (.inl (.inr (.inl rfl))) v
      have h2 := h1.below hb2
      have hrm : r ≠ m := by
        obtain ⟨r', C, e, hbk, _⟩ := h1.now (by omega)
        cases e
        exact hbk.ne_ h1.blk (by decide)
      refine ⟨⟨(h2.blk.far (p := ⟨r, j, none⟩) (Ne.symm hrm) v).cast ?_, h1.tm, ?_, ?_, by rw [hwn, ← htn]; exact h1.ne, by rw [hwn, ← htn]; exact h1.cA, by rw [hwn, ← htn]; exact h1.cB, hok⟩, (hu1.mono (fun k _ e => .inl e)).trans hu2⟩
      · rw [hwr]; rfl
      · rw [hwn, ← htn]
        refine TabAt.put h1.now hb2 (by rw [hsec j, if_pos rfl]; exact hv) (by omega) (fun i _ hne => by rw [hsec i, if_neg hne, htr])
      · rw [hwn, ← htn]
        refine TabAt.congr (f := D.tick.sectorS) ?_ (fun i _ => by rw [hts, hsec2 i])
        refine TabAt.upd (T' := fun k => k = r) h2.sure (upd1 (upd0 r w2) j v) (fun k _ e => by subst e; exact hTr) (fun r' e e2 => by subst e2; exact h1.ne _ (by omega) rfl e)
    have HFin := Lib.hid fin
    obtain ⟨i0, hi0', hz0, hz1, hz2⟩ := info_parts byte_row
    have HN := Lib.hid htn
    have HL := Lib.hid hl
    clear fin hsec hsec2 hwr htn hwn htr hts hok hm hd e2 hl
    generalize D.write (j : Int) b = D2 at *
    generalize D.tick = D1 at *
    obtain ⟨q, hq⟩ : ∃ q, q = D1.down := ⟨_, rfl⟩
    rw [← hq] at HC ⊢
    have hjn1 : j < D1.n := by rw [HN.out]; exact hjn
    have hin1 : (j : Int) < (D1.n : Int) := by omega
    have hHT := Lib.hid hT
    clear hq hjn hin hT HMono
    cases q
    all_goals
      go_enter Try.func59, Try.ntmps59
      go_wp2_with (go_at_call 75; refine HC.out.mono ?_; rintro e w1 ⟨rfl, hd1, hu1⟩; have HD1 := Lib.hid hd1; have hb1 := hd1.blk; unfold refCells at hb1; have c0 : w1.cell? ⟨m, 0, none⟩ = some (.slice A D1.n cA) := hb1.cell 0; clear hd1 hb1)
      obtain ⟨r, C, rfl, hC, hCs, hTr, hrow⟩ := HD1.out.now (by omega)
      obtain ⟨vo, hvo, _⟩ := hrow j hjn1
      have cj : w1.cell? ⟨r, j, none⟩ = some vo := by rw [hC.cell, hvo]
      have fj := hC.frozen j
      have hrl := hC.lt
      have hml := HD1.out.blk.lt
      have hmT : ¬ T w1.heap.size := fun h => by have := hHT.out _ h; have := hu1.size; omega
      have hXb : Bytes w1 X 64 b := HBy.out.upd hu1 (fun g o e h0 h4 => HX.out g o e h0 (by subst h4; exact HD1.out.tm))
      have HX1 := Lib.hid hXb
      have HC0 := Lib.hid c0
      have hmr : m ≠ r := fun e => by subst e; exact hC.ne_ HD1.out.blk (by decide) rfl
      have hbd : Below w1.heap.size w1 w1.drew := ⟨rfl, rfl, rfl, Nat.le_refl _, fun _ _ => rfl⟩
      have HTr := Lib.hid hTr
      have hlen : b.length = 64 := HL.out
      have HC1 := Lib.hid hC
      clear hrow hvo hC hTr hXb hlen
      go_region_held3 (fun W => W.cell? ⟨m, 0, none⟩ = some (.slice (some ⟨r, 0, none⟩) D1.n cA))
        (first | (refine one_below HC0.out hml ?_; assumption) | (refine one_far ?_ hmr; refine one_below HC0.out hml ?_; assumption))
        ((refine step_append_any _ (by rfl) (.const (.slice none 0 0)) (.tmp 40) 22 (by rfl) w1.heap.size 5 i0 _ 1 1 Try.underlying22 hi0' hz0 hz1 hz2 rfl (by omega) (.slice none 0 0) 0 [] (by rfl) (World.ownsRow_nil _ _ _ _) w1.heap.size X 64 c _ (by rfl) HX1.out.reads.drew (bytes_one b) (by unfold maxLen; omega) (by omega) (Nat.le_refl _) ?_
          intro v1 w3 hown1 hg1 hat1
          have hb3 : Below w1.heap.size w1 w3 := hbd.grown hg1 (by simp) (fun k hk => by cases hk)
          have f3 : w3.frozen? ⟨r, j, none⟩ = false := (hb3.frozen (p := ⟨r, j, none⟩) hrl).trans fj
          have cj3 : w3.cell? ⟨r, j, none⟩ = some vo := (hb3.cell (p := ⟨r, j, none⟩) hrl).trans cj
          rw [Nat.zero_add, List.nil_append] at hown1
          obtain ⟨g3, c3, rfl, hgw, hbt⟩ := own_bytes hown1 HX1.out.2.1 (by omega)
          have hcc3 : 64 ≤ c3 ∧ c3 ≤ maxLen := own_cap hown1
          have HV3 : Hid (RowVal w3 T (.slice (some ⟨g3, 0, none⟩) 64 c3) b) := Lib.hid ⟨g3, 0, c3, rfl, hcc3.1, hcc3.2, hbt, fun h => by have := hHT.out _ h; have := hu1.size; omega⟩
          clear hown1 hg1 hat1 hgw hbt))
      go_wp2_with (go_at_call 76; refine (end_any _ _ _).mono ?_; rintro e w5 ⟨rfl, rfl⟩)
      go_ret
      obtain ⟨ha, hu⟩ := HFin.out w1 w3 r _ rfl HD1.out hu1 hb3 HV3.out HTr.out
      exact ⟨rfl, ha, hu⟩
  · have e3 : D.write i b = D.tick := by unfold Dk.write; rw [hd, hl, hm]; rfl
    have e2 : D.writeErr i l = if D.tick.down then 7 else 1 := by unfold Dk.writeErr; rw [hm]; rfl
    rw [e2, e3]
    rw [hd] at HC
    have htn := D.tick_n
    have hcs : i < 0 ∨ (0 ≤ i ∧ (D.tick.n : Int) ≤ i) ∨ (0 ≤ i ∧ i < (D.tick.n : Int) ∧ l ≠ 64) := by
      rw [htn]
      unfold Dk.may at hm
      simp at hm
      omega
    clear e2 e3 hd hm hok hl htn
    generalize D.tick = D1 at *
    obtain ⟨q, hq⟩ : ∃ q, q = D1.down := ⟨_, rfl⟩
    rw [← hq] at HC ⊢
    have hHT := Lib.hid hT
    clear hq hT
    rcases hcs with h1 | ⟨h1, h2⟩ | ⟨h1, h2, h3⟩
    · cases q
      all_goals
        go_enter Try.func59, Try.ntmps59
        go_wp2_with (first
          | (go_at_call 75; refine HC.out.mono ?_; rintro e w1 ⟨rfl, hd1, hu1⟩; have HD1 := Lib.hid hd1; have hb1 := hd1.blk; unfold refCells at hb1; have c0 : w1.cell? ⟨m, 0, none⟩ = some (.slice A D1.n cA) := hb1.cell 0; clear hd1 hb1)
          | (go_at_call 76; refine (end_any _ _ _).mono ?_; rintro e w5 ⟨rfl, rfl⟩))
        go_ret
        exact ⟨rfl, HD1.out, HMono.out _ _ hu1⟩
    · cases q
      all_goals
        go_enter Try.func59, Try.ntmps59
        go_wp2_with (first
          | (go_at_call 75; refine HC.out.mono ?_; rintro e w1 ⟨rfl, hd1, hu1⟩; have HD1 := Lib.hid hd1; have hb1 := hd1.blk; unfold refCells at hb1; have c0 : w1.cell? ⟨m, 0, none⟩ = some (.slice A D1.n cA) := hb1.cell 0; clear hd1 hb1)
          | (go_at_call 76; refine (end_any _ _ _).mono ?_; rintro e w5 ⟨rfl, rfl⟩))
        go_ret
        exact ⟨rfl, HD1.out, HMono.out _ _ hu1⟩
    · have h4 : ((l : Int) != 64) = true := by simp; omega
      have h5 : ((l : Int) == 64) = false := by simp; omega
      clear h3
      cases q
      all_goals
        go_enter Try.func59, Try.ntmps59
        go_wp2_with (first
          | (go_at_call 75; refine HC.out.mono ?_; rintro e w1 ⟨rfl, hd1, hu1⟩; have HD1 := Lib.hid hd1; have hb1 := hd1.blk; unfold refCells at hb1; have c0 : w1.cell? ⟨m, 0, none⟩ = some (.slice A D1.n cA) := hb1.cell 0; clear hd1 hb1)
          | (go_at_call 76; refine (end_any _ _ _).mono ?_; rintro e w5 ⟨rfl, rfl⟩))
        go_ret
        exact ⟨rfl, HD1.out, HMono.out _ _ hu1⟩
end Go.Proofs.Ytiiegimnnngnnaa
