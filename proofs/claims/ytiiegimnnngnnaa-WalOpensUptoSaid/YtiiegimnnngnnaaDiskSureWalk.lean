/- DiskSure: the walk. -/
import Derived.Test.YtiiegimnnngnnaaDiskSureLaw
import Derived.Deep.QuietTactic
import Derived.BigQuiet
import Derived.Deep.DeepCutAuto
import Derived.Deep.CutBlock
namespace Go.Proofs.Ytiiegimnnngnnaa
open Go.RowKit Go.Sort
set_option linter.unusedVariables false

/-- A disk of four sectors whose power does not go. -/
structure Sv (m : Nat) (D : Dk) : Prop where
  n : D.n = 4
  down : D.down = false
  fuse : D.fuse = 0
  calls : D.calls ≤ m
theorem Sv.new : Sv 0 (Dk.new 4) := ⟨rfl, rfl, rfl, Nat.le_refl _⟩
theorem Sv.tick_down {m : Nat} {D : Dk} (h : Sv m D) : D.tick.down = false := by
  unfold Dk.tick; simp [h.down, h.fuse]
theorem Sv.tick {m : Nat} {D : Dk} (h : Sv m D) : Sv (m + 1) D.tick :=
  ⟨by rw [D.tick_n]; exact h.n, h.tick_down, Nat.le_zero.1 (h.fuse ▸ D.tick_fuse), by rw [D.tick_calls]; have := h.calls; omega⟩
theorem Sv.write {m : Nat} {D : Dk} (h : Sv m D) (i : Int) (b : List Nat) : Sv (m + 1) (D.write i b) := by
  have ht := h.tick
  unfold Dk.write
  split
  · exact ⟨ht.n, ht.down, ht.fuse, ht.calls⟩
  · exact ht
theorem Sv.flush {m : Nat} {D : Dk} (h : Sv m D) : Sv (m + 1) D.flush := by
  have ht := h.tick
  unfold Dk.flush
  split
  · exact ht
  · exact ⟨ht.n, ht.down, ht.fuse, ht.calls⟩
theorem Sv.flushErr {m : Nat} {D : Dk} (h : Sv m D) : D.flushErr = 0 := by unfold Dk.flushErr; rw [h.tick_down]; rfl
theorem Sv.flushS {m : Nat} {D : Dk} (h : Sv m D) : D.flush.S = D.flush.R := by
  unfold Dk.flush; rw [h.tick_down]; simp [Dk.tick_R]
theorem Sv.readErr {m : Nat} {D : Dk} (h : Sv m D) {i : Nat} (hi : i < 4) : D.readErr (i : Int) = 0 := by
  unfold Dk.readErr; rw [h.down, h.n]; rw [if_neg (by simp), if_pos ⟨by omega, by omega⟩]
theorem Sv.writeErr {m : Nat} {D : Dk} (h : Sv m D) {i : Nat} (hi : i < 4) : D.writeErr (i : Int) 64 = 0 := by
  unfold Dk.writeErr Dk.may; rw [h.tick_down, h.n, if_neg (by simp), if_pos]
  simp; omega
theorem Sv.crash {m : Nat} {D : Dk} (h : Sv m D) (bs : List Nat) : Sv m (D.crash bs) := ⟨h.n, rfl, rfl, h.calls⟩
/-- The blocks that the law may turn. -/
def oT (p r s q : Nat) : Nat → Prop := fun k => dT p r s k ∨ k = q
/-- Block q holds the sectors below i, as they were read. -/
def OldAt (w : World) (p r s q : Nat) (D : Dk) (i : Nat) : Prop :=
  ∃ C : Array Value, Blk w q 49 C ∧ C.size = 4 ∧ ∀ j, j < i → ∃ g o c, C[j]? = some (.slice (some ⟨g, o, none⟩) 64 c) ∧ Bytes w (some ⟨g, o, none⟩) 64 (D.sector j) ∧ ¬ oT p r s q g
theorem OldAt.upd {w w' : World} {p r s q i : Nat} {D : Dk} (h : OldAt w p r s q D i) {T : Nat → Prop} (hu : Upd T w w') (hT : ∀ k, k < w.heap.size → T k → dT p r s k) (hq : ¬ dT p r s q) : OldAt w' p r s q D i := by
  obtain ⟨C, hb, hs, hc⟩ := h
  refine ⟨C, hb.upd hu (fun h => hq (hT _ hb.lt h)), hs, fun j hj => ?_⟩
  obtain ⟨g, o, c, h1, h2, h3⟩ := hc j hj
  refine ⟨g, o, c, h1, h2.upd hu (fun b' o' e h0 h4 => ?_), h3⟩
  cases e
  obtain ⟨b, o2, e2, hl, _⟩ := h2.2.2 h0
  cases e2
  exact h3 (.inl (hT _ hl h4))
theorem OldAt.store {w : World} {p r s q i g o c : Nat} {D : Dk} (h : OldAt w p r s q D i) (hi : i < 4) (hb : Bytes w (some ⟨g, o, none⟩) 64 (D.sector i)) (hg : ¬ oT p r s q g) : OldAt (w.setCell ⟨q, i, none⟩ (.slice (some ⟨g, o, none⟩) 64 c)) p r s q D (i + 1) := by
  obtain ⟨C, hq, hs, hc⟩ := h
  have hu : Upd (fun k => k = q) w (w.setCell ⟨q, i, none⟩ (.slice (some ⟨g, o, none⟩) 64 c)) := Upd.setCell (T := fun k => k = q) (Upd.refl _ w) (.inl rfl) _
  refine ⟨_, hq.set_ i _, by simpa using hs, fun j hj => ?_⟩
  by_cases e : i = j
  · subst e
    exact ⟨g, o, c, by rw [Array.getElem?_setIfInBounds, if_pos rfl, if_pos (by omega)], hb.upd hu (fun b' o' e _ h4 => by cases e; exact hg (.inr h4)), hg⟩
  · obtain ⟨g', o', c', h1, h2, h3⟩ := hc j (by omega)
    exact ⟨g', o', c', by rw [Array.getElem?_setIfInBounds, if_neg e]; exact h1, h2.upd hu (fun b' o'' e _ h4 => by cases e; exact h3 (.inr h4)), h3⟩
theorem own_bytes {w : World} {base : Nat} {e : TypeId} {v : Value} {n : Nat} {bs : List Nat} (h : w.ownsRow base e 1 v n (bs.map fun x => Value.int .u8 ((x : Nat) : Int))) (hl : ∀ x ∈ bs, x < 256) (hn : 0 < n) :
    ∃ g c, v = .slice (some ⟨g, 0, none⟩) n c ∧ base ≤ g ∧ Bytes w (some ⟨g, 0, none⟩) n bs := by
  obtain ⟨A, cp, rfl, hb⟩ := Bytes.of_own h hl
  obtain ⟨h1, h2⟩ := h
  rcases h2 with ⟨h0, hx⟩ | ⟨g, cap, cur, hv, hg, _⟩
  · cases h0
    omega
  · cases hv
    exact ⟨g, _, rfl, hg, hb⟩
/-- The bytes that the law writes. -/
def moreL (ms : List Nat) : List Nat := ms.take 64 ++ (List.replicate 64 0).drop (ms.take 64).length
theorem moreL_length (ms : List Nat) : (moreL ms).length = 64 := by simp [moreL]; omega
theorem moreL_lt (ms : List Nat) (h : ∀ x ∈ ms, x < 256) : ∀ x ∈ moreL ms, x < 256 := by
  intro x hx
  rcases List.mem_append.1 hx with h1 | h1
  · exact h x (List.mem_of_mem_take h1)
  · have := List.mem_replicate.1 (List.mem_of_mem_drop h1); omega
theorem moreL_splice (ms : List Nat) : splice (noughts 64).toList 0 ((ms.take 64).map fun x => Value.int .u8 ((x : Nat) : Int)) = (moreL ms).map fun x => Value.int .u8 ((x : Nat) : Int) := by
  unfold splice moreL noughts
  simp
theorem D3bits (x y z : Nat) (hx : x < 256) (hy : y < 256) (hz : z < 256) (h : (x ^^^ y) &&& (x ^^^ z) = 0) : bits .and .u8 (bits .xor .u8 (x : Int) (y : Int)) (bits .xor .u8 (x : Int) (z : Int)) = 0 := by
  rw [u8_xor_nat x y hx hy, u8_xor_nat x z hx hz, u8_and_nat _ _ (Nat.xor_lt_two_pow (n := 8) hx hy) (Nat.xor_lt_two_pow (n := 8) hx hz), h]; rfl
set_option maxRecDepth 100000 in
set_option maxHeartbeats 2000000 in
theorem diskSure_any (A M P : Option Addr) (n cp mn mc pn pc : Nat) (cs : List CallD) (ms ps : List Nat) (x : Int) (w : World) (hlo : -9223372036854775808 ≤ x) (hhi : x ≤ 9223372036854775807) (hc : CallsAt w A n cs) (hn : n ≤ maxLen)
    (hm : Bytes w M mn ms) (hmc : mn ≤ mc) (hmc2 : mc ≤ maxLen) (hp : Bytes w P pn ps) (hpc : pn ≤ pc) (hpc2 : pc ≤ maxLen) :
    Calls Try.prog 9 #[.slice A n cp, .slice M mn mc, .int .i64 x, .slice P pn pc] w fun e w' => e = .returned (.bool true) ∧ Below w.heap.size w w' := by
  have HC := Lib.hid hc
  have HM := Lib.hid hm
  have HP := Lib.hid hp
  clear hc hm hp
  unfold maxLen at hn
  go_enter Try.func9, Try.ntmps9
  go_upto_block 0 with (go_at_call 30; refine (New_any 4 4 (by decide) (by decide) (by decide) _).mono ?_; rintro e w1 ⟨p, r, s, rfl, hd1, hb1, hp, hr, hs⟩; have HD1 := Lib.hid hd1; have HB1 := Lib.hid hb1; clear hd1 hb1)
  go_cut [10] (fun v10 wx => ∃ D, Sv 30 D ∧ DiskAt wx p r s 4 4 D ∧ Below w.heap.size w wx)
  case first =>
    go_wp2_with fail
    go_loopw [10] (fun v10 wr => ∃ (i : Nat) (D : Dk), i ≤ n ∧ i ≤ 30 ∧ v10 = .int .i64 i ∧ Sv i D ∧ DiskAt wr p r s 4 4 D ∧ Below w.heap.size w wr) (fun v10 _ => 30 - (intOf v10).toNat)
    case atStart => exact ⟨0, _, by omega, by omega, rfl, Sv.new, HD1.out, HB1.out⟩
    case round =>
      obtain ⟨i, D, hin, hi30, rfl, hsv, hd, hbel⟩ := hrel
      have HSv := Lib.hid hsv
      have HD := Lib.hid hd
      have HBel := Lib.hid hbel
      clear hsv hd hbel HD1 HB1
      by_cases hlt : i < n
      · by_cases hlt6 : i < 30
        · obtain ⟨c, b, o, hck, hok, rfl, hb, c0, c1, c2, c3, c4⟩ := HC.out.at_ hlt
          obtain ⟨Do, I, B, sh, PA, qn, qc, pbs⟩ := c
          simp only at c0 c1 c2 c3 c4
          have H5 : Hid (five w b (o + i * 5) _ _ _ _ _) := Lib.hid ⟨c0, c1, c2, c3, c4⟩
          have hI := hok.I
          have hB := hok.B
          simp only at hI hB
          have hcl : D.calls < 4611686018427387904 := by have := HSv.out.calls; omega
          have HCl := Lib.hid hcl
          clear hok hck hcl c0 c1 c2 c3 c4
          obtain ⟨c0, c1, c2, c3, c4⟩ := five_below H5.out hb HBel.out
          by_cases h0 : Do = 0
          · subst h0
            have hbd : Below w.heap.size w wr.drew := HBel.out.drew
            go_wp2_with fail
            go_region_held3 (fun W => W.cell? ⟨b, o + i * 5, none⟩ = some (.int .i64 0) ∧ W.cell? ⟨b, o + i * 5 + 1, none⟩ = some (.int .i64 I) ∧ W.cell? ⟨b, o + i * 5 + 2, none⟩ = some (.int .u8 (B : Int)) ∧ W.cell? ⟨b, o + i * 5 + 3, none⟩ = some (.bool sh) ∧ W.cell? ⟨b, o + i * 5 + 4, none⟩ = some (.slice PA qn qc))
              ((refine five_below H5.out hb ?_; assumption))
              (first
                | (go_at_call 35; refine (sector_any 0 I B sh (.slice PA qn qc) _ hB).mono ?_; rintro e w3 ⟨g, rfl, hg, hbt, hb3⟩; have hB3 : Below w.heap.size w w3 := HBel.out.drew.trans (hb3.mono HBel.out.size))
                | (go_at_call 34
                   have hw := Write_any p r s 4 4 D I (some ⟨g, 0, none⟩) (secLen sh) 64 (secBytes B sh) _ (HD.out.drew.below hb3) hbt (fun g' o' h _ => by have := HD.out.lt; simp only [Option.some.injEq, Addr.mk.injEq, and_true] at h; obtain ⟨rfl, rfl⟩ := h; unfold dT; simp at hg; omega) HCl.out
                   refine hw.mono ?_
                   rintro e w4 ⟨rfl, hd4, hu4⟩
                   have hB4 : Below w.heap.size w w4 := hB3.trans (hu4.below (fun k hk => by unfold dT at hk; omega) hB3.size)))
            clear H5
            go_wp2_with fail
            go_roundw
            case rel => exact ⟨i + 1, _, by omega, by omega, by go_num, HSv.out.write I (secBytes B sh), hd4, hB4⟩
            case measure => simp [intOf]; omega
          · have e0 : (Do == 0) = false := by simpa using h0
            clear H5
            go_wp2_with fail
            go_roundw
            case rel => exact ⟨i + 1, _, by omega, by omega, by go_num, ⟨HSv.out.n, HSv.out.down, HSv.out.fuse, Nat.le_succ_of_le HSv.out.calls⟩, HD.out, HBel.out⟩
            case measure => simp [intOf]; omega
        · go_wp2_with fail
          go_meet
          exact ⟨D, ⟨HSv.out.n, HSv.out.down, HSv.out.fuse, by have := HSv.out.calls; omega⟩, HD.out, HBel.out⟩
      · go_wp2_with fail
        go_meet
        exact ⟨D, ⟨HSv.out.n, HSv.out.down, HSv.out.fuse, by have := HSv.out.calls; omega⟩, HD.out, HBel.out⟩
  case rest =>
    obtain ⟨D0, hsv, hd, hbel⟩ := hcut
    have HFl := Lib.hid (Flush_any p r s 4 4 D0 wc hd (by have := hsv.calls; omega))
    have HFe := Lib.hid hsv.flushErr
    have HSv := Lib.hid hsv.flush
    have HSS := Lib.hid hsv.flushS
    have HDok := Lib.hid (hd.ok.flush (by have := hsv.calls; omega))
    have HBel := Lib.hid hbel
    clear hsv hd hbel HD1 HB1
    generalize D0.flush = D at HFl HSv HSS HDok
    go_wp2_with (go_at_call 36; have hw := HFl.out; rw [HFe.out] at hw; refine hw.mono ?_; rintro e w4 ⟨rfl, hd4, hu4⟩; have hB4 : Below w.heap.size w w4 := HBel.out.trans (hu4.below (fun k hk => by unfold dT at hk; omega) HBel.out.size); have HD4 := Lib.hid hd4; clear hw HFl hd4 hu4)
    obtain ⟨a, ha, _, hae⟩ := mod_u 4 (by omega) (by omega) x
    simp only [Int.cast_ofNat_Int] at hae
    simp only [hae]
    clear hae
    obtain ⟨q, hq⟩ : ∃ q, q = w4.heap.size := ⟨_, rfl⟩
    have hlt4 := HD4.out.lt
    have hqT : ¬ dT p r s q := by unfold dT; omega
    have hold0 : OldAt (w4.alloc (.cells #[.slice none 0 0, .slice none 0 0, .slice none 0 0, .slice none 0 0] 49)) p r s q D 0 := by
      rw [hq]
      exact ⟨_, Blk.new _ _ _, rfl, fun j hj => absurd hj (by omega)⟩
    have HOld0 := Lib.hid hold0
    rw [← hq]
    have hqb : w.heap.size ≤ q := by rw [hq]; exact hB4.size
    have hbd0 : Below w.heap.size w (w4.alloc (.cells #[.slice none 0 0, .slice none 0 0, .slice none 0 0, .slice none 0 0] 49)) := hB4.alloc (by rw [← hq]; exact hqb) _
    have hd0 : DiskAt (w4.alloc (.cells #[.slice none 0 0, .slice none 0 0, .slice none 0 0, .slice none 0 0] 49)) p r s 4 4 D := HD4.out.below ((Below.refl _ _).alloc (Nat.le_refl _) _)
    have HBd0 := Lib.hid hbd0
    have HD0 := Lib.hid hd0
    have hqd : p < q ∧ r < q ∧ s < q := by omega
    clear hold0 hbd0 hd0 hB4 HD4 hlt4 HBel HFe
    generalize w4.alloc (.cells #[.slice none 0 0, .slice none 0 0, .slice none 0 0, .slice none 0 0] 49) = w5 at *
    clear hq
    go_loopw [54] (fun v wr => ∃ i : Nat, i ≤ 4 ∧ v = .int .i64 i ∧ OldAt wr p r s q D i ∧ DiskAt wr p r s 4 4 D ∧ Below w.heap.size w wr) (fun v _ => 4 - (intOf v).toNat)
    case atStart => exact ⟨0, by omega, rfl, HOld0.out, HD0.out, HBd0.out⟩
    case round =>
      obtain ⟨i, hi4, rfl, hold, hd, hbel⟩ := hrel
      have HOld := Lib.hid hold
      have HD := Lib.hid hd
      have HBel := Lib.hid hbel
      clear hold hd hbel HOld0 HD0 HBd0
      by_cases hi : i < 4
      · have hqw : q < wr.heap.size := by obtain ⟨C, hb, _⟩ := HOld.out; exact hb.lt
        have hrd := Read_any p r s 4 4 D (i : Int) wr HD.out
        rw [HSv.out.readErr hi] at hrd
        have HRd := Lib.hid hrd
        clear hrd
        go_wp2_with (go_at_call 31
                     refine HRd.out.mono ?_
                     rintro e w6 ⟨v, nb, bs, rfl, hown, hb6, hg0, hg1⟩
                     obtain ⟨rfl, rfl, _, _⟩ := hg0 rfl
                     obtain ⟨g, cg, rfl, hgw, hbt⟩ := own_bytes hown (HD.out.ok.sector _) (by omega)
                     rw [Int.toNat_natCast] at hbt
                     have HBt := Lib.hid hbt
                     have HB6 := Lib.hid hb6
                     have HO6 : Hid (OldAt w6 p r s q D i) := Lib.hid (HOld.out.upd (T := fun k => wr.heap.size ≤ k) (Upd.of_below hb6 (fun _ _ h => h)) (fun k h1 h2 => absurd h1 (by omega)) hqT)
                     have fi : w6.frozen? ⟨q, i, none⟩ = false := by obtain ⟨C, hb, _⟩ := HO6.out; exact hb.frozen i
                     have ci : ∃ u, w6.cell? ⟨q, i, none⟩ = some u := by obtain ⟨C, hb, hs4, _⟩ := HO6.out; exact ⟨C[i]'(by omega), by rw [hb.cell, Array.getElem?_eq_getElem (by omega)]⟩
                     obtain ⟨ui, ci⟩ := ci
                     clear hown hb6 hg0 hg1 hbt HRd)
        go_roundw
        case rel => exact ⟨i + 1, by omega, by go_num, HO6.out.store hi HBt.out (by unfold oT dT; omega), (HD.out.below HB6.out).upd (T := fun k => k = q) (Upd.setCell (T := fun k => k = q) (Upd.refl _ _) (.inl rfl) _) (by omega) (by omega) (by omega), (HBel.out.trans (HB6.out.mono HBel.out.size)).setCell (by simp; omega) _⟩
        case measure => simp [intOf]; omega
      · obtain rfl : i = 4 := by omega
        clear hi hi4
        have hmk : ∀ W : World, (Instr.makeSlice 22 (.int .i64 64) (.int .i64 64)).run Try.prog W = .ok (.slice (some ⟨W.heap.size, 0, none⟩) 64 64) (W.alloc (.cells (noughts 64) 5)) := make_bytes 64 (by omega)
        have hspl := moreL_splice ms
        have hzs : (noughts 64).toList.toArray = noughts 64 := by simp
        have hzl : (noughts 64).toList.length = 64 := by rfl
        have HSpl := Lib.hid hspl
        have HZs := Lib.hid hzs
        have HZl := Lib.hid hzl
        clear hspl hzs hzl
        generalize noughts 64 = Z at *
        obtain ⟨gb, hgb⟩ : ∃ gb, gb = wr.heap.size := ⟨_, rfl⟩
        have hZ : Blk (wr.alloc (.cells Z 5)) gb 5 Z := by rw [hgb]; exact Blk.new _ _ _
        have hb7 : Below gb wr (wr.alloc (.cells Z 5)) := by rw [hgb]; exact (Below.refl _ _).alloc (Nat.le_refl _) _
        have hwg : w.heap.size ≤ gb := by rw [hgb]; exact HBel.out.size
        have hqg : q < gb := by obtain ⟨C, hb, _⟩ := HOld.out; rw [hgb]; exact hb.lt
        have hms : Bytes (wr.alloc (.cells Z 5)) M mn ms := HM.out.below (HBel.out.trans (hb7.mono hwg))
        have HZB := Lib.hid hZ
        have HB7 := Lib.hid hb7
        have HMs := Lib.hid hms
        have hml : ms.length = mn := hms.1
        have HMl := Lib.hid hml
        have hlen : ((ms.take 64).map fun x => Value.int .u8 ((x : Nat) : Int)).length = Nat.min mn 64 := by rw [List.length_map, List.length_take, hml]; exact Nat.min_comm _ _
        have hpos : 0 < ((ms.take 64).map fun x => Value.int .u8 ((x : Nat) : Int)).length → (some ⟨gb, 0, none⟩ : Option Addr) = some ⟨gb, 0, none⟩ ∧ ∃ ad, M = some ad ∧ ∀ j v, ((ms.take 64).map fun x => Value.int .u8 ((x : Nat) : Int))[j]? = some v → (wr.alloc (.cells Z 5)).cell? (ad.add j) = some v := by
          intro h0
          rw [hlen] at h0
          have h00 : 0 < mn := by have : Nat.min mn 64 ≤ mn := Nat.min_le_left _ _; omega
          obtain ⟨b, o, rfl, hbl, hsrc⟩ := hms.src h00
          refine ⟨rfl, _, rfl, fun j v hj => hsrc j v ?_⟩
          rw [List.getElem?_map, List.getElem?_take] at hj
          rw [List.getElem?_map]
          split at hj
          · exact hj
          · cases hj
        have HLen := Lib.hid hlen
        have HPos := Lib.hid hpos
        have hone : ∀ v ∈ ((ms.take 64).map fun x => Value.int .u8 ((x : Nat) : Int)), v.oneCell' = true := bytes_one _
        have HOne := Lib.hid hone
        have hfit : 0 + ((ms.take 64).map fun x => Value.int .u8 ((x : Nat) : Int)).length ≤ Z.toList.length := by rw [HZl.out, hlen]; have : Nat.min mn 64 ≤ 64 := Nat.min_le_right _ _; omega
        have HFit := Lib.hid hfit
        clear hZ hb7 hms hml hlen hpos hone hfit
        rw [← HZs.out] at HZB
        have HL := Lib.hid (moreL_length ms)
        have HLb := Lib.hid (moreL_lt ms HMs.out.2.1)
        generalize hLn : moreL ms = Lm at *
        clear hLn
        generalize hmm : ((ms.take 64).map fun x => Value.int .u8 ((x : Nat) : Int)) = mv at *
        clear hmm
        go_wp2_with (refine wpList_copy_splice rfl (.tmp 67) (.tmp 68) 22 22 rfl 5 Try.underlying22 byte_size _ _ 64 64 mn mc rfl rfl gb 0 Z.toList 5 HZB.out mv HLen.out ?_ HFit.out HOne.out gb wr HB7.out (Nat.le_refl _) ?_)
        · exact fun h => (HPos.out h).2
        intro w8 hZ8 hb8
        have hz8 : Blk w8 wr.heap.size 5 (splice Z.toList 0 mv).toArray := hZ8
        rw [HSpl.out] at hz8
        have hbt8 : Bytes w8 (some ⟨wr.heap.size, 0, none⟩) 64 Lm := hz8.bytes_ 64 Lm HL.out HLb.out (by simp)
        have hlt := HD.out.lt
        have hd8 := HD.out.below hb8
        have hw9 := Write_any p r s 4 4 D (a : Int) (some ⟨wr.heap.size, 0, none⟩) 64 64 Lm w8 hd8 hbt8 (fun g' o' h _ => by simp only [Option.some.injEq, Addr.mk.injEq, and_true] at h; obtain ⟨rfl, rfl⟩ := h; unfold dT; omega) (by have := HSv.out.calls; omega)
        rw [HSv.out.writeErr ha] at hw9
        have HW9 := Lib.hid hw9
        have HBt8 := Lib.hid hbt8
        have hB8 : Below w.heap.size w w8 := HBel.out.trans (hb8.mono HBel.out.size)
        have hO8 : OldAt w8 p r s q D 4 := HOld.out.upd (T := fun k => wr.heap.size ≤ k) (Upd.of_below hb8 (fun _ _ h => h)) (fun k h1 h2 => absurd h1 (by omega)) hqT
        have HO8 := Lib.hid hO8
        have HB8 := Lib.hid hB8
        have hsz8 : wr.heap.size < w8.heap.size := hz8.lt
        clear hZ8 hz8 hbt8 hd8 hw9 hb8 hB8 hO8 HPos HLen HFit HOne HZB HB7 HMs HSpl HZs HZl HOld HD
        have arm : ∀ (w9 : World), DiskAt w9 p r s 4 4 (D.write (a : Int) Lm) → Upd (dT p r s) w8 w9 → Calls Try.prog 37 #[.pointer (some ⟨p, 0, none⟩), .slice P pn pc] w9 fun e w10 =>
            e = .returned (.tuple #[]) ∧ DiskAt w10 p r s 4 4 ((D.write (a : Int) Lm).crash ps) ∧ OldAt w10 p r s q D 4 ∧ Bytes w10 (some ⟨wr.heap.size, 0, none⟩) 64 Lm ∧ Below w.heap.size w w10 ∧ wr.heap.size < w10.heap.size := by
          intro w9 hd9 hu9
          have hb9 : Below w.heap.size w w9 := HB8.out.trans (hu9.below (fun k hk => by unfold dT at hk; omega) HB8.out.size)
          have hP9 := HP.out.below hb9
          refine (Crash_any p r s 4 4 _ P pn pc ps w9 hd9 hP9 hpc hpc2 (fun g o h h0 => by
            subst h
            obtain ⟨b', o', e, hl, _⟩ := HP.out.2.2 h0
            cases e
            unfold dT; omega)).mono ?_
          rintro e w10 ⟨rfl, hd10, hu10⟩
          have hs9 := hu9.size
          have hs10 := hu10.size
          have hu : Upd (dT p r s) w8 w10 := hu9.trans hu10
          exact ⟨rfl, hd10, HO8.out.upd hu (fun _ _ h => h) hqT, HBt8.out.upd hu (fun b o e _ h => by cases e; unfold dT at h; omega), hb9.trans (hu10.below (fun k hk => by unfold dT at hk; omega) hb9.size), by omega⟩
        have HArm := Lib.hid arm
        clear arm
        obtain ⟨gb, hgb2⟩ : ∃ gb, gb = wr.heap.size := ⟨_, rfl⟩
        rw [← hgb2] at HArm HW9 hsz8 ⊢
        subst hgb2
        go_wp2_with (first
          | (go_at_call 34; refine HW9.out.mono ?_; rintro e w9 ⟨rfl, hd9, hu9⟩; have HA9 := Lib.hid (HArm.out w9 hd9 hu9); clear hd9 hu9)
          | (go_at_call 37; refine HA9.out.mono ?_; rintro e w10 ⟨rfl, hd10, hO10, hbt10, hB10, hsz10⟩; have HD10 := Lib.hid hd10; have HO10 := Lib.hid hO10; have HBt10 := Lib.hid hbt10; have HB10 := Lib.hid hB10; clear hd10 hO10 hbt10 hB10))
        have hsv3 := (HSv.out.write (a : Int) Lm).crash ps
        have hre3 : ∀ i : Nat, i < 4 → ((D.write (a : Int) Lm).crash ps).readErr (i : Int) = 0 := fun i hi => hsv3.readErr hi
        have hot3 : ∀ i : Nat, i ≠ a → ((D.write (a : Int) Lm).crash ps).sector i = D.sector i := fun i hi => D.sector_other a i Lm ps HSS.out hi
        have hat3 : ∀ k : Nat, k < 64 → (((D.write (a : Int) Lm).crash ps).R (64 * a + k) ^^^ D.R (64 * a + k)) &&& (((D.write (a : Int) Lm).crash ps).R (64 * a + k) ^^^ Lm.getD k 0) = 0 :=
          fun k hk => D.crash_at a k Lm ps HDok.out HSS.out HSv.out.down (by rw [HSv.out.n]; exact ha) HL.out HLb.out HP.out.2.1 hk
        have HRe3 := Lib.hid hre3
        have HOt3 := Lib.hid hot3
        have HAt3 := Lib.hid hat3
        clear hsv3 hre3 hot3 hat3 HW9 HArm HA9 HBt8 HO8 HB8 HBel HSv HSS HC HM HP HMl
        generalize (D.write (a : Int) Lm).crash ps = D3 at *
        generalize wr.heap.size = gb at *
        go_loopw [78] (fun v w11 => ∃ i : Nat, i ≤ 4 ∧ v = .int .i64 i ∧ Below w10.heap.size w10 w11) (fun v _ => 4 - (intOf v).toNat)
        case atStart => exact ⟨0, by omega, rfl, Below.refl _ _⟩
        case round =>
          obtain ⟨i, hi4, rfl, hb11⟩ := hrel
          have HB11 := Lib.hid hb11
          clear hb11
          by_cases hi : i < 4
          · have hrd := Read_any p r s 4 4 D3 (i : Int) _ (HD10.out.below HB11.out)
            rw [HRe3.out i hi] at hrd
            have HRd := Lib.hid hrd
            clear hrd
            by_cases hia : i = a
            · subst hia
              go_wp2_with (first
                | (go_at_call 31
                   refine HRd.out.mono ?_
                   rintro e w12 ⟨v, nb, bs, rfl, hown, hb12, hg0, hg1⟩
                   obtain ⟨rfl, rfl, _, _⟩ := hg0 rfl
                   obtain ⟨g, cg, rfl, hgw, hbt⟩ := own_bytes hown (HD10.out.ok.sector _) (by omega)
                   rw [Int.toNat_natCast] at hbt
                   have HBt := Lib.hid hbt
                   have HB12 : Hid (Below w10.heap.size w10 w12) := Lib.hid (HB11.out.trans (hb12.mono HB11.out.size))
                   clear hown hb12 hg0 hg1 hbt HRd))
              have hO12 : OldAt w12 p r s q D 4 := HO10.out.upd (T := fun k => w10.heap.size ≤ k) (Upd.of_below HB12.out (fun _ _ h => h)) (fun k h1 h2 => absurd h1 (by omega)) hqT
              have HO12 := Lib.hid hO12
              clear hO12
              have hI0 : (0 : Int) ≤ (i : Int) := by omega
              have hI4 : (i : Int) < 4 := by omega
              go_quiet (fail)
              go_wp2_with fail
              go_loopw [110] (fun v w13 => ∃ k : Nat, k ≤ 64 ∧ v = .int .i64 k ∧ Below w12.heap.size w12 w13) (fun v _ => 64 - (intOf v).toNat)
              case atStart => exact ⟨0, by omega, rfl, (Below.refl _ _).trans ⟨rfl, rfl, rfl, Nat.le_refl _, fun _ _ => rfl⟩⟩
              case round =>
                obtain ⟨k, hk64, rfl, hb13⟩ := hrel
                have HB13 := Lib.hid hb13
                clear hb13
                by_cases hk : k < 64
                · obtain ⟨C, hC, hCs, hCj⟩ := HO12.out
                  obtain ⟨g2, o2, c2, hCi, hbt2, _⟩ := hCj i hi
                  have hqw : q < w12.heap.size := hC.lt
                  have co : wr.cell? ⟨q, i, none⟩ = some (.slice (some ⟨g2, o2, none⟩) 64 c2) := by rw [HB13.out.cell hqw, hC.cell, hCi]
                  obtain ⟨_, _, e2, hg2, hc2⟩ := hbt2.2.2 (by omega)
                  cases e2
                  have ck2 : wr.cell? ⟨g2, o2 + k, none⟩ = some (.int .u8 ((D.R (64 * i + k) : Nat) : Int)) := by rw [HB13.out.cell hg2, hc2 k hk, D.sector_getD i k hk]
                  obtain ⟨_, _, e3, hg3, hc3⟩ := HBt.out.2.2 (by omega)
                  cases e3
                  have ck3 : wr.cell? ⟨g, k, none⟩ = some (.int .u8 ((D3.R (64 * i + k) : Nat) : Int)) := by rw [HB13.out.cell hg3, ← D3.sector_getD i k hk, ← hc3 k hk, Nat.zero_add]
                  have hbt4 := HBt10.out.below HB12.out
                  obtain ⟨_, _, e4, hg4, hc4⟩ := hbt4.2.2 (by omega)
                  cases e4
                  have ck4 : wr.cell? ⟨gb, k, none⟩ = some (.int .u8 ((Lm.getD k 0 : Nat) : Int)) := by rw [HB13.out.cell hg4, ← hc4 k hk, Nat.zero_add]
                  have hx0 := D3bits _ _ _ (HD10.out.ok.R (64 * i + k)) (HDok.out.R (64 * i + k)) (Dk.getD_lt HLb.out k) (HAt3.out k hk)
                  have hk0 : (0 : Int) ≤ (k : Int) := by omega
                  have hk4 : (k : Int) < 64 := by omega
                  clear hC hCs hCj hCi hbt2 hc2 hc3 hc4 hbt4
                  generalize D.R (64 * i + k) = y1 at *
                  generalize D3.R (64 * i + k) = y2 at *
                  generalize Lm.getD k 0 = y3 at *
                  go_wp2_with fail
                  go_quiet (fail)
                  go_wp2_with fail
                  go_roundw
                  case rel => exact ⟨k + 1, by omega, by go_num, HB13.out.trans ⟨rfl, rfl, rfl, Nat.le_refl _, fun _ _ => rfl⟩⟩
                  case measure => simp [intOf]; omega
                · obtain rfl : k = 64 := by omega
                  go_wp2_with fail
                  go_roundw
                  case rel => exact ⟨i + 1, by omega, by go_num, HB12.out.trans (HB13.out.mono HB12.out.size)⟩
                  case measure => simp [intOf]; omega
            · go_wp2_with (first
                | (go_at_call 31
                   refine HRd.out.mono ?_
                   rintro e w12 ⟨v, nb, bs, rfl, hown, hb12, hg0, hg1⟩
                   obtain ⟨rfl, rfl, _, _⟩ := hg0 rfl
                   obtain ⟨g, cg, rfl, hgw, hbt⟩ := own_bytes hown (HD10.out.ok.sector _) (by omega)
                   rw [Int.toNat_natCast, HOt3.out i hia] at hbt
                   have HBt := Lib.hid hbt
                   have HB12 : Hid (Below w10.heap.size w10 w12) := Lib.hid (HB11.out.trans (hb12.mono HB11.out.size))
                   clear hown hb12 hg0 hg1 hbt HRd))
              have hO12 : OldAt w12 p r s q D 4 := HO10.out.upd (T := fun k => w10.heap.size ≤ k) (Upd.of_below HB12.out (fun _ _ h => h)) (fun k h1 h2 => absurd h1 (by omega)) hqT
              obtain ⟨C, hC, hCs, hCj⟩ := hO12
              obtain ⟨g2, o2, c2, hCi, hbt2, _⟩ := hCj i hi
              have co : w12.cell? ⟨q, i, none⟩ = some (.slice (some ⟨g2, o2, none⟩) 64 c2) := by rw [hC.cell, hCi]
              have hcx : ∀ n : Nat, (convert 22 9 (.slice (some ⟨g, 0, none⟩) 64 cg)).run Try.prog (w12.drewN n) = .ok (.string (strOf (D.sector i))) (w12.drewN n) :=
                fun n => (show Bytes (w12.drewN n) _ _ _ from HBt.out).to_string 22 9 5 cg Try.underlying22 Try.underlying5 Try.underlying9
              have hco : ∀ n : Nat, (convert 22 9 (.slice (some ⟨g2, o2, none⟩) 64 c2)).run Try.prog (w12.drewN n) = .ok (.string (strOf (D.sector i))) (w12.drewN n) :=
                fun n => (show Bytes (w12.drewN n) _ _ _ from hbt2).to_string 22 9 5 c2 Try.underlying22 Try.underlying5 Try.underlying9
              clear hC hCs hCj hCi hbt2
              generalize strOf (D.sector i) = S at hcx hco
              have hne : ((i : Int) != (a : Int)) = true := by rw [bne_iff_ne]; omega
              have hne2 : ((i : Int) == (a : Int)) = false := by rw [beq_eq_false_iff_ne]; omega
              have hI0 : (0 : Int) ≤ (i : Int) := by omega
              have hI4 : (i : Int) < 4 := by omega
              go_quiet (fail)
              go_wp2_with fail
              clear hcx hco co hne
              go_loopw [110] (fun v w13 => ∃ k : Nat, k ≤ 64 ∧ v = .int .i64 k ∧ Below w12.heap.size w12 w13) (fun v _ => 64 - (intOf v).toNat)
              case atStart => exact ⟨0, by omega, rfl, (Below.refl _ _).trans ⟨rfl, rfl, rfl, Nat.le_refl _, fun _ _ => rfl⟩⟩
              case round =>
                obtain ⟨k, hk64, rfl, hb13⟩ := hrel
                have HB13 := Lib.hid hb13
                clear hb13
                by_cases hk : k < 64
                · go_wp2_with fail
                  go_quiet (fail)
                  go_wp2_with fail
                  go_roundw
                  case rel => exact ⟨k + 1, by omega, by go_num, HB13.out.trans ⟨rfl, rfl, rfl, Nat.le_refl _, fun _ _ => rfl⟩⟩
                  case measure => simp [intOf]; omega
                · obtain rfl : k = 64 := by omega
                  go_wp2_with fail
                  go_roundw
                  case rel => exact ⟨i + 1, by omega, by go_num, HB12.out.trans (HB13.out.mono HB12.out.size)⟩
                  case measure => simp [intOf]; omega
          · go_wp2_with (go_at_call 33; refine (awake2_any _).mono ?_; rintro e w14 ⟨rfl, hb14⟩)
            go_ret
            exact ⟨rfl, HB10.out.trans ((HB11.out.mono HB10.out.size).trans (hb14.mono (Nat.le_trans HB10.out.size HB11.out.size)))⟩
section
open Go.ChangeShapes Go.WideShapes Go.ChangeAt
theorem diskSure_walk {H : Type} {enc : TypeId × Value → H} (W : World) {base : Nat} (v0 v1 v2 v3 : Value) {d0 d1 d2 d3 : DataW H} {p0 p1 p2 p3 : List MemPlace}
    (h0 : DataW.Trod enc Try.prog W 0 (fun _ => true) true 43 v0 d0 p0) (o0 : Value.okWide Try.prog W .any base 43 v0)
    (h1 : DataW.Trod enc Try.prog W 0 (fun _ => true) true 22 v1 d1 p1) (o1 : Value.okWide Try.prog W .any base 22 v1)
    (h2 : DataW.Trod enc Try.prog W 0 (fun _ => true) true 3 v2 d2 p2) (o2 : Value.okWide Try.prog W .any base 3 v2)
    (h3 : DataW.Trod enc Try.prog W 0 (fun _ => true) true 22 v3 d3 p3) (o3 : Value.okWide Try.prog W .any base 22 v3) :
    Calls Try.prog 9 #[v0, v1, v2, v3] W fun e w' => e = .returned (.bool true) ∧ Below W.heap.size W w' := by
  obtain ⟨x, rfl, rfl, rfl, wx⟩ := open_int Try.underlying3 o2 h2
  have hx : -9223372036854775808 ≤ x ∧ x ≤ 9223372036854775807 := by simpa [Lit.wf, IntKind.min, IntKind.max, IntKind.signed, IntKind.bits] using wx
  obtain ⟨A, n, cp, cs, rfl, hc, hn⟩ := open_calls h0 o0
  obtain ⟨M, mn, mc, ms, rfl, hm, hmc, hmm, _⟩ := open_bytes h1 o1
  obtain ⟨P, pn, pc, ps, rfl, hp, hpc, hpm, _⟩ := open_bytes h3 o3
  exact diskSure_any A M P n cp mn mc pn pc cs ms ps x W hx.1 hx.2 hc hn hm hmc hmm hp hpc hpm
end
end Go.Proofs.Ytiiegimnnngnnaa
