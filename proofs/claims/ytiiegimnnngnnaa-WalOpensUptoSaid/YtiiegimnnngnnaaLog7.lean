/- wal: the record at a sector. -/
import Derived.Test.YtiiegimnnngnnaaLog6
import Derived.Test.YtiiegimnnngnnaaZeros
import Derived.Deep.RegionHeld3
namespace Go.Proofs.Ytiiegimnnngnnaa
open Go.RowKit
set_option linter.unusedVariables false

theorem sector_part (D : Dk) (i : Nat) : D.sector i = Wl.part D.R (64 * i) 64 := rfl
theorem read_ok {D : Dk} {i : Nat} (h : D.down = false) (hi : i < D.n) : D.readErr (i : Int) = 0 := by
  unfold Dk.readErr
  rw [h, if_neg (by decide), if_pos ⟨by omega, by omega⟩]
/-- Read, where it is answered. -/
theorem Read_ok (p r s cr cs : Nat) (D : Dk) (i : Nat) (w : World) (h : DiskAt w p r s cr cs D) (hd : D.down = false) (hi : i < D.n) :
    Calls Try.prog 31 #[.pointer (some ⟨p, 0, none⟩), .int .i64 (i : Int)] w fun e w' =>
      ∃ v, e = .returned (.tuple #[v, .int .i64 0]) ∧ Own w' w.heap.size v (Wl.part D.R (64 * i) 64) ∧ Below w.heap.size w w' := by
  have h0 := read_ok hd hi
  refine (Read_any p r s cr cs D (i : Int) w h).mono ?_
  rintro e w' ⟨v, n, bs, rfl, ho, hb, h1, _⟩
  obtain ⟨rfl, rfl, _, _⟩ := h1 h0
  rw [h0]
  refine ⟨v, rfl, ?_, hb⟩
  unfold Own
  rw [Wl.part_len]
  exact ho
theorem part_at {w : World} {g o n : Nat} {R : Nat → Nat} {i : Nat} (h : Bytes w (some ⟨g, o, none⟩) n (Wl.part R i n)) (a c : Nat) (hac : a + c ≤ n) : Bytes w (some ⟨g, o + a, none⟩) c (Wl.part R (i + a) c) := by
  obtain ⟨h1, h2, h3⟩ := h
  refine ⟨Wl.part_len _ _ _, fun x hx => ?_, fun h0 => ?_⟩
  · rw [← Wl.part_sub R i n a c hac] at hx
    exact h2 _ (List.mem_of_mem_drop (List.mem_of_mem_take hx))
  · obtain ⟨b, o', e, hb, hc⟩ := h3 (by omega)
    cases e
    refine ⟨g, o + a, rfl, hb, fun j hj => ?_⟩
    rw [Nat.add_assoc, hc (a + j) (by omega), Wl.part_getD _ _ _ _ (by omega), Wl.part_getD _ _ _ _ hj, Nat.add_assoc]
theorem quiet_l {P : Program} {f : FuncId} {args : Array Value} {w : World} {n : Nat} {v : Value}
    (h : Calls P f args (w.drewN n) fun e w' => e = .returned v ∧ w.drewN n = w') : Calls P f args (w.drewN n) fun e w'' => e = .returned v ∧ ∃ m, w'' = w.drewN m :=
  h.mono fun e w' h => ⟨h.1, n, h.2.symm⟩
theorem num_part (R : Nat → Nat) (i : Nat) : Wl.num (fun k => (Wl.part R i 64).getD k 0) 0 = Wl.num R i := by
  unfold Wl.num
  simp only [Wl.part_getD R i 64 0 (by omega), Wl.part_getD R i 64 (0 + 1) (by omega), Wl.part_getD R i 64 (0 + 2) (by omega), Wl.part_getD R i 64 (0 + 3) (by omega), Nat.zero_add, Nat.add_zero]
set_option maxRecDepth 100000 in
set_option maxHeartbeats 1000000 in
theorem record_any (l g cap p r s cr cs : Nat) (D : Dk) (L : Wl.Lg) (q : Nat) (w : World) (hl : LogAt w l g cap p L) (hd : DiskAt w p r s cr cs D) (hdn : D.down = false) (hto : L.to ≤ D.n) (hq : q ≤ 4294967296) :
    Calls Try.prog 71 #[.pointer (some ⟨l, 0, none⟩), .int .i64 (q : Int)] w fun e w' => Below w.heap.size w w' ∧
      match Wl.recAt D.R q L.to with
      | none => e = .returned (.tuple #[.slice none 0 0, .int .i64 3])
      | some b => ∃ v, e = .returned (.tuple #[v, .int .i64 0]) ∧ Own w' w.heap.size v b := by
  have hn4 := hd.ok.n
  have hR := hd.ok.R
  have c0 : w.cell? ⟨l, 0, none⟩ = some (.pointer (some ⟨p, 0, none⟩)) := hl.blk.cell 0
  have c2 : w.cell? ⟨l, 2, none⟩ = some (.int .i64 (L.to : Int)) := hl.blk.cell 2
  have hll := hl.blk.lt
  have HD := Lib.hid hd
  have HDN := Lib.hid hdn
  have HRD := Lib.hid (fun (i : Nat) (hi : i < D.n) (W : World) (hW : Below w.heap.size w W) => Read_ok p r s cr cs D i W (hd.below hW) hdn hi)
  clear hl hd hdn
  obtain ⟨t, ht⟩ : ∃ t, t = L.to := ⟨_, rfl⟩
  rw [← ht] at hto c2 ⊢
  clear ht
  by_cases h1 : t ≤ q
  · have e1 : Wl.recAt D.R q t = none := by unfold Wl.recAt; rw [if_pos h1]
    rw [e1]
    have h1' : (t : Int) ≤ (q : Int) := by omega
    clear e1 HRD hR
    go_enter Try.func71, Try.ntmps71
    go_wp2_with fail
    go_ret2
    exact ⟨Below.refl _ _, rfl⟩
  · have h1' : (q : Int) < (t : Int) := by omega
    have HR1 := Lib.hid (HRD.out q (by omega) w (Below.refl _ _))
    obtain ⟨sz, hsz⟩ : ∃ sz, sz = Wl.num D.R (64 * q) := ⟨_, rfl⟩
    have hszl : sz < 4294967296 := by rw [hsz]; exact Wl.num_lt hR _
    have HSZ := Lib.hid hsz
    have HLT := Lib.hid hR
    by_cases h2 : 8192 < sz
    · have e1 : Wl.recAt D.R q t = none := by unfold Wl.recAt; rw [if_neg h1, ← hsz, if_pos (.inl h2)]
      rw [e1]
      have h2' : decide ((8192 : Int) < (sz : Int)) = true := decide_eq_true (by omega)
      clear e1 hR hsz h2
      go_enter Try.func71, Try.ntmps71
      go_wp2_with fail
      go_at_call 31
      refine HR1.out.mono ?_
      rintro e w1 ⟨v1, rfl, ho1, hb1⟩
      have HB1 := Lib.hid hb1
      obtain ⟨A1, c1, rfl, hy1, hcy1, hcz1, _⟩ := ho1.bytes (Wl.part_lt HLT.out _ _)
      rw [Wl.part_len] at hy1 hcy1
      unfold Own at ho1
      rw [Wl.part_len] at ho1
      have HO1 := Lib.hid ho1
      obtain ⟨g1, o1, rfl, hg1, _⟩ := hy1.2.2 (by omega)
      have hG := get32_any g1 o1 64 c1 _ w1 hy1 (by omega)
      rw [num_part, ← HSZ.out] at hG
      have HG := Lib.hid hG
      clear ho1 hb1 hy1 hG hcz1
      rw [show (Wl.part D.R (64 * q) 64).length = 64 from Wl.part_len _ _ _]
      go_wp2_with fail
      go_at_call 77
      refine HG.out.mono ?_
      rintro e w2 ⟨rfl, hb2⟩
      have HB2 := Lib.hid (HB1.out.trans (hb2.mono HB1.out.size))
      have HO2 := Lib.hid (own_later HO1.out hb2)
      have c2' : w2.cell? ⟨l, 2, none⟩ = some (.int .i64 (t : Int)) := (HB2.out.cell hll).trans c2
      clear hb2 HG HO1
      go_wp2_with fail
      go_quiet (fail)
      go_wp2_with fail
      go_ret2
      exact ⟨HB2.out.trans ⟨rfl, rfl, rfl, Nat.le_refl _, fun _ _ => rfl⟩, rfl⟩
    · have h2' : decide ((8192 : Int) < (sz : Int)) = false := decide_eq_false (by omega)
      obtain ⟨kn, hkn⟩ : ∃ kn, kn = Wl.need sz := ⟨_, rfl⟩
      have hnd := Wl.need_ge (show sz ≤ 8192 by omega)
      rw [← hkn] at hnd
      have HN := Lib.hid (fun W => Need_nat sz W (by omega))
      simp only [← hkn] at HN
      by_cases h3 : t - q < kn
      · have e1 : Wl.recAt D.R q t = none := by unfold Wl.recAt; rw [if_neg h1, ← hsz, if_pos (.inr (by rw [← hkn]; exact h3))]
        rw [e1]
        have h3' : decide ((t : Int) - (q : Int) < (kn : Int)) = true := decide_eq_true (by omega)
        have h2 := h2
        clear e1 hR hsz hkn
        go_enter Try.func71, Try.ntmps71
        go_wp2_with fail
        go_at_call 31
        refine HR1.out.mono ?_
        rintro e w1 ⟨v1, rfl, ho1, hb1⟩
        have HB1 := Lib.hid hb1
        obtain ⟨A1, c1, rfl, hy1, hcy1, hcz1, _⟩ := ho1.bytes (Wl.part_lt HLT.out _ _)
        rw [Wl.part_len] at hy1 hcy1
        unfold Own at ho1
        rw [Wl.part_len] at ho1
        have HO1 := Lib.hid ho1
        obtain ⟨g1, o1, rfl, hg1, _⟩ := hy1.2.2 (by omega)
        have hG := get32_any g1 o1 64 c1 _ w1 hy1 (by omega)
        rw [num_part, ← HSZ.out] at hG
        have HG := Lib.hid hG
        clear ho1 hb1 hy1 hG hcz1
        rw [show (Wl.part D.R (64 * q) 64).length = 64 from Wl.part_len _ _ _]
        go_wp2_with fail
        go_at_call 77
        refine HG.out.mono ?_
        rintro e w2 ⟨rfl, hb2⟩
        have HB2 := Lib.hid (HB1.out.trans (hb2.mono HB1.out.size))
        have HO2 := Lib.hid (own_later HO1.out hb2)
        have c2' : w2.cell? ⟨l, 2, none⟩ = some (.int .i64 (t : Int)) := (HB2.out.cell hll).trans c2
        clear hb2 HG HO1
        go_wp2_with fail
        go_quiet ((go_at_call 45; exact quiet_l (HN.out _)))
        go_wp2_with fail
        go_ret2
        exact ⟨HB2.out.trans ⟨rfl, rfl, rfl, Nat.le_refl _, fun _ _ => rfl⟩, rfl⟩
      · have h3' : decide ((t : Int) - (q : Int) < (kn : Int)) = false := decide_eq_false (by omega)
        have HKN := Lib.hid hkn
        have hE : Wl.recAt D.R q t = if Wl.bin (Wl.part D.R (64 * q + 8) sz) = Wl.part D.R (64 * q) (64 * kn) then some (Wl.part D.R (64 * q + 8) sz) else none := by
          unfold Wl.recAt
          rw [if_neg h1, ← hsz, if_neg (by rw [← hkn]; omega), ← hkn]
        rw [hE]
        clear hE hR hsz hkn
        refine Calls.mono (R := fun e w' => Below w.heap.size w w' ∧ ((Wl.bin (Wl.part D.R (64 * q + 8) sz) = Wl.part D.R (64 * q) (64 * kn) ∧ ∃ v, e = .returned (.tuple #[v, .int .i64 0]) ∧ Own w' w.heap.size v (Wl.part D.R (64 * q + 8) sz)) ∨ (Wl.bin (Wl.part D.R (64 * q + 8) sz) ≠ Wl.part D.R (64 * q) (64 * kn) ∧ e = .returned (.tuple #[.slice none 0 0, .int .i64 3])))) ?_ (fun e w' h => ?_)
        rotate_left 1
        · refine ⟨h.1, ?_⟩
          rcases h.2 with ⟨h1, h2⟩ | ⟨h1, h2⟩
          · rw [if_pos h1]; exact h2
          · rw [if_neg h1]; exact h2
        go_enter Try.func71, Try.ntmps71
        go_wp2_with fail
        go_at_call 31
        refine HR1.out.mono ?_
        rintro e w1 ⟨v1, rfl, ho1, hb1⟩
        have HB1 := Lib.hid hb1
        obtain ⟨A1, c1, rfl, hy1, hcy1, hcz1, _⟩ := ho1.bytes (Wl.part_lt HLT.out _ _)
        rw [Wl.part_len] at hy1 hcy1
        unfold Own at ho1
        rw [Wl.part_len] at ho1
        have HO1 := Lib.hid ho1
        obtain ⟨g1, o1, rfl, hg1, _⟩ := hy1.2.2 (by omega)
        have hG := get32_any g1 o1 64 c1 _ w1 hy1 (by omega)
        rw [num_part, ← HSZ.out] at hG
        have HG := Lib.hid hG
        clear ho1 hb1 hy1 hG hcz1
        rw [show (Wl.part D.R (64 * q) 64).length = 64 from Wl.part_len _ _ _]
        go_wp2_with fail
        go_at_call 77
        refine HG.out.mono ?_
        rintro e w2 ⟨rfl, hb2⟩
        have HB2 := Lib.hid (HB1.out.trans (hb2.mono HB1.out.size))
        have HO2 := Lib.hid (own_later HO1.out hb2)
        have c2' : w2.cell? ⟨l, 2, none⟩ = some (.int .i64 (t : Int)) := (HB2.out.cell hll).trans c2
        clear hb2 HG HO1
        go_wp2_with fail
        go_quiet ((go_at_call 45; exact quiet_l (HN.out _)))
        go_wp2_with (go_at_call 45; refine (HN.out _).mono ?_; rintro e w3 ⟨rfl, rfl⟩)
        have HB3 : Hid (Below w.heap.size w (w2.drewN nq)) := Lib.hid (HB2.out.trans ⟨rfl, rfl, rfl, Nat.le_refl _, fun _ _ => rfl⟩)
        have HO3 : Hid ((w2.drewN nq).ownsRow w.heap.size 5 1 (.slice (some ⟨g1, o1, none⟩) 64 c1) 64 ((Wl.part D.R (64 * q) (64 * (0 + 1))).map fun x => Value.int .u8 ((x : Nat) : Int))) := HO2
        obtain ⟨i0, hi0, hz0, hz1, hz2⟩ := info_parts byte_row
        clear c2' c2 h2' h3'
        go_loopw [6, 51] (fun a i wr => ∃ (j n : Nat) (A : Option Addr) (c : Nat), a = .slice A n c ∧ i = .int .i64 j ∧ Hid (n = 64 * (j + 1)) ∧ Hid (wr.ownsRow w.heap.size 5 1 (.slice A n c) n ((Wl.part D.R (64 * q) (64 * (j + 1))).map fun x => Value.int .u8 ((x : Nat) : Int))) ∧ Hid (Below w.heap.size w wr) ∧ j + 1 ≤ kn) (fun _ i _ => kn - (match i with | .int _ a => a.toNat | _ => 0))
        case atStart => exact ⟨0, 64, _, _, rfl, rfl, Lib.hid rfl, HO3, HB3, by omega⟩
        case round =>
          obtain ⟨j, n, A, c, rfl, rfl, HJN, HOJ, HBJ, hjk⟩ := hrel
          have k0 : wr.cell? ⟨l, 0, none⟩ = some (.pointer (some ⟨p, 0, none⟩)) := (HBJ.out.cell hll).trans c0
          by_cases hlt : j + 1 < kn
          · have hlt' : (j : Int) < (kn : Int) - 1 := by omega
            have e7 : (q : Int) + 1 + (j : Int) = ((q + 1 + j : Nat) : Int) := by omega
            have hr := HRD.out (q + 1 + j) (by omega) wr HBJ.out
            rw [← e7] at hr
            have HR2 := Lib.hid hr
            clear hr e7
            go_wp2_with fail
            go_at_call 31
            refine HR2.out.mono ?_
            rintro e w4 ⟨v4, rfl, ho4, hb4⟩
            have HB4 := Lib.hid (HBJ.out.trans (hb4.mono HBJ.out.size))
            obtain ⟨A4, c4, rfl, hy4, _⟩ := ho4.bytes (Wl.part_lt HLT.out _ _)
            rw [Wl.part_len] at hy4
            have HY4 := Lib.hid hy4
            have HO4 := Lib.hid (own_later HOJ.out hb4)
            have hn4' : n + 64 ≤ 8320 := by have := HJN.out; omega
            rw [show (Wl.part D.R (64 * (q + 1 + j)) 64).length = 64 from Wl.part_len _ _ _]
            clear ho4 hb4 hy4 HOJ
            go_wp2_with (at_builtin; refine wpList_append_any _ rfl (.tmp 69) (.tmp 70) _ rfl w.heap.size 5 i0 _ 1 1 Try.underlying22 hi0 hz0 hz1 hz2 rfl (by omega) _ n _ rfl HO4.out w4.heap.size A4 64 c4 _ rfl HY4.out.reads (bytes_one _) (by unfold maxLen; omega) (by omega) HB4.out.size ?_; intro v5 w5 hown5 hg5 hat5; have HW5 := Lib.hid (HB4.out.grown hg5 HB4.out.size (fun k hk => (HO4.out.lt k hk).1)); rw [← List.map_append] at hown5; have HO5 := Lib.hid hown5; obtain ⟨A5, c5, rfl⟩ := own_shape hown5; clear hown5 hg5 hat5)
            have HO6 : Hid (w5.ownsRow w.heap.size 5 1 (.slice A5 (n + 64) c5) (n + 64) ((Wl.part D.R (64 * q) (64 * (j + 1 + 1))).map fun x => Value.int .u8 ((x : Nat) : Int))) := Lib.hid (by
              have e := Wl.part_app D.R (64 * q) (64 * (j + 1)) 64
              rw [show 64 * (j + 1 + 1) = 64 * (j + 1) + 64 by omega, e, show 64 * q + 64 * (j + 1) = 64 * (q + 1 + j) by omega]
              exact HO5.out)
            refine ⟨⟨j + 1, n + 64, A5, c5, rfl, by go_num, Lib.hid (by have := HJN.out; omega), HO6, HW5, by omega⟩, ?_⟩
            show kn - ((j : Int) + 1).toNat < kn - (j : Int).toNat
            omega
          · have hjk2 : j + 1 = kn := by omega
            have hlt' : ¬ (j : Int) < (kn : Int) - 1 := by omega
            rw [hjk2] at HJN HOJ
            have hn5 : n = 64 * kn := HJN.out
            obtain ⟨A', c', hv', hy5, hc5, hcm5, _, hb5⟩ := Own.bytes (v := .slice A n c) (bs := Wl.part D.R (64 * q) (64 * kn)) (by unfold Own; rw [Wl.part_len, show 64 * kn = n from hn5.symm]; rw [← hn5] at HOJ; exact HOJ.out) (Wl.part_lt HLT.out _ _)
            rw [Wl.part_len] at hv' hy5 hc5
            cases hv'
            obtain ⟨g5, o5, rfl, hg5, _⟩ := hy5.2.2 (by omega)
            have HY5 := Lib.hid hy5
            have HB8 := Lib.hid (part_at hy5 8 sz (by omega))
            have HCM := Lib.hid hcm5
            have f1 : (8 : Int) ≤ 8 + (sz : Int) := by omega
            have f2 : 8 + (sz : Int) ≤ (c : Int) := by omega
            have f3 : ¬ c = 8 := by omega
            clear hy5 hcm5 hb5 HJN
            go_wp2_with (at_builtin; refine wpList_append_any _ rfl (.const (.slice none 0 0)) (.tmp 77) _ rfl w.heap.size 5 i0 _ 1 1 Try.underlying22 hi0 hz0 hz1 hz2 rfl (by omega) _ 0 [] rfl (World.ownsRow_nil _ _ _ _) wr.heap.size (some ⟨g5, o5 + 8, none⟩) sz (c - 8) _ (by change Value.slice _ (8 + sz - 8) _ = _; rw [Nat.add_sub_cancel_left]) HB8.out.reads (bytes_one _) (by unfold maxLen; omega) (by omega) HBJ.out.size ?_; intro v5 w5 hown5 hg5' hat5; have HW5 := Lib.hid (HBJ.out.grown hg5' HBJ.out.size (fun k hk => by cases hk)); have HWR5 : Hid (Below wr.heap.size wr w5) := Lib.hid ((Below.refl _ _).grown hg5' (Nat.le_refl _) (fun k hk => by cases hk)); rw [List.nil_append, Nat.zero_add] at hown5; have HO5 := Lib.hid hown5; obtain ⟨A5, c5, rfl⟩ := own_shape hown5; clear hown5 hg5' hat5)
            obtain ⟨b, hb⟩ : ∃ b, b = Wl.part D.R (64 * q + 8) sz := ⟨_, rfl⟩
            obtain ⟨all, hall⟩ : ∃ all, all = Wl.part D.R (64 * q) (64 * kn) := ⟨_, rfl⟩
            have hbl : b.length = sz := by rw [hb, Wl.part_len]
            have hb8 : ∀ x ∈ b, x < 256 := by rw [hb]; exact Wl.part_lt HLT.out _ _
            have ha8 : ∀ x ∈ all, x < 256 := by rw [hall]; exact Wl.part_lt HLT.out _ _
            rw [← hb] at HO5
            rw [← hall] at HY5
            have HEB := Lib.hid (And.intro hb hall)
            have hY := Own.bytes (w := w5) (base := w.heap.size) (v := .slice A5 sz c5) (bs := b) (by unfold Own; rw [hbl]; exact HO5.out) hb8
            obtain ⟨A6, c6, hv6, hy6, _⟩ := hY
            rw [hbl] at hv6 hy6
            cases hv6
            have HYD : Hid (Bytes w5.drew A5 sz b) := Lib.hid (hy6.below ⟨rfl, rfl, rfl, Nat.le_refl _, fun _ _ => rfl⟩)
            have HB8' := Lib.hid hb8
            have HBL := Lib.hid hbl
            have hbA : Below wr.heap.size wr w5.drew := HWR5.out.trans ⟨rfl, rfl, rfl, Nat.le_refl _, fun _ _ => rfl⟩
            have hbA0 : Below wr.heap.size wr w5 := HWR5.out
            obtain ⟨s2, hs2⟩ : ∃ s2, s2 = strOf all := ⟨_, rfl⟩
            obtain ⟨s1, hs1⟩ : ∃ s1, s1 = strOf (Wl.bin b) := ⟨_, rfl⟩
            have HS1 := Lib.hid hs1
            have HSX : Hid (∀ W, Below wr.heap.size wr W → (convert 22 9 (.slice (some ⟨g5, o5, none⟩) (64 * kn) c)).run Try.prog W = .ok (.string s2) W) := Lib.hid (fun W hW => by
              rw [hs2]
              exact (HY5.out.below hW).to_string 22 9 5 c Try.underlying22 Try.underlying5 Try.underlying9)
            by_cases heq : Wl.bin b = all
            · have e12 : s1 = s2 := by rw [hs1, hs2, heq]
              rw [← e12] at HSX
              have hq1 : (s1.toList == s1.toList) = true := beq_self_eq_true _
              have HEQ := Lib.hid heq
              clear hy6 hb8 ha8 hs1 hs2 heq hall hb hbl hn5 e12
              have hcA := HSX.out _ hbA
              go_region_with (first
                | (go_at_call 78
                   refine (put_any A5 sz c5 b w5.drew HYD.out (by omega)).mono ?_
                   rintro e w7 ⟨v7, rfl, ho7, hb7⟩
                   have hbB : Below wr.heap.size wr w7 := hbA.trans (hb7.mono HWR5.out.size)
                   have HB7 := Lib.hid hb7
                   obtain ⟨A7, c7, rfl, hy7, _⟩ := ho7.bytes (Wl.bin_lt HB8'.out)
                   have hcv7 : (convert 22 9 (.slice A7 (Wl.bin b).length c7)).run Try.prog w7 = .ok (.string s1) w7 := by
                     rw [HS1.out]
                     exact hy7.to_string 22 9 5 c7 Try.underlying22 Try.underlying5 Try.underlying9
                   have hcB := HSX.out _ hbB
                   clear ho7 hb7 hy7))
              all_goals
                go_wp2_with fail
                go_ret2
                refine ⟨HBJ.out.trans (hbB.mono HBJ.out.size), ?_⟩
                refine .inl ⟨by rw [← HEB.out.1, ← HEB.out.2]; exact HEQ.out, _, rfl, ?_⟩
                rw [← HEB.out.1]
                unfold Own
                rw [HBL.out]
                exact own_later HO5.out (⟨rfl, rfl, rfl, Nat.le_refl _, fun _ _ => rfl⟩ |> fun (h : Below w5.heap.size w5 w5.drew) => h.trans HB7.out)
            · have hne : s1 ≠ s2 := fun e => heq (by rw [hs1, hs2] at e; exact strOf_inj (Wl.bin_lt hb8) ha8 e)
              have hq1 : (s1.toList == s2.toList) = false := beq_eq_false_iff_ne.2 (fun e => hne (by rw [ByteArray.toList_eq, ByteArray.toList_eq] at e; exact ByteArray.ext (Array.toList_inj.1 e)))
              have HEQ := Lib.hid heq
              clear hy6 hb8 ha8 hs1 hs2 heq hall hb hbl hn5 hne
              have hcA := HSX.out _ hbA
              go_region_with (first
                | (go_at_call 78
                   refine (put_any A5 sz c5 b w5.drew HYD.out (by omega)).mono ?_
                   rintro e w7 ⟨v7, rfl, ho7, hb7⟩
                   have hbB : Below wr.heap.size wr w7 := hbA.trans (hb7.mono HWR5.out.size)
                   have HB7 := Lib.hid hb7
                   obtain ⟨A7, c7, rfl, hy7, _⟩ := ho7.bytes (Wl.bin_lt HB8'.out)
                   have hcv7 : (convert 22 9 (.slice A7 (Wl.bin b).length c7)).run Try.prog w7 = .ok (.string s1) w7 := by
                     rw [HS1.out]
                     exact hy7.to_string 22 9 5 c7 Try.underlying22 Try.underlying5 Try.underlying9
                   have hcB := HSX.out _ hbB
                   clear ho7 hb7 hy7))
              all_goals
                go_wp2_with fail
                go_ret2
                refine ⟨HBJ.out.trans (hbB.mono HBJ.out.size), ?_⟩
                exact .inr ⟨by rw [← HEB.out.1, ← HEB.out.2]; exact HEQ.out, rfl⟩
end Go.Proofs.Ytiiegimnnngnnaa
