/- The reference's Records. -/
import Derived.Test.YtiiegimnnngnnaaLog13
import Derived.Test.YtiiegimnnngnnaaRec
namespace Go.Proofs.Ytiiegimnnngnnaa
open Go.RowKit
set_option linter.unusedVariables false

/-- What Records hands back. -/
def RecsRes (w w' : World) (e : Ending) : Option (List (List Nat) × Nat) → Prop
  | none => e = .returned (.tuple #[.slice none 0 0, .int .i64 0, .int .i64 3])
  | some q => ∃ v, e = .returned (.tuple #[v, .int .i64 (q.2 : Int), .int .i64 0]) ∧ RowsFrom w' w.heap.size v q.1
set_option maxRecDepth 100000 in
set_option maxHeartbeats 2000000 in
theorem RefRecords_any (g o c K M : Nat) (Q : Nat → Nat) (w : World) (hQ : ∀ k, Q k < 256) (hM : M = 64 * K) (hK1 : 1 ≤ K) (hK : K ≤ 4096) (hc : M ≤ c) (hc2 : c ≤ maxLen) (hy : Bytes w (some ⟨g, o, none⟩) M (Wl.part Q 0 M)) :
    Calls Try.prog 56 #[.slice (some ⟨g, o, none⟩) M c] w fun e w' => Below w.heap.size w w' ∧ ∃ n, Wl.Lead Q n ∧ RecsRes w w' e (Wl.recs Q K n 1) := by
  obtain ⟨i0, hi0, hz0, hz1, hz2⟩ := info_parts byte_row
  obtain ⟨j0, hj0, hy0, hy1, hy2⟩ := info_parts slice_row
  have HQ := Lib.hid hQ
  have HM := Lib.hid hM
  have HY := Lib.hid hy
  have HCM := Lib.hid hc2
  have hM1 : 64 ≤ M := by omega
  have hM2 : M ≤ 262144 := by omega
  have f1 : (64 : Int) ≤ (c : Int) := by omega
  have HMK := Lib.hid (fun c' => RefMarked_any g o c' Q w (by have := part_at hy 0 64 (by omega); exact this))
  clear hy hQ hM hc2
  go_enter Try.func56, Try.ntmps56
  go_wp2_with fail
  go_at_call 74
  refine (HMK.out _).mono ?_
  rintro e w' ⟨⟨n, hlead, rfl⟩, rfl⟩
  have HLEAD := Lib.hid hlead
  have hn5 := hlead.1
  obtain ⟨O, hO⟩ : ∃ O, O = Wl.recs Q K n 1 := ⟨_, rfl⟩
  have HO : Hid (O = match Wl.recs Q K (n - 0) 1 with | none => none | some q => some ([] ++ q.1, q.2)) := Lib.hid (by
    rw [hO, Nat.sub_zero]; cases Wl.recs Q K n 1 <;> rfl)
  have HOE := Lib.hid hO
  clear hlead HMK hO
  go_wp2_with fail
  go_loopw [6, 7, 14] (fun a v t wr => ∃ (i p q : Nat) (acc : List (List Nat)) (A : Option Addr) (cc : Nat) (xs : List Value), a = .int .i64 (q : Int) ∧ Hid (q = 64 * p) ∧ v = .slice A i cc ∧ t = .int .i64 (i : Int) ∧
    Hid (wr.ownsRow w.heap.size 22 1 (.slice A i cc) i xs) ∧ Hid (RowsIn wr w.heap.size xs acc) ∧ Hid (Below w.heap.size w wr) ∧ i ≤ n ∧ p ≤ K ∧
    Hid (O = match Wl.recs Q K (n - i) p with | none => none | some q => some (acc ++ q.1, q.2))) (fun _ _ t _ => n - (match t with | .int _ x => x.toNat | _ => 0))
  case atStart => exact ⟨0, 1, 64, [], none, 0, [], rfl, Lib.hid rfl, rfl, rfl, Lib.hid (World.ownsRow_nil _ _ _ _), Lib.hid (RowsIn.nil _ _), Lib.hid (Below.refl _ _), Nat.zero_le _, hK1, HO⟩
  case round =>
    obtain ⟨i, p, q, acc, A, cc, xs, rfl, HQP, rfl, rfl, HOW, HRI, HB, hi, hp, HGO⟩ := hrel
    have hqM : q ≤ M := by have := HM.out; have := HQP.out; omega
    by_cases hlt : i < n
    · obtain ⟨k, hk⟩ : ∃ k, n - i = k + 1 := ⟨n - i - 1, by omega⟩
      have hki : n - (i + 1) = k := by omega
      by_cases hpK : p < K
      · have hq1 : q + 64 ≤ M := by have := HM.out; have := HQP.out; omega
        obtain ⟨b0, o0, e0, hbl, hcell⟩ := HY.out.2.2 (by omega)
        cases e0
        have hb : ∀ j, j < M → wr.cell? ⟨g, o + j, none⟩ = some (.int .u8 ((Q j : Nat) : Int)) := fun j hj => by
          have h1 := hcell j hj
          rw [Wl.part_getD _ _ _ _ hj, Nat.zero_add] at h1
          exact (HB.out.cell hbl).trans h1
        have c0 := hb q (by omega)
        have c1 := hb (q + 1) (by omega)
        have c2 := hb (q + 2) (by omega)
        have c3 := hb (q + 3) (by omega)
        obtain ⟨sz, hsz⟩ : ∃ sz, sz = Wl.num Q (64 * p) := ⟨_, rfl⟩
        have hor := num_i64 (Q q) (Q (q + 1)) (Q (q + 2)) (Q (q + 3)) (HQ.out _) (HQ.out _) (HQ.out _) (HQ.out _)
        have hnum : Q q * 16777216 + Q (q + 1) * 65536 + Q (q + 2) * 256 + Q (q + 3) = sz := by rw [hsz, ← HQP.out]; rfl
        rw [hnum] at hor
        have hszl : sz < 4294967296 := by rw [hsz]; exact Wl.num_lt HQ.out _
        have HNUM := Lib.hid hsz
        have HOR := Lib.hid hor
        have hx0 := HQ.out q
        have hx1 := HQ.out (q + 1)
        have hx2 := HQ.out (q + 2)
        have hx3 := HQ.out (q + 3)
        generalize Q q = x0 at *
        generalize Q (q + 1) = x1 at *
        generalize Q (q + 2) = x2 at *
        generalize Q (q + 3) = x3 at *
        have i0' : (q : Int) + 8 ≤ (M : Int) := by omega
        have i1' : (q : Int) + 1 < (M : Int) := by omega
        have i2' : (q : Int) + 2 < (M : Int) := by omega
        have i3' : (q : Int) + 3 < (M : Int) := by omega
        have i4' : (q : Int) < (M : Int) := by omega
        have q1 : (q : Int) ≤ 262144 := by omega
        clear hb hcell hor hsz hnum hbl
        go_wp2_with fail
        go_quiet (fail)
        rw [HOR.out]
        clear c0 c1 c2 c3 hx0 hx1 hx2 hx3 HOR
        have hE : Wl.recs Q K (k + 1) p = match (if 8192 < sz ∨ K - p < Wl.need sz then none else if Wl.bin (Wl.part Q (q + 8) sz) = Wl.part Q q (64 * Wl.need sz) then some (Wl.part Q (q + 8) sz) else none) with
            | none => none
            | some b => match Wl.recs Q K k (p + Wl.need b.length) with
              | none => none
              | some r => some (b :: r.1, r.2) := by
          show (match Wl.recAt Q p K with | none => none | some b => match Wl.recs Q K k (p + Wl.need b.length) with | none => none | some r => some (b :: r.1, r.2)) = _
          unfold Wl.recAt
          rw [if_neg (by omega), ← HNUM.out, ← HQP.out]
        have HE := Lib.hid hE
        clear hE
        by_cases h2 : 8192 < sz
        · have h2' : decide ((8192 : Int) < (sz : Int)) = true := decide_eq_true (by omega)
          have HEQ : Hid (O = none) := Lib.hid (by rw [HGO.out, hk, HE.out, if_pos (.inl h2)])
          clear HE HGO h2
          go_wp2_with fail
          go_ret3
          exact ⟨HB.out.trans ⟨rfl, rfl, rfl, Nat.le_refl _, fun _ _ => rfl⟩, n, HLEAD.out, by rw [← HOE.out, HEQ.out]; rfl⟩
        · have h2' : decide ((8192 : Int) < (sz : Int)) = false := decide_eq_false (by omega)
          obtain ⟨kn, hkn⟩ : ∃ kn, kn = Wl.need sz := ⟨_, rfl⟩
          have hnd := Wl.need_ge (show sz ≤ 8192 by omega)
          rw [← hkn] at hnd
          have HN := Lib.hid (fun W => RefNeed_nat sz W (by omega))
          simp only [← hkn] at HN HE
          by_cases h3 : K - p < kn
          · have h3' : decide ((M : Int) < (q : Int) + (kn : Int) * 64) = true := decide_eq_true (by have := HM.out; have := HQP.out; omega)
            have HEQ : Hid (O = none) := Lib.hid (by rw [HGO.out, hk, HE.out, if_pos (.inr h3)])
            clear HE HGO h2 hkn
            go_wp2_with (go_at_call 46; refine (HN.out _).mono ?_; rintro e w3 ⟨rfl, rfl⟩)
            go_ret3
            exact ⟨HB.out.trans ⟨rfl, rfl, rfl, Nat.le_refl _, fun _ _ => rfl⟩, n, HLEAD.out, by rw [← HOE.out, HEQ.out]; rfl⟩
          · have h3' : decide ((M : Int) < (q : Int) + (kn : Int) * 64) = false := decide_eq_false (by have := HM.out; have := HQP.out; omega)
            have hfit : (q : Int) + 8 + (sz : Int) ≤ (c : Int) := by have := HM.out; have := HQP.out; omega
            have f3 : (q : Int) + 8 ≤ (q : Int) + 8 + (sz : Int) := by omega
            have f4 : (q : Int) + 8 ≤ (c : Int) := by omega
            have f5 : ¬ c = q + 8 := by have := HM.out; have := HQP.out; omega
            have hfitM : q + 64 * kn ≤ M := by have := HM.out; have := HQP.out; omega
            have HB8 : Hid (∀ W, Below wr.heap.size wr W → Bytes W (some ⟨g, o + (q + 8), none⟩) sz (Wl.part Q (q + 8) sz)) := Lib.hid (fun W hW => by
              have := part_at ((HY.out.below HB.out).below hW) (q + 8) sz (by omega)
              rw [Nat.zero_add] at this
              exact this)
            have hsz8 : sz ≤ 8192 := by omega
            have HBs := Lib.hid HB.out.size
            have HIF := Lib.hid (show ¬ (8192 < sz ∨ K - p < kn) by omega)
            have HKN := Lib.hid hkn
            clear h2 hkn
            go_wp2_with (first
              | (go_at_call 46; refine (HN.out _).mono ?_; rintro e w3 ⟨rfl, rfl⟩)
              | (at_builtin; refine wpList_append_any _ rfl (.const (.slice none 0 0)) (.tmp 69) _ rfl w.heap.size 5 i0 _ 1 1 Try.underlying22 hi0 hz0 hz1 hz2 rfl (by omega) _ 0 [] rfl (World.ownsRow_nil _ _ _ _) wr.heap.size (some ⟨g, o + (q + 8), none⟩) sz (c - (q + 8)) _ (by first | rfl | (change Value.slice _ (q + 8 + sz - (q + 8)) _ = _; rw [Nat.add_sub_cancel_left])) (HB8.out _ ⟨rfl, rfl, rfl, Nat.le_refl _, fun _ _ => rfl⟩).reads (bytes_one _) (by unfold maxLen; omega) (by omega) HBs.out ?_; intro v5 w5 hown5 hg5 hat5; have HWR5 : Hid (Below wr.heap.size wr w5) := Lib.hid ((⟨rfl, rfl, rfl, Nat.le_refl _, fun _ _ => rfl⟩ : Below wr.heap.size wr (wr.drewN _)).grown hg5 (Nat.le_refl _) (fun k hk => by cases hk)); rw [List.nil_append, Nat.zero_add] at hown5; have HO5 := Lib.hid hown5; obtain ⟨A5, c5, rfl⟩ := own_shape hown5; clear hown5 hg5 hat5))
            obtain ⟨b, hb⟩ : ∃ b, b = Wl.part Q (q + 8) sz := ⟨_, rfl⟩
            obtain ⟨all, hall⟩ : ∃ all, all = Wl.part Q q (64 * kn) := ⟨_, rfl⟩
            have hbl : b.length = sz := by rw [hb, Wl.part_len]
            have hb8 : ∀ x ∈ b, x < 256 := by rw [hb]; exact Wl.part_lt HQ.out _ _
            have ha8 : ∀ x ∈ all, x < 256 := by rw [hall]; exact Wl.part_lt HQ.out _ _
            rw [← hb] at HO5
            simp only [← hb, ← hall] at HE
            obtain ⟨A6, c6, hv6, hy6, hr1, hr2, _, hr3⟩ := Own.bytes (w := w5) (base := w.heap.size) (v := .slice A5 sz c5) (bs := b) (by unfold Own; rw [hbl]; exact HO5.out) hb8
            rw [hbl] at hv6 hy6 hr1
            cases hv6
            have HROW : Hid (sz ≤ c5 ∧ c5 ≤ maxLen ∧ ∀ g o, A5 = some ⟨g, o, none⟩ → w.heap.size ≤ g ∧ U8 w5 g) := Lib.hid ⟨hr1, hr2, fun g o e => by
              obtain ⟨A', c', hv', _, _, _, h9⟩ := Own.bytes2 (w := w5) (base := w.heap.size) (v := .slice A5 sz c5) (bs := b) (by unfold Own; rw [hbl]; exact HO5.out) hb8
              cases hv'
              exact h9 g o e⟩
            have HYD : Hid (Bytes w5.drew A5 sz b) := Lib.hid (hy6.below ⟨rfl, rfl, rfl, Nat.le_refl _, fun _ _ => rfl⟩)
            have HY6 := Lib.hid hy6
            have HB8' := Lib.hid hb8
            have HBL := Lib.hid hbl
            have hbA : Below wr.heap.size wr w5.drew := HWR5.out.trans ⟨rfl, rfl, rfl, Nat.le_refl _, fun _ _ => rfl⟩
            obtain ⟨s2, hs2⟩ : ∃ s2, s2 = strOf all := ⟨_, rfl⟩
            obtain ⟨s1, hs1⟩ : ∃ s1, s1 = strOf (Wl.bin b) := ⟨_, rfl⟩
            have HS1 := Lib.hid hs1
            have HALL : Hid (∀ W, Below wr.heap.size wr W → Bytes W (some ⟨g, o + q, none⟩) (kn * 64) all) := Lib.hid (fun W hW => by
              have := part_at ((HY.out.below HB.out).below hW) q (64 * kn) (by omega)
              rw [Nat.zero_add, ← hall, Nat.mul_comm] at this
              exact this)
            have HSX : Hid (∀ W, Below wr.heap.size wr W → (convert 22 9 (.slice (some ⟨g, o + q, none⟩) (kn * 64) (c - q))).run Try.prog W = .ok (.string s2) W) := Lib.hid (fun W hW => by
              rw [hs2]
              exact (HALL.out W hW).to_string 22 9 5 (c - q) Try.underlying22 Try.underlying5 Try.underlying9)
            by_cases heq : Wl.bin b = all
            · have e12 : s1 = s2 := by rw [hs1, hs2, heq]
              rw [← e12] at HSX
              have hq1 : (s1.toList == s1.toList) = true := beq_self_eq_true _
              have HEQ := Lib.hid heq
              clear hy6 hb8 ha8 hs1 hs2 heq hall hb hbl e12 hr1 hr2 hr3
              have hcA := HSX.out _ hbA
              have g1 : (0 : Int) ≤ (q : Int) + (kn : Int) * 64 := by omega
              have g2 : (q : Int) ≤ (q : Int) + (kn : Int) * 64 := by omega
              have g3 : (q : Int) + (kn : Int) * 64 ≤ (c : Int) := by omega
              have g4 : IntKind.i64.wrap ((kn : Int) * 64) = (kn : Int) * 64 := by rw [IntKind.wrap_i64]; omega
              have g5 : IntKind.i64.wrap ((q : Int) + (kn : Int) * 64) = (q : Int) + (kn : Int) * 64 := by rw [IntKind.wrap_i64]; omega
              have g6 : ((q : Int) + (kn : Int) * 64).toNat = q + kn * 64 := by omega
              go_region_with (first
                | (go_at_call 53
                   refine (RefRecord_any A5 sz c5 b _ HYD.out hsz8).mono ?_
                   rintro e w7 ⟨v7, rfl, ho7, hb7⟩
                   have hbB : Below wr.heap.size wr w7 := hbA.trans (hb7.mono HWR5.out.size)
                   have HB7 := Lib.hid hb7
                   obtain ⟨A7, c7, rfl, hy7, _⟩ := ho7.bytes (Wl.bin_lt HB8'.out)
                   have hcv7 : (convert 22 9 (.slice A7 (Wl.bin b).length c7)).run Try.prog w7 = .ok (.string s1) w7 := by
                     rw [HS1.out]
                     exact hy7.to_string 22 9 5 c7 Try.underlying22 Try.underlying5 Try.underlying9
                   have hcB := HSX.out _ hbB
                   clear ho7 hb7 hy7)
                | (go_at_call 46
                   refine (HN.out _).mono ?_
                   rintro e w8 ⟨rfl, rfl⟩))
              all_goals
                clear g4 g5 g6
                have HBX : Hid (Below wr.heap.size wr w7) := Lib.hid hbB
                have HEQ2 : Hid (O = match Wl.recs Q K (n - (i + 1)) (p + kn) with | none => none | some r => some ((acc ++ [b]) ++ r.1, r.2)) := Lib.hid (by
                  rw [HGO.out, hk, HE.out, if_neg HIF.out, if_pos HEQ.out, hki]
                  dsimp only
                  rw [HBL.out, ← HKN.out]
                  cases Wl.recs Q K k (p + kn) with
                  | none => rfl
                  | some r => simp)
                have hO5 : w7.ownsRow w.heap.size 5 1 (.slice A5 sz c5) sz (b.map fun x => Value.int .u8 ((x : Nat) : Int)) := own_later HO5.out ((⟨rfl, rfl, rfl, Nat.le_refl _, fun _ _ => rfl⟩ : Below w5.heap.size w5 w5.drew).trans HB7.out)
                have HU7 : Hid (Upd (fun k => wr.heap.size ≤ k) wr w7) := Lib.hid (Upd.of_below hbB (fun _ _ h => h))
                have HOW7 := Lib.hid (own_later HOW.out hbB)
                have hy7 : Bytes w7 A5 b.length b := by
                  rw [HBL.out]
                  exact (HY6.out.below ((⟨rfl, rfl, rfl, Nat.le_refl _, fun _ _ => rfl⟩ : Below w5.heap.size w5 w5.drew).trans HB7.out))
                have HRI7 := Lib.hid ((HRI.out.upd HU7.out (fun k hk => .inr (not_u8_new hk))).snoc hy7 (by rw [HBL.out]; exact HROW.out.1) HROW.out.2.1 (fun g o e => ⟨(HROW.out.2.2 g o e).1, by
                  obtain ⟨cs, fr, h8⟩ := (HROW.out.2.2 g o e).2
                  exact ⟨cs, fr, (HB7.out.block g (HROW.out.2.2 g o e).2.lt).trans h8⟩⟩))
                rw [HBL.out] at HRI7
                have HSZ7 := Lib.hid (Nat.le_trans HBs.out hbB.size)
                clear hO5 hy7 hbB hcB hcv7 hbA hcA HOW HRI HEQ HE
                go_wp2_with (first
                  | (at_builtin; refine wpList_append_own _ rfl (.tmp 84) (.tmp 86) 57 rfl w.heap.size 22 j0 (.slice none 0 0) 1 24 Try.underlying57 hj0 hy0 hy1 hy2 rfl (by decide) _ i xs rfl (HOW7.out.alloc _) ⟨w7.heap.size, 0, none⟩ 1 1 [.slice A5 sz c5] rfl rfl (cell_one_new _ _ _) (slice_one _ _ _ _ rfl) (by unfold maxLen; omega) (by omega) (Nat.le_trans HSZ7.out (by simp)) ?_; intro v9 w9 hown9 hg9 hn9; have HOW9 := Lib.hid hown9; have HU9 : Hid (Upd (fun k => (Value.slice A i cc).ownBlock = some k) w7 w9) := Lib.hid (((Upd.refl _ w7).alloc _).grown hg9 (fun k hk => .inl hk)); obtain ⟨A9, c9, rfl⟩ := own_shape hown9; clear hown9 hg9 hn9)
                  | (go_at_call 46; refine (HN.out _).mono ?_; rintro e w8 ⟨rfl, rfl⟩))
                have HT9 : Hid (∀ k, (Value.slice A i cc).ownBlock = some k → w.heap.size ≤ k ∧ ¬ U8 w7 k) := Lib.hid (fun k hk => ⟨(HOW7.out.lt k hk).1, not_u8 HOW7.out hk⟩)
                have HRI9 := Lib.hid (HRI7.out.upd HU9.out (fun k hk => .inr (HT9.out k hk).2))
                have hb7 : Below w.heap.size w w7 := HB.out.trans (HBX.out.mono HBs.out)
                have hb9 : Below w.heap.size w w9 := hb7.trans (HU9.out.below (fun k hk => (HT9.out k hk).1) hb7.size)
                refine ⟨⟨i + 1, p + kn, q + kn * 64, acc ++ [b], A9, c9, _, by go_num, Lib.hid (by have := HQP.out; omega), rfl, by go_num, HOW9, HRI9, Lib.hid hb9, by omega, by omega, HEQ2⟩, ?_⟩
                show n - ((i : Int) + 1).toNat < n - (i : Int).toNat
                omega
            · have hne : s1 ≠ s2 := fun e => heq (by rw [hs1, hs2] at e; exact strOf_inj (Wl.bin_lt hb8) ha8 e)
              have hq1 : (s1.toList == s2.toList) = false := beq_eq_false_iff_ne.2 (fun e => hne (by rw [ByteArray.toList_eq, ByteArray.toList_eq] at e; exact ByteArray.ext (Array.toList_inj.1 e)))
              have HEQ2 : Hid (O = none) := Lib.hid (by rw [HGO.out, hk, HE.out, if_neg HIF.out, if_neg heq])
              clear hy6 hb8 ha8 hs1 hs2 heq hall hb hbl hne hr1 hr2 hr3
              have hcA := HSX.out _ hbA
              have g1 : (0 : Int) ≤ (q : Int) + (kn : Int) * 64 := by omega
              have g2 : (q : Int) ≤ (q : Int) + (kn : Int) * 64 := by omega
              have g3 : (q : Int) + (kn : Int) * 64 ≤ (c : Int) := by omega
              have g4 : IntKind.i64.wrap ((kn : Int) * 64) = (kn : Int) * 64 := by rw [IntKind.wrap_i64]; omega
              have g5 : IntKind.i64.wrap ((q : Int) + (kn : Int) * 64) = (q : Int) + (kn : Int) * 64 := by rw [IntKind.wrap_i64]; omega
              have g6 : ((q : Int) + (kn : Int) * 64).toNat = q + kn * 64 := by omega
              go_region_with (first
                | (go_at_call 53
                   refine (RefRecord_any A5 sz c5 b _ HYD.out hsz8).mono ?_
                   rintro e w7 ⟨v7, rfl, ho7, hb7⟩
                   have hbB : Below wr.heap.size wr w7 := hbA.trans (hb7.mono HWR5.out.size)
                   have HB7 := Lib.hid hb7
                   obtain ⟨A7, c7, rfl, hy7, _⟩ := ho7.bytes (Wl.bin_lt HB8'.out)
                   have hcv7 : (convert 22 9 (.slice A7 (Wl.bin b).length c7)).run Try.prog w7 = .ok (.string s1) w7 := by
                     rw [HS1.out]
                     exact hy7.to_string 22 9 5 c7 Try.underlying22 Try.underlying5 Try.underlying9
                   have hcB := HSX.out _ hbB
                   clear ho7 hb7 hy7)
                | (go_at_call 46
                   refine (HN.out _).mono ?_
                   rintro e w8 ⟨rfl, rfl⟩))
              all_goals
                go_wp2_with fail
                go_ret3
                exact ⟨HB.out.trans (hbB.mono HBs.out), n, HLEAD.out, by rw [← HOE.out, HEQ2.out]; rfl⟩
      · have hpM : (M : Int) < (q : Int) + 8 := by have := HM.out; have := HQP.out; omega
        have HEQ : Hid (O = none) := Lib.hid (by
          rw [HGO.out, hk]
          unfold Wl.recs Wl.recAt
          rw [if_pos (by omega)])
        clear HGO
        go_wp2_with fail
        go_ret3
        exact ⟨HB.out, n, HLEAD.out, by rw [← HOE.out, HEQ.out]; rfl⟩
    · obtain rfl : i = n := by omega
      have HEQ : Hid (O = some (acc, p)) := Lib.hid (by
        rw [HGO.out, Nat.sub_self]
        show some (acc ++ [], p) = _
        rw [List.append_nil])
      have hq64 : (q : Int) / 64 = (p : Int) := by have := HQP.out; omega
      clear HGO
      go_wp2_with fail
      go_ret3
      refine ⟨HB.out, i, HLEAD.out, ?_⟩
      rw [← HOE.out, HEQ.out]
      refine ⟨_, rfl, HRI.out.at HOW.out, fun T w2 hu hT => (HRI.out.upd hu (fun k hk => .inl (hT k hk))).at (own_upd HOW.out hu (fun k hk ht => by have h1 := (HOW.out.lt k hk).1; have h2 := hT k ht; omega))⟩
end Go.Proofs.Ytiiegimnnngnnaa
