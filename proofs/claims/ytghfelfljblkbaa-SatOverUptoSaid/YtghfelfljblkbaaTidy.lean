/- cnf: Tidy. -/
import Derived.Test.YtghfelfljblkbaaRefTidy
import Derived.Test.YtghfelfljblkbaaShelf
import Derived.Lib.OwnBridge
import Derived.Sort.OwnSortedInts
namespace Go.Proofs.Ytghfelfljblkbaa
open Go.RowKit Go.Sort Go.Lib
set_option linter.unusedVariables false

theorem cmpI_neg {a b : Int} : cmpI a b < 0 ↔ a < b := by
  unfold cmpI
  split
  · simp; omega
  · split <;> simp <;> omega
theorem cmpI_zero {a b : Int} : cmpI a b = 0 ↔ a = b := by
  unfold cmpI
  split
  · simp; omega
  · split <;> simp <;> omega
theorem lt_cf (x y : Int) : ltOf cf x y = decide (vw x < vw y ∨ (vw x = vw y ∧ x < y)) := by
  unfold ltOf cf
  rw [decide_eq_decide]
  by_cases h : cmpI (vw x) (vw y) = 0
  · rw [if_pos h, cmpI_neg]
    have := cmpI_zero.1 h
    omega
  · rw [if_neg h, cmpI_neg]
    have : vw x ≠ vw y := fun e => h (cmpI_zero.2 e)
    omega
theorem swo_cf : SWO (ltOf cf) where
  irrefl x := by rw [lt_cf]; simp
  trans x y z h1 h2 := by rw [lt_cf] at *; simp only [decide_eq_true_eq] at *; omega
  ntrans x y z h1 h2 := by rw [lt_cf] at *; simp only [decide_eq_false_iff_not] at *; omega
theorem tot_cf (x y : Int) (h1 : ltOf cf x y = false) (h2 : ltOf cf y x = false) : x = y := by
  rw [lt_cf] at *; simp only [decide_eq_false_iff_not] at *; omega
/-- What the sort makes of a clause. -/
def sorted (zs : List Int) : List Int := zs.mergeSort fun x y => !(ltOf cf) y x
theorem sorted_perm (zs : List Int) : (sorted zs).Perm zs := List.mergeSort_perm _ _
theorem sorted_len (zs : List Int) : (sorted zs).length = zs.length := (sorted_perm zs).length_eq
theorem sorted_mem (zs : List Int) (x : Int) : x ∈ sorted zs ↔ x ∈ zs := (sorted_perm zs).mem_iff
theorem sorted_pair (zs : List Int) : (sorted zs).Pairwise fun x y => (!(ltOf cf) y x) = true := by
  refine List.pairwise_mergeSort (fun a b c h1 h2 => ?_) (fun a b => ?_) zs
  · simp only [Bool.not_eq_true'] at *
    exact swo_cf.ntrans c b a h2 h1
  · rw [lt_cf, lt_cf]
    simp only [Bool.or_eq_true, Bool.not_eq_true', decide_eq_false_iff_not]
    omega
/-- The clause tidied, as the code does it. -/
theorem sorted_ws {zs : List Int} (hz : ∀ z ∈ zs, Ok z) : Cf.Ws (Lib.compact (sorted zs)) ∧ ∀ x, x ∈ Lib.compact (sorted zs) ↔ x ∈ zs := by
  have hok : ∀ x ∈ sorted zs, Ok x := fun x hx => hz x ((sorted_mem zs x).1 hx)
  have h := Cf.compact_ws (s := sorted zs) (le := fun x y => (!(ltOf cf) y x) = true) (fun i j hij hj => by
      have := List.pairwise_iff_getElem.1 (sorted_pair zs) i j (by omega) hj hij
      simpa [show i < (sorted zs).length by omega, hj] using this)
    (fun x y hx hy h1 h2 => by simp only [Bool.not_eq_true'] at *; exact tot_cf x y h2 h1)
    (fun x y z hx hy hz' h1 h2 => by simp only [Bool.not_eq_true'] at *; exact swo_cf.ntrans z y x h2 h1)
    (fun x y hx hy h1 => by
      simp only [Bool.not_eq_true', lt_cf, decide_eq_false_iff_not] at h1
      rw [vw_ok (hok x hx), vw_ok (hok y hy)] at h1
      omega)
  exact ⟨h.1, fun x => by rw [h.2, sorted_mem]⟩
theorem sorted_nil : sorted [] = [] := List.eq_nil_of_length_eq_zero (by rw [sorted_len]; rfl)
theorem clone_any (A : Option Addr) (n c : Nat) (zs : List Int) (w : World) (h : Lits w A n zs) (hn : n ≤ 1048576) :
    Calls Try.prog 62 #[.slice A n c] w fun e w' => ∃ v, e = .returned v ∧ OwnL w' w.heap.size v zs ∧ Below w.heap.size w w' := by
  have hl := h.1
  rcases Nat.eq_zero_or_pos n with h0 | h0
  · subst h0
    obtain rfl : zs = [] := List.eq_nil_of_length_eq_zero hl
    cases A with
    | none =>
      refine (AnyG.slices_Clone_int_nil Try.cloneL 0 c w).mono ?_
      rintro e w' ⟨rfl, rfl⟩
      exact ⟨_, rfl, World.ownsRow_nil _ _ _ _, Below.refl _ _⟩
    | some a =>
      refine (AnyG.slices_Clone_int_zero Try.cloneL a c w).mono ?_
      rintro e w' ⟨v, rfl, ho, _, hb⟩
      exact ⟨v, rfl, ho, hb⟩
  · obtain ⟨b, o, rfl, hbl, hc⟩ := h.2.2 h0
    refine (AnyG.slices_Clone_int Try.cloneL b o n c zs w (by omega) (by omega) (fun j hj => hc j (by omega))).mono ?_
    rintro e w' ⟨v, rfl, ho, _, hb⟩
    refine ⟨v, rfl, ?_, hb⟩
    rw [List.take_of_length_le (by omega)] at ho
    unfold OwnL
    rw [hl]
    exact ho
theorem sort_any (v : Value) (zs : List Int) (base : Nat) (w : World) (h : OwnL w base v zs) (hn : zs.length ≤ 1048576) (hb : base ≤ w.heap.size) :
    Calls Try.prog 63 #[v, .func (.func 64) #[] #[]] w fun e w' => e = .returned (.tuple #[]) ∧ OwnL w' base v (sorted zs) ∧ Below base w w' := by
  rcases h.2 with ⟨rfl, h0⟩ | ⟨g, cap, cur, rfl, hbg, hg, hnc, hcm, hcs, ht⟩
  · obtain rfl : zs = [] := List.eq_nil_of_length_eq_zero h0
    refine (AnyF.slices_SortFunc_none (P := Try.prog) (ρ := Try.sortL_ren) { Try.sortL with } none 0 (.func (.func 64) #[] #[]) w).mono ?_
    rintro e w' ⟨rfl, rfl⟩
    exact ⟨rfl, by rw [sorted_nil]; exact World.ownsRow_nil _ _ _ _, Below.refl _ _⟩
  · rcases Nat.eq_zero_or_pos zs.length with h0 | h0
    · obtain rfl : zs = [] := List.eq_nil_of_length_eq_zero h0
      refine (AnyF.slices_SortFunc_none (P := Try.prog) (ρ := Try.sortL_ren) { Try.sortL with } (some ⟨g, 0, none⟩) cap (.func (.func 64) #[] #[]) w).mono ?_
      rintro e w' ⟨rfl, rfl⟩
      exact ⟨rfl, by rw [sorted_nil]; exact h, Below.refl _ _⟩
    · obtain ⟨g', cap', hv, _, hlt, _, _, _, hH⟩ := Lib.holds_of_ownsRow h (by intro e; cases e)
      cases hv
      have eg : ∀ args w, (callFunc 64 args).run Try.prog w = .ok (.enter 64 args) w := enters_of Try.func64 (by kernel_rfl) rfl
      have hcmp : CmpLays1 Try.prog 64 #[] (Value.int .i64) cf g 0 zs.toArray.size w := fun m os dk _ x y => cmp_any x y _
      have hS := Any.slices_SortFunc_total Try.sortL (Value.int .i64) (fun _ => rfl) cf swo_cf 64 #[] g 0 cap zs.toArray w eg hcmp hH hlt (by simp; omega) tot_cf
      refine hS.mono ?_
      rintro e w' ⟨rfl, n, os, rfl⟩
      refine ⟨rfl, ?_, (Below.refl _ _).grown (grownBy_sortedI _) hb (fun k hk => by cases hk; exact hbg)⟩
      unfold OwnL
      rw [sorted_len]
      exact ownsRow_sortedI (sorted_len zs) hbg hg hnc hcm hcs
theorem compact_any (v : Value) (zs : List Int) (base : Nat) (w : World) (h : OwnL w base v zs) (hn : zs.length ≤ 1048576) (hb : base ≤ w.heap.size) :
    Calls Try.prog 69 #[v] w fun e w' => ∃ v', e = .returned v' ∧ OwnL w' base v' (Lib.compact zs) ∧ Below base w w' := by
  rcases h.2 with ⟨rfl, h0⟩ | ⟨g, cap, cur, rfl, hbg, hg, hnc, hcm, hcs, ht⟩
  · obtain rfl : zs = [] := List.eq_nil_of_length_eq_zero h0
    refine (AnyG.slices_Compact_int_empty Try.compactL none 0 w).mono ?_
    rintro e w' ⟨rfl, rfl⟩
    exact ⟨_, rfl, World.ownsRow_nil _ _ _ _, Below.refl _ _⟩
  · rcases Nat.eq_zero_or_pos zs.length with h0 | h0
    · obtain rfl : zs = [] := List.eq_nil_of_length_eq_zero h0
      refine (AnyG.slices_Compact_int_empty Try.compactL (some ⟨g, 0, none⟩) cap w).mono ?_
      rintro e w' ⟨rfl, rfl⟩
      exact ⟨_, rfl, h, Below.refl _ _⟩
    · obtain ⟨g', cap', hv, _, hlt, _, _, _, hH⟩ := Lib.holds_of_ownsRow h (by intro e; cases e)
      cases hv
      have hcl := Lib.compact_length_le zs
      refine (AnyG.slices_Compact_int Try.compactL g 0 cap zs w hH (by omega) hnc).mono ?_
      rintro e w' ⟨rfl, q, rfl⟩
      have ho := Lib.ownsRow_putRow (q := q) (k := (Lib.compact zs).length) (ys := Lib.compact zs ++ List.replicate (zs.length - (Lib.compact zs).length) 0) h (by rw [List.length_append, List.length_replicate]; omega) hcl
      rw [List.take_left'] at ho
      · exact ⟨_, rfl, ho, Lib.below_putRow (Below.refl _ _) hbg⟩
      · rfl
set_option maxRecDepth 100000 in
set_option maxHeartbeats 1000000 in
theorem Tidy_any (A : Option Addr) (n c : Nat) (zs : List Int) (w : World) (h : Lits w A n zs) (hn : n ≤ 1048576) :
    Calls Try.prog 23 #[.slice A n c] w fun e w' => Below w.heap.size w w' ∧ TidyRes w w' e (Cf.tidy zs) := by
  have hl := h.1
  have hok := h.2.1
  have HC := Lib.hid (clone_any A n c zs w h hn)
  have hws := sorted_ws hok
  obtain ⟨ks, hks⟩ : ∃ ks, ks = Lib.compact (sorted zs) := ⟨_, rfl⟩
  rw [← hks] at hws
  have HWS := Lib.hid hws
  have hkok : ∀ z ∈ ks, Ok z := fun z hz => hok z ((hws.2 z).1 hz)
  have HKOK := Lib.hid hkok
  have hkn : ks.length ≤ n := by
    rw [hks]
    have := Lib.compact_length_le (sorted zs)
    rw [sorted_len] at this
    omega
  have HS : Hid (∀ v W, OwnL W w.heap.size v zs → w.heap.size ≤ W.heap.size → Calls Try.prog 63 #[v, .func (.func 64) #[] #[]] W fun e w' => e = .returned (.tuple #[]) ∧ OwnL w' w.heap.size v (sorted zs) ∧ Below w.heap.size W w') := Lib.hid (fun v W ho hs => sort_any v zs w.heap.size W ho (by omega) hs)
  have HCP : Hid (∀ v W, OwnL W w.heap.size v (sorted zs) → w.heap.size ≤ W.heap.size → Calls Try.prog 69 #[v] W fun e w' => ∃ v', e = .returned v' ∧ OwnL w' w.heap.size v' ks ∧ Below w.heap.size W w') := Lib.hid (fun v W ho hs => by
    have := compact_any v (sorted zs) w.heap.size W ho (by rw [sorted_len]; omega) hs
    rw [← hks] at this
    exact this)
  have HV := Lib.hid (fun x W => var_any x W)
  obtain ⟨O, hO⟩ : ∃ O, O = Cf.tidy zs := ⟨_, rfl⟩
  rw [← hO]
  have HO := Lib.hid hO
  clear h hl hok hws hks hkok hO
  go_enter Try.func23, Try.ntmps23
  go_wp2_with fail
  go_at_call 62
  refine HC.out.mono ?_
  rintro e w1 ⟨v1, rfl, ho1, hb1⟩
  have HO1 := Lib.hid ho1
  have HB1 := Lib.hid hb1
  clear ho1 hb1 HC
  go_wp2_with fail
  go_at_call 63
  refine (HS.out v1 w1 HO1.out HB1.out.size).mono ?_
  rintro e w2 ⟨rfl, ho2, hb2⟩
  have HO2 := Lib.hid ho2
  have HB2 := Lib.hid (HB1.out.trans hb2)
  clear ho2 hb2 HO1 HB1 HS
  go_wp2_with fail
  go_at_call 69
  refine (HCP.out v1 w2 HO2.out HB2.out.size).mono ?_
  rintro e w3 ⟨v3, rfl, ho3, hb3⟩
  have HO3 := Lib.hid ho3
  have HB3 := Lib.hid (HB2.out.trans hb3)
  obtain ⟨A3, c3, hv3, hl3, _⟩ := OwnL.lits ho3 HKOK.out
  subst hv3
  have HL3 := Lib.hid hl3
  obtain ⟨m, hm⟩ : ∃ m, m = ks.length := ⟨_, rfl⟩
  rw [← hm] at hkn HL3 ⊢
  have HML := Lib.hid hm
  have HOW3 : Hid (OwnL w3 w.heap.size (.slice A3 m c3) ks) := Lib.hid (by rw [hm]; exact HO3.out)
  clear ho3 hb3 hl3 HO2 HB2 HCP HO3 hm
  go_wp2_with fail
  go_loopw [15] (fun t wr => ∃ i : Nat, t = .int .i64 (i : Int) ∧ i ≤ m ∧ Hid (∀ j (hj : j < ks.length), j < i → ks[j] ≠ 0 ∧ (∀ h0 : 0 < j, Cf.va (ks[j - 1]'(by omega)) ≠ Cf.va ks[j])) ∧ wr = w3) (fun t _ => m - (match t with | .int _ x => x.toNat | _ => 0))
  case atStart => exact ⟨0, rfl, Nat.zero_le _, Lib.hid (fun j hj h => by omega), rfl⟩
  case round =>
    obtain ⟨i, rfl, hi, HI, rfl⟩ := hrel
    by_cases hlt : i < m
    · obtain ⟨b, o, e, hbl, hcell⟩ := HL3.out.2.2 (by omega)
      subst e
      have hik : i < ks.length := by have := HML.out; omega
      obtain ⟨l, hl⟩ : ∃ l, l = ks[i] := ⟨_, rfl⟩
      have kl : wr.cell? ⟨b, o + i, none⟩ = some (.int .i64 l) := by
        rw [hcell i hlt, hl, List.getD_eq_getElem?_getD, List.getElem?_eq_getElem hik]; rfl
      have hlok : Ok l := by rw [hl]; exact HKOK.out _ (List.getElem_mem _)
      have HLI := Lib.hid hl
      have HIK := Lib.hid hik
      by_cases h0 : l = 0
      · have HEQ : Hid (O = none) := Lib.hid (by rw [HO.out]; exact Cf.tidy_none HWS.out.1 HWS.out.2 HIK.out (.inl (by rw [← HLI.out]; exact h0)))
        subst h0
        clear hl hcell hbl
        go_wp2_with fail
        go_ret2
        exact ⟨HB3.out, by rw [HEQ.out]; rfl⟩
      · have h0' : (l == 0) = false := by simpa using h0
        by_cases hi0 : i = 0
        · subst hi0
          rw [Nat.add_zero] at kl
          clear hcell hbl hl
          go_wp2_with fail
          refine ⟨⟨1, by go_num, by omega, Lib.hid (fun j hj hji => ?_), by first | rfl | trivial⟩, ?_⟩
          · have e : j = 0 := by omega
            subst e
            exact ⟨by rw [← HLI.out]; exact h0, fun h => absurd h (by omega)⟩
          · show m - ((0 : Int) + 1).toNat < m - (0 : Int).toNat
            omega
        · have hip : 0 < i := by omega
          obtain ⟨y, hy⟩ : ∃ y, y = ks[i - 1] := ⟨_, rfl⟩
          have ky : wr.cell? ⟨b, o + (i - 1), none⟩ = some (.int .i64 y) := by
            rw [hcell (i - 1) (by omega), hy, List.getD_eq_getElem?_getD, List.getElem?_eq_getElem (by omega)]; rfl
          have hyok : Ok y := by rw [hy]; exact HKOK.out _ (List.getElem_mem _)
          have HY := Lib.hid hy
          have p1 : (0 : Int) < (i : Int) := by omega
          have p2 : (0 : Int) ≤ (i : Int) - 1 := by omega
          have p3 : (i : Int) - 1 < (m : Int) := by omega
          have p4 : ((i : Int) - 1).toNat = i - 1 := by omega
          clear hcell hbl hl hy
          by_cases hv : Cf.va y = Cf.va l
          · have hvv : (vw y == vw l) = true := by rw [vw_ok hyok, vw_ok hlok, hv]; simp
            have HEQ : Hid (O = none) := Lib.hid (by rw [HO.out]; exact Cf.tidy_none HWS.out.1 HWS.out.2 HIK.out (.inr ⟨hip, by rw [← HLI.out, ← HY.out]; exact hv⟩))
            go_wp2_with (go_at_call 67; refine (HV.out _ _).mono ?_; rintro e w' ⟨rfl, rfl⟩)
            go_ret2
            exact ⟨HB3.out, by rw [HEQ.out]; rfl⟩
          · have hvv : (vw y == vw l) = false := by
              rw [vw_ok hyok, vw_ok hlok]
              simp; omega
            go_wp2_with (go_at_call 67; refine (HV.out _ _).mono ?_; rintro e w' ⟨rfl, rfl⟩)
            refine ⟨⟨i + 1, by go_num, by omega, Lib.hid (fun j hj hji => ?_), by first | rfl | trivial⟩, ?_⟩
            · rcases Nat.lt_or_ge j i with h | h
              · exact HI.out j hj h
              · have e : j = i := by omega
                subst e
                exact ⟨by rw [← HLI.out]; exact h0, fun _ => by rw [← HLI.out, ← HY.out]; exact hv⟩
            · show m - ((i : Int) + 1).toNat < m - (i : Int).toNat
              omega
    · obtain rfl : i = m := by omega
      have HEQ : Hid (O = some ks) := Lib.hid (by rw [HO.out]; exact Cf.tidy_some HWS.out.1 HWS.out.2 (fun j hj => HI.out j hj (by have := HML.out; omega)))
      go_wp2_with fail
      go_ret2
      exact ⟨HB3.out, by rw [HEQ.out]; exact ⟨_, rfl, HOW3.out⟩⟩
end Go.Proofs.Ytghfelfljblkbaa
