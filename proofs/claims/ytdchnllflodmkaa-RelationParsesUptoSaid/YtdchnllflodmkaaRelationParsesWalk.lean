/- RelationParses: the walk. -/
import Derived.Test.YtdchnllflodmkaaRo
import Derived.Test.YtdchnllflodmkaaRows
import Derived.ShutString
import Derived.ChangeOld
namespace Go.Proofs.Ytdchnllflodmkaa
open Go.RowKit
set_option linter.unusedVariables false

theorem flat_one {L : List (List Rl.Atm)} (h : ∀ l ∈ L, l.length = 1) : L.flatten.length = L.length := by
  induction L with
  | nil => rfl
  | cons x r ih =>
    rw [List.flatten_cons, List.length_append, ih (fun l hl => h l (.tail _ hl)), h x (.head _), List.length_cons]
    omega
set_option maxRecDepth 100000 in
set_option maxHeartbeats 16000000 in
theorem relationParses_any (s : ByteArray) (w : World) (hs : s.size ≤ 1048576) :
    Calls Try.prog 7 #[.string s] w fun e w' => e = .returned (.bool true) ∧ Below w.heap.size w w' := by
  have hone := one_way (bl s)
  have hPA : ∀ W, Calls Try.prog 30 #[.string s] W fun e w' => Below W.heap.size W w' ∧ OneRes e (oneP (Rl.toks (bl s))) := fun W => ParseAtom_any s W hs
  have h1 : ∀ W, Calls Try.prog 9 #[.string s] W fun e w' => Below W.heap.size W w' ∧ ∃ v, e = .returned (.tuple #[v, .int .i64 (eno (Rl.allP nmL verL anyF false (bl s)))]) ∧ ClsAt w' v ((okv (Rl.allP nmL verL anyF false (bl s))).map (·.map raA)) := fun W => (Parse_any s W hs).mono fun e w' ⟨hb, v, he, ho⟩ => ⟨hb, v, he, ho.cls⟩
  have h2 : ∀ W, Calls Try.prog 10 #[.string s] W fun e w' => Below W.heap.size W w' ∧ ∃ v, e = .returned (.tuple #[v, .int .i64 (eno (Rl.allP nmL verL anyF false (bl s)))]) ∧ ClsAt w' v ((okv (Rl.allP nmL verL anyF false (bl s))).map (·.map raA)) := fun W => (Relation_any s W hs).mono fun e w' ⟨hb, v, he, ho⟩ => by
    rw [← Rl.all_sim plain_nm plain_ver] at he ho
    exact ⟨hb, v, he, ho.cls⟩
  have h3 : ∀ W, Calls Try.prog 24 #[.string s] W fun e w' => Below W.heap.size W w' ∧ ∃ v, e = .returned (.tuple #[v, .int .i64 (eno (Rl.allP nmL verL anyF true (bl s)))]) ∧ AtsAt w' v ((okv (Rl.allP nmL verL anyF true (bl s))).flatten.map raA) := fun W => (ParseAtoms_any s W hs).mono fun e w' ⟨hb, A, m, c, he, hm, ho⟩ => ⟨hb, _, he, AtsAt.of_own ho hm⟩
  have h4 : ∀ W, Calls Try.prog 25 #[.string s] W fun e w' => Below W.heap.size W w' ∧ ∃ v, e = .returned (.tuple #[v, .int .i64 (eno (Rl.allP nmL verL anyF true (bl s)))]) ∧ AtsAt w' v ((okv (Rl.allP nmL verL anyF true (bl s))).flatten.map raA) := fun W => (AtomList_any s W hs).mono fun e w' ⟨hb, hr⟩ => by
    rw [← Rl.all_sim plain_nm plain_ver] at hr
    obtain ⟨A, c, he, ho⟩ := hr.out rfl
    exact ⟨hb, _, he, AtsAt.of_own ho (flat_one fun l hl => (okv_len.2 l hl).2.2 rfl).symm⟩
  have h5 : ∀ W, Calls Try.prog 26 #[.string s] W fun e w' => Below W.heap.size W w' ∧ ∃ v, e = .returned (.tuple #[v, .int .i64 (eno (Rl.allP nmL verL provF true (bl s)))]) ∧ PrsAt w' v ((okv (Rl.allP nmL verL provF true (bl s))).flatten.map rpA) := fun W => (ParseProvides_any s W hs).mono fun e w' ⟨hb, A, m, c, he, hm, ho⟩ => ⟨hb, _, he, PrsAt.of_own ho (by rw [hm]; exact (flat_one fun l hl => (okv_len.2 l hl).2.2 rfl).symm)⟩
  have h6 : ∀ W, Calls Try.prog 27 #[.string s] W fun e w' => Below W.heap.size W w' ∧ ∃ v, e = .returned (.tuple #[v, .int .i64 (eno (Rl.allP nmL verL provF true (bl s)))]) ∧ PrsAt w' v ((okv (Rl.allP nmL verL provF true (bl s))).flatten.map rpA) := fun W => (ProvideList_any s W hs).mono fun e w' ⟨hb, hr⟩ => by
    rw [← Rl.all_sim plain_nm plain_ver] at hr
    obtain ⟨A, c, he, ho⟩ := hr.out rfl
    exact ⟨hb, _, he, PrsAt.of_own ho (flat_one fun l hl => (okv_len.2 l hl).2.2 rfl).symm⟩
  have hl1 := okv_len (mf := anyF) (one := false) (s := bl s)
  have hl2 := okv_len (mf := anyF) (one := true) (s := bl s)
  have hl3 := okv_len (mf := provF) (one := true) (s := bl s)
  generalize Rl.allP nmL verL anyF false (bl s) = R1 at *
  generalize Rl.allP nmL verL anyF true (bl s) = R2 at *
  generalize Rl.allP nmL verL provF true (bl s) = R3 at *
  have hn2 : ((okv R2).flatten.map raA).length ≤ 281474976710656 := by rw [List.length_map, flat_one fun l hl => (hl2.2 l hl).2.2 rfl]; omega
  have hn3 : ((okv R3).flatten.map rpA).length ≤ 281474976710656 := by rw [List.length_map, flat_one fun l hl => (hl3.2 l hl).2.2 rfl]; omega
  have hn1 : ((okv R1).map (·.map raA)).length ≤ 281474976710656 := by rw [List.length_map]; omega
  have hn1' : ∀ l ∈ (okv R1).map (·.map raA), l.length ≤ 281474976710656 := fun l hl => by
    obtain ⟨x, hx, rfl⟩ := List.mem_map.1 hl
    have := hl1.2 x hx
    rw [List.length_map]; omega
  generalize (okv R2).flatten.map raA = L2 at *
  generalize (okv R3).flatten.map rpA = L3 at *
  obtain ⟨L1, hL1⟩ : ∃ L1, L1 = (okv R1).map (·.map raA) := ⟨_, rfl⟩
  rw [← hL1] at h1 h2 hn1 hn1'
  have HSC : Hid (∀ W u v, ClsAt W u L1 → ClsAt W v L1 → Calls Try.prog 11 #[u, v] W fun e w' => e = .returned (.bool true) ∧ Below W.heap.size W w') := Lib.hid (fun W u v a b => (SameClauses_any u v L1 L1 W a b hn1 hn1').mono fun e w' ⟨he, m, hm⟩ => ⟨by rw [he, decide_eq_true rfl], by rw [hm]; exact below_drewN _ _⟩)
  have HSA : Hid (∀ W u v, AtsAt W u L2 → AtsAt W v L2 → Calls Try.prog 28 #[u, v] W fun e w' => e = .returned (.bool true) ∧ Below W.heap.size W w') := Lib.hid (fun W u v a b => (SameAtoms_any u v L2 L2 W a b hn2).mono fun e w' ⟨he, m, hm⟩ => ⟨by rw [he, decide_eq_true rfl], by rw [hm]; exact below_drewN _ _⟩)
  have HSP : Hid (∀ W u v, PrsAt W u L3 → PrsAt W v L3 → Calls Try.prog 29 #[u, v] W fun e w' => e = .returned (.bool true) ∧ Below W.heap.size W w') := Lib.hid (fun W u v a b => (SameProvides_any u v L3 L3 W a b hn3).mono fun e w' ⟨he, m, hm⟩ => ⟨by rw [he, decide_eq_true rfl], by rw [hm]; exact below_drewN _ _⟩)
  generalize eno R1 = n1 at *
  generalize eno R2 = n2 at *
  generalize eno R3 = n3 at *
  have H1 := Lib.hid h1
  have H2 := Lib.hid h2
  have H3 := Lib.hid h3
  have H4 := Lib.hid h4
  have H5 := Lib.hid h5
  have H6 := Lib.hid h6
  have HPA := Lib.hid hPA
  have HAW := Lib.hid (fun W => awake_any W)
  have HONE : Hid ((∃ a, oneP (Rl.toks (bl s)) = some a ∧ L1 = [[raA a]]) ∨ (oneP (Rl.toks (bl s)) = none ∧ ∀ a, L1 ≠ [[a]])) := Lib.hid (by
    rcases hone with ⟨a, e1, e2⟩ | ⟨e1, e2⟩
    · exact .inl ⟨a, e1, by rw [hL1, e2]; rfl⟩
    · refine .inr ⟨e1, fun a e => ?_⟩
      rw [hL1] at e
      cases R1 with
      | many => cases e
      | form => cases e
      | ok L =>
        have e : L.map (·.map raA) = [[a]] := e
        match L, e with
        | [[x]], e => exact e2 x rfl)
  clear hone hPA h1 h2 h3 h4 h5 h6 hl1 hl2 hl3 hn1 hn1' hn2 hn3 hL1 R1 R2 R3
  go_enter Try.func7, Try.ntmps7
  go_upto_region 9 with (first
    | (go_at_call 9; refine (H1.out _).mono ?_; rintro e w1 ⟨hb1, v1, rfl, hv1⟩; have HV1 := Lib.hid hv1; have HB1 := Lib.hid hb1; clear hv1 hb1)
    | (go_at_call 10; refine (H2.out _).mono ?_; rintro e w2 ⟨hb2, v2, rfl, hv2⟩; have HV2 := Lib.hid hv2; have HV12 := Lib.hid (HV1.out.below hb2); have HB2 := Lib.hid (HB1.out.trans (hb2.mono HB1.out.size)); clear hv2 hb2)
    | (go_at_call 24; refine (H3.out _).mono ?_; rintro e w3 ⟨hb3, v3, rfl, hv3⟩; have HV3 := Lib.hid hv3; have HB23 := Lib.hid hb3; have HB3 := Lib.hid (HB2.out.trans (hb3.mono HB2.out.size)); clear hv3 hb3)
    | (go_at_call 25; refine (H4.out _).mono ?_; rintro e w4 ⟨hb4, v4, rfl, hv4⟩; have HV4 := Lib.hid hv4; have HB34 := Lib.hid hb4; have HB24 := Lib.hid (HB23.out.trans (hb4.mono HB23.out.size)); have HB4 := Lib.hid (HB3.out.trans (hb4.mono HB3.out.size)); clear hv4 hb4)
    | (go_at_call 26; refine (H5.out _).mono ?_; rintro e w5 ⟨hb5, v5, rfl, hv5⟩; have HV5 := Lib.hid hv5; have HB45 := Lib.hid hb5; have HB5 := Lib.hid (HB4.out.trans (hb5.mono HB4.out.size)); clear hv5 hb5)
    | (go_at_call 27; refine (H6.out _).mono ?_; rintro e w6 ⟨hb6, v6, rfl, hv6⟩; have HV6 := Lib.hid hv6; have HB6 := Lib.hid (HB5.out.trans (hb6.mono HB5.out.size)); have HC1 := Lib.hid (((HV12.out.below HB24.out).below HB45.out).below hb6); have HC2 := Lib.hid (((HV2.out.below HB24.out).below HB45.out).below hb6); have HC3 := Lib.hid (((HV3.out.below HB34.out).below HB45.out).below hb6); have HC4 := Lib.hid ((HV4.out.below HB45.out).below hb6); have HC5 := Lib.hid (HV5.out.below hb6); clear hv6 hb6)
    | (go_at_call 11; refine (HSC.out _ _ _ HC1.out HC2.out).mono ?_; rintro e w7 ⟨rfl, hb7⟩; have HB7 := Lib.hid hb7; clear hb7)
    | (go_at_call 28; refine (HSA.out _ _ _ (HC3.out.below HB7.out) (HC4.out.below HB7.out)).mono ?_; rintro e w8 ⟨rfl, hb8⟩; have HB8 := Lib.hid (HB7.out.trans (hb8.mono HB7.out.size)); clear hb8)
    | (go_at_call 29; refine (HSP.out _ _ _ (HC5.out.below HB8.out) (HV6.out.below HB8.out)).mono ?_; rintro e w9 ⟨rfl, hb9⟩; have HB9 := Lib.hid (HB8.out.trans (hb9.mono HB8.out.size)); have HB69 := Lib.hid (HB6.out.trans (HB9.out.mono HB6.out.size)); have HC9 := Lib.hid (HC2.out.below HB9.out); clear hb9))
  rcases HONE.out with ⟨a, e1, e2⟩ | ⟨e1, hno⟩
  · have hpa : Calls Try.prog 30 #[.string s] w9 fun e w' => Below w9.heap.size w9 w' ∧ e = .returned (.tuple #[.agg #[.string (raA a).n, .int .i64 (raA a).r, .string (raA a).v], .int .i64 0]) := by
      have := HPA.out w9
      rw [e1] at this
      exact this
    obtain ⟨x, hx⟩ : ∃ x, x = raA a := ⟨_, rfl⟩
    rw [← hx] at hpa e2
    have HPX := Lib.hid hpa
    have hc9 := HC9.out
    rw [e2] at hc9
    have HC10 := Lib.hid hc9
    have heq := eql_atoms x x
    rw [decide_eq_true rfl] at heq
    obtain ⟨xn, xr, xv⟩ := x
    simp only at heq HPX
    clear hpa e1 e2 hx hc9 HONE HPA HSC HSA HSP H1 H2 H3 H4 H5 H6 HC9 HC1 HC2 HC3 HC4 HC5 HV1 HV2 HV3 HV4 HV5 HV6 HV12
    go_upto_region 10 with (go_at_call 30; refine HPX.out.mono ?_; rintro e w10 ⟨hb10, rfl⟩)
    obtain ⟨b, hb⟩ : ∃ b, b = w10.heap.size := ⟨_, rfl⟩
    obtain ⟨w11, hw11⟩ : ∃ w11, w11 = w10.alloc (.cells #[.string xn, .int .i64 xr, .string xv] 38) := ⟨_, rfl⟩
    have hbk : Blk w11 b 38 #[.string xn, .int .i64 xr, .string xv] := by rw [hw11, hb]; exact Blk.new w10 _ _
    have hb11 : Below w9.heap.size w9 w11 := by rw [hw11]; exact hb10.alloc hb10.size _
    have HB11 := Lib.hid (HB69.out.trans (hb11.mono HB69.out.size))
    have hc11 := HC10.out.below hb11
    obtain ⟨A, c, rfl, hc1, hA⟩ := hc11
    obtain ⟨g, o, V, rfl, k5, A1, c3, rfl, hc3, hA1⟩ := hA 0 (by simp)
    obtain ⟨g1, o1, rfl, k6, k7, k8⟩ := hA1 0 (by simp)
    have hks : ∀ W, Below w11.heap.size w11 W → W.cell? ⟨b, 0, none⟩ = some (.string xn) ∧ W.cell? ⟨b, 1, none⟩ = some (.int .i64 xr) ∧ W.cell? ⟨b, 2, none⟩ = some (.string xv) ∧ W.cell? ⟨g, o, none⟩ = some (.slice (some ⟨g1, o1, none⟩) 1 c3) ∧ W.cell? ⟨g1, o1, none⟩ = some (.string xn) ∧ W.cell? ⟨g1, o1 + 1, none⟩ = some (.int .i64 xr) ∧ W.cell? ⟨g1, o1 + 2, none⟩ = some (.string xv) := fun W hW =>
      ⟨(hbk.below hW hbk.lt).cell 0, (hbk.below hW hbk.lt).cell 1, (hbk.below hW hbk.lt).cell 2, (hW.cell (World.block_lt_of_cell? w11 _ k5)).trans k5, (hW.cell (World.block_lt_of_cell? w11 _ k6)).trans k6, (hW.cell (World.block_lt_of_cell? w11 _ k7)).trans k7, (hW.cell (World.block_lt_of_cell? w11 _ k8)).trans k8⟩
    have HKS := Lib.hid hks
    have kz : w11.cell? ⟨g, o, none⟩ = some (.slice (some ⟨g1, o1, none⟩) 1 c3) := k5
    have hc1 : 1 ≤ c := hc1
    have hc3 : 1 ≤ c3 := hc3
    rw [← hw11, ← hb]
    clear hb hw11 hbk hb11 hA hA1 k5 k6 k7 k8 hks hb10
    go_upto_region 11 with fail
    refine wp_region_below (Below.refl w11.heap.size w11) (by kernel_rfl) (by kernel_rfl) ?_
    repeat
      (refine wpQuiet_step (fun K hK => ?_)
       go_simp
       first
       | (refine hK _ ?_; clear hK K)
       | (apply Exists.intro
          refine ⟨fun W9 HW9 => ?_, hK _ ?_⟩
          (first
            | (obtain ⟨k0, k1, k2, k3, k4, k5, k6⟩ := HKS.out W9 HW9; go_simp; first | done | exact ⟨rfl, rfl⟩ | rfl)
            | (go_at_call 12; exact (HAW.out W9).mono fun e w' ⟨he, hb⟩ => ⟨he, HW9.trans (hb.mono HW9.size)⟩))
          clear hK K))
    refine wpQuiet_nil ?_
    intro w12 hb12
    have HB12 := Lib.hid hb12
    clear hb12
    go_wp2_with fail
    go_ret
    exact ⟨rfl, HB11.out.trans (HB12.out.mono HB11.out.size)⟩
  · have hpa : Calls Try.prog 30 #[.string s] w9 fun e w' => Below w9.heap.size w9 w' ∧ e = .returned (.tuple #[.agg #[.string ⟨#[]⟩, .int .i64 0, .string ⟨#[]⟩], .int .i64 3]) := by
      have := HPA.out w9
      rw [e1] at this
      exact this
    have HPX := Lib.hid hpa
    have heq := eql_atoms ⟨⟨#[]⟩, 0, ⟨#[]⟩⟩ ⟨⟨#[]⟩, 0, ⟨#[]⟩⟩
    rw [decide_eq_true rfl] at heq
    simp only at heq
    have HNO := Lib.hid hno
    clear hpa e1 hno HONE HPA HSC HSA HSP H1 H2 H3 H4 H5 H6 HC1 HC2 HC3 HC4 HC5 HV1 HV2 HV3 HV4 HV5 HV6 HV12
    go_upto_region 10 with (go_at_call 30; refine HPX.out.mono ?_; rintro e w10 ⟨hb10, rfl⟩)
    obtain ⟨b, hb⟩ : ∃ b, b = w10.heap.size := ⟨_, rfl⟩
    obtain ⟨w11, hw11⟩ : ∃ w11, w11 = w10.alloc (.cells #[.string ⟨#[]⟩, .int .i64 0, .string ⟨#[]⟩] 38) := ⟨_, rfl⟩
    have hbk : Blk w11 b 38 #[.string ⟨#[]⟩, .int .i64 0, .string ⟨#[]⟩] := by rw [hw11, hb]; exact Blk.new w10 _ _
    have hb11 : Below w9.heap.size w9 w11 := by rw [hw11]; exact hb10.alloc hb10.size _
    have HB11 := Lib.hid (HB69.out.trans (hb11.mono HB69.out.size))
    have hc11 := HC9.out.below hb11
    have hks : ∀ W, Below w11.heap.size w11 W → W.cell? ⟨b, 0, none⟩ = some (.string ⟨#[]⟩) ∧ W.cell? ⟨b, 1, none⟩ = some (.int .i64 0) ∧ W.cell? ⟨b, 2, none⟩ = some (.string ⟨#[]⟩) := fun W hW =>
      ⟨(hbk.below hW hbk.lt).cell 0, (hbk.below hW hbk.lt).cell 1, (hbk.below hW hbk.lt).cell 2⟩
    have HKS := Lib.hid hks
    rw [← hw11, ← hb]
    clear hb hw11 hbk hb11 hks hb10
    obtain ⟨A, c, rfl, hc1, hA⟩ := hc11
    by_cases hn1 : L1.length = 1
    · obtain ⟨l, hl⟩ : ∃ l, L1 = [l] := by
        match L1, hn1 with
        | [l], _ => exact ⟨l, rfl⟩
      subst hl
      obtain ⟨g, o, V, rfl, k5, A1, c3, rfl, hc3, hA1⟩ := hA 0 (by simp)
      obtain ⟨k, hk⟩ : ∃ k, k = l.length := ⟨_, rfl⟩
      have k5 : w11.cell? ⟨g, o, none⟩ = some (.slice A1 k c3) := by rw [hk]; exact k5
      have hk1 : ((k : Int) == 1) = false := by
        rw [beq_eq_false_iff_ne]
        intro e
        have : l.length = 1 := by omega
        match l, this with
        | [x], _ => exact HNO.out x rfl
      have hc1 : 1 ≤ c := hc1
      clear hA hA1 hk hn1 hc3
      obtain ⟨j0, j1, j2⟩ := HKS.out w11 (Below.refl _ _)
      go_wp2_with (go_at_call 12; refine (HAW.out _).mono ?_; rintro e w12 ⟨rfl, hb12⟩)
      go_ret
      exact ⟨rfl, HB11.out.trans (hb12.mono HB11.out.size)⟩
    · obtain ⟨n, hn⟩ : ∃ n, n = L1.length := ⟨_, rfl⟩
      rw [← hn] at hn1 ⊢
      have hk1 : ((n : Int) == 1) = false := by rw [beq_eq_false_iff_ne]; omega
      clear hA hn hn1 hc1
      obtain ⟨j0, j1, j2⟩ := HKS.out w11 (Below.refl _ _)
      go_wp2_with (go_at_call 12; refine (HAW.out _).mono ?_; rintro e w12 ⟨rfl, hb12⟩)
      go_ret
      exact ⟨rfl, HB11.out.trans (hb12.mono HB11.out.size)⟩
section
open Go.ChangeShapes Go.WideShapes Go.ChangeAt Go.ChangeMaps
theorem relationParses_walk {H : Type} {enc : TypeId × Value → H} (W : World) {base : Nat} (v0 : Value) {d0 : DataW H} {p0 : List MemPlace} (h0 : DataW.Trod enc Try.prog W 0 (fun _ => true) true 9 v0 d0 p0) (o0 : Value.okWide Try.prog W .any base 9 v0)
    (hk : Rows.uptoBulkAll [d0] ≤ 1048576) :
    Calls Try.prog 7 #[v0] W fun e w' => e = .returned (.bool true) ∧ Below W.heap.size W w' := by
  obtain ⟨s, rfl, rfl, rfl, ws⟩ := open_string Try.underlying9 o0 h0
  have e1 : s.size = s.data.toList.length := rfl
  simp only [Rows.uptoBulkAll, Rows.uptoBulk] at hk
  exact relationParses_any s W (by omega)
end
end Go.Proofs.Ytdchnllflodmkaa
