/- RelationBack: the walk. -/
import Derived.Test.YtdchnllflodmkaaRA1
import Derived.Test.YtdchnllflodmkaaRA2
import Derived.Test.YtdchnllflodmkaaRo
import Derived.Deep.Cut
namespace Go.Proofs.Ytdchnllflodmkaa
open Go.RowKit
set_option linter.unusedVariables false

theorem flat_ones {α β : Type} (f : α → β) (A : List α) : ((A.map (fun a => [a])).map (·.map f)).flatten = A.map f := by
  induction A with
  | nil => rfl
  | cons a r ih =>
    simp only [List.map_cons, List.flatten_cons, ih, List.map_nil]
    rfl
theorem flat_oneB {L : List (List Rl.Atm)} (h : ∀ l ∈ L, l.length = 1) : L.flatten.length = L.length := by
  induction L with
  | nil => rfl
  | cons x r ih =>
    rw [List.flatten_cons, List.length_append, ih (fun l hl => h l (.tail _ hl)), h x (.head _), List.length_cons]
    omega
theorem ltx_empty {L : List (List RA)} (h : okL L = true) : (Rl.tob (ltx L)).toList.isEmpty = decide (L.length = 0) := by
  rw [str_tob]
  by_cases hL : L = []
  · subst hL; rfl
  · have h1 := ltx_ne h hL
    have h2 : L.length ≠ 0 := fun e => hL (List.length_eq_zero_iff.1 e)
    rw [decide_eq_false h2]
    cases he : ltx L with
    | nil => exact absurd he h1
    | cons => rfl
theorem ltx_off {L : List (List RA)} (h : okL L = false) : (Rl.tob (ltx L)).toList.isEmpty = true ∧ L.length ≠ 0 := by
  refine ⟨by rw [ltx_bad h]; exact str_tob [], fun e => ?_⟩
  rw [List.length_eq_zero_iff.1 e] at h
  cases h
/-- What the walk asks of one part: the text s of n things, and whether it may be. -/
theorem part_ways {L : List (List RA)} : ∃ c, okL L = c ∧ ((c = true ∧ (Rl.tob (ltx L)).toList.isEmpty = true ∧ L.length = 0) ∨ (c = true ∧ (Rl.tob (ltx L)).toList.isEmpty = false) ∨ (c = false ∧ (Rl.tob (ltx L)).toList.isEmpty = true ∧ L.length ≠ 0)) := by
  by_cases h : okL L = true
  · refine ⟨true, h, ?_⟩
    have h1 := ltx_empty h
    by_cases h0 : L.length = 0
    · rw [decide_eq_true h0] at h1
      exact .inl ⟨rfl, h1, h0⟩
    · rw [decide_eq_false h0] at h1
      exact .inr (.inl ⟨rfl, h1⟩)
  · have h : okL L = false := by simpa using h
    have h1 := ltx_off h
    exact ⟨false, h, .inr (.inr ⟨rfl, h1.1, h1.2⟩)⟩
theorem back_parse {L : List (List RA)} (h : okL L = true) : eno (Rl.allP nmL verL anyF false (bl (Rl.tob (ltx L)))) = 0 ∧ (okv (Rl.allP nmL verL anyF false (bl (Rl.tob (ltx L))))).map (·.map raA) = L := by
  rw [reads_back h (s := bl (Rl.tob (ltx L))) (by rw [Rl.bl_tob]) (mf := anyF) (fun _ _ _ _ => rfl) (fun h => by cases h)]
  exact ⟨rfl, back_atm h⟩
theorem ones_len {α : Type} {A : List α} : ∀ c ∈ A.map (fun a => [a]), c.length = 1 := fun c hc => by
  obtain ⟨a, _, rfl⟩ := List.mem_map.1 hc
  rfl
theorem back_atoms {A : List RA} (h : okL (A.map (fun a => [a])) = true) : eno (Rl.allP nmL verL anyF true (bl (Rl.tob (ltx (A.map (fun a => [a])))))) = 0 ∧ (okv (Rl.allP nmL verL anyF true (bl (Rl.tob (ltx (A.map (fun a => [a]))))))).flatten.map raA = A := by
  rw [reads_back h (s := bl (Rl.tob (ltx (A.map (fun a => [a]))))) (by rw [Rl.bl_tob]) (mf := anyF) (fun _ _ _ _ => rfl) (fun _ => ones_len)]
  refine ⟨rfl, ?_⟩
  show ((A.map (fun a => [a])).map (·.map atmOf)).flatten.map raA = A
  have h1 := congrArg List.flatten (back_atm h)
  rw [flat_ones, List.map_map]
  have h2 : ∀ a ∈ A, raA (atmOf a) = a := fun a ha => raA_atm (mayR_len ((okC_len ((okL_len h).2 [a] (List.mem_map.2 ⟨a, ha, rfl⟩))).2.2 a (by simp))).2.2.1
  conv => rhs; rw [← List.map_id A]
  exact List.map_congr_left h2
theorem back_provs {B : List RP} (h : okL ((B.map pvA).map (fun a => [a])) = true) : eno (Rl.allP nmL verL provF true (bl (Rl.tob (ltx ((B.map pvA).map (fun a => [a])))))) = 0 ∧ (okv (Rl.allP nmL verL provF true (bl (Rl.tob (ltx ((B.map pvA).map (fun a => [a]))))))).flatten.map rpA = B := by
  rw [reads_back h (s := bl (Rl.tob (ltx ((B.map pvA).map (fun a => [a]))))) (by rw [Rl.bl_tob]) (mf := provF) (fun c hc a ha => by
    obtain ⟨a0, ha0, rfl⟩ := List.mem_map.1 hc
    rw [List.mem_singleton] at ha
    subst ha
    obtain ⟨p, _, rfl⟩ := List.mem_map.1 ha0
    show (decide ((pvA p).r.toNat = 0) || decide ((pvA p).r.toNat = 3)) = true
    unfold pvA
    dsimp only
    split <;> rfl) (fun _ => ones_len)]
  refine ⟨rfl, ?_⟩
  show (((B.map pvA).map (fun a => [a])).map (·.map atmOf)).flatten.map rpA = B
  rw [flat_ones, List.map_map, List.map_map]
  have h2 : ∀ p ∈ B, rpA (atmOf (pvA p)) = p := fun p _ => by
    obtain ⟨n, v⟩ := p
    show RP.mk (Rl.tob (bl n)) (Rl.tob (bl v)) = _
    rw [tob_bl, tob_bl]
  conv => rhs; rw [← List.map_id B]
  exact List.map_congr_left h2
set_option maxRecDepth 100000 in
set_option maxHeartbeats 4000000 in
theorem relationBack_heavy (v1 v2 v3 : Value) (L : List (List RA)) (A : List RA) (B : List RP) (w : World) (h1 : ClsAt w v1 L) (h2 : AtsAt w v2 A) (h3 : PrsAt w v3 B)
    (hL : L.length ≤ 1048576) (hno : lightB L = false ∨ 30 < A.length ∨ 30 < B.length) :
    Calls Try.prog 8 #[v1, v2, v3] w fun e w' => e = .returned (.bool true) ∧ Below w.heap.size w w' := by
  have HAW := Lib.hid (fun W => awake_any W)
  obtain ⟨b, hb⟩ : ∃ b, b = lightB L := ⟨_, rfl⟩
  have hlt := light_any v1 L w h1 (by omega)
  rw [← hb] at hno hlt
  have HLT := Lib.hid hlt
  obtain ⟨A2, c2, rfl, hc2, hA2⟩ := h2
  obtain ⟨A3, c3, rfl, hc3, hA3⟩ := h3
  obtain ⟨n2, hn2⟩ : ∃ n2, n2 = A.length := ⟨_, rfl⟩
  obtain ⟨n3, hn3⟩ : ∃ n3, n3 = B.length := ⟨_, rfl⟩
  rw [← hn2, ← hn3] at hno
  rw [← hn2, ← hn3]
  clear hA2 hA3 hn2 hn3 hb h1 hc2 hc3 hL hlt
  have key : (b = false) ∨ (b = true ∧ (30 : Int) < (n2 : Int)) ∨ (b = true ∧ ¬ (30 : Int) < (n2 : Int) ∧ (30 : Int) < (n3 : Int)) := by
    cases b with
    | false => exact .inl rfl
    | true =>
      by_cases h2 : 30 < n2
      · exact .inr (.inl ⟨rfl, by omega⟩)
      · refine .inr (.inr ⟨rfl, by omega, ?_⟩)
        rcases hno with h | h | h
        · cases h
        · exact absurd h h2
        · omega
  clear hno
  rcases key with rfl | ⟨rfl, h2⟩ | ⟨rfl, h2, h3⟩
  all_goals
    go_enter Try.func8, Try.ntmps8
    go_wp2_with (first
      | (go_at_call 13; refine HLT.out.mono ?_; rintro e w1 ⟨rfl, hb1⟩; have HB1 := Lib.hid hb1; clear hb1)
      | (go_at_call 12; refine (HAW.out _).mono ?_; rintro e w2 ⟨rfl, hb2⟩; have HB2 := Lib.hid hb2; clear hb2))
    go_ret
    exact ⟨rfl, HB1.out.trans (HB2.out.mono HB1.out.size)⟩
set_option maxRecDepth 100000 in
set_option maxHeartbeats 16000000 in
theorem relationBack_light (v1 v2 v3 : Value) (L : List (List RA)) (A : List RA) (B : List RP) (w : World) (h1 : ClsAt w v1 L) (h2 : AtsAt w v2 A) (h3 : PrsAt w v3 B)
    (hL : lightB L = true) (hA : A.length ≤ 30) (hB : B.length ≤ 30) (hLs : ∀ c ∈ L, ∀ a ∈ c, a.n.size ≤ 1048576 ∧ a.v.size ≤ 1048576) (hAs : ∀ a ∈ A, a.n.size ≤ 1048576 ∧ a.v.size ≤ 1048576) (hBs : ∀ a ∈ B, a.n.size ≤ 1048576 ∧ a.v.size ≤ 1048576) :
    Calls Try.prog 8 #[v1, v2, v3] w fun e w' => e = .returned (.bool true) ∧ Below w.heap.size w w' := by
  have hll : L.length ≤ 30 := by unfold lightB at hL; simp only [Bool.and_eq_true, decide_eq_true_eq] at hL; exact hL.1
  have hlc : ∀ l ∈ L, l.length ≤ 281474976710656 := by
    unfold lightB at hL
    simp only [Bool.and_eq_true, decide_eq_true_eq, List.all_eq_true] at hL
    intro l hl
    have := hL.2 l hl
    omega
  have HAW := Lib.hid (fun W => awake_any W)
  have HLT : Hid (Calls Try.prog 13 #[v1] w fun e w' => e = .returned (.bool true) ∧ Below w.heap.size w w') := Lib.hid (by rw [← hL]; exact light_any v1 L w h1 (by omega))
  obtain ⟨c1, hc1, hw1⟩ := part_ways (L := L)
  obtain ⟨c2, hc2, hw2⟩ := part_ways (L := A.map (fun a => [a]))
  obtain ⟨c3, hc3, hw3⟩ := part_ways (L := (B.map pvA).map (fun a => [a]))
  have hT1 : ∀ W, Below w.heap.size w W → Calls Try.prog 14 #[v1] W fun e w' => e = .returned (.string (Rl.tob (ltx L))) ∧ Below W.heap.size W w' := fun W hW => Text_any v1 L W (h1.below hW) hLs
  have hT1' : ∀ W u, ClsAt W u L → Calls Try.prog 14 #[u] W fun e w' => e = .returned (.string (Rl.tob (ltx L))) ∧ Below W.heap.size W w' := fun W u hu => Text_any u L W hu hLs
  have hT2 : ∀ W, Below w.heap.size w W → Calls Try.prog 16 #[v2] W fun e w' => e = .returned (.string (Rl.tob (ltx (A.map (fun a => [a]))))) ∧ Below W.heap.size W w' := fun W hW => Atoms_any v2 A W (h2.below hW) (by omega) hAs
  have hT3 : ∀ W, Below w.heap.size w W → Calls Try.prog 18 #[v3] W fun e w' => e = .returned (.string (Rl.tob (ltx ((B.map pvA).map (fun a => [a]))))) ∧ Below W.heap.size W w' := fun W hW => Provides_any v3 B W (h3.below hW) (by omega) hBs
  have hl1 := ltx_len L
  have hl2 := ltx_len (A.map (fun a => [a]))
  have hl3 := ltx_len ((B.map pvA).map (fun a => [a]))
  have hP1 : c1 = true → ∀ W, Calls Try.prog 9 #[.string (Rl.tob (ltx L))] W fun e w' => Below W.heap.size W w' ∧ ∃ v, e = .returned (.tuple #[v, .int .i64 0]) ∧ ClsAt w' v L := fun h W => (Parse_any (Rl.tob (ltx L)) W (by rw [tob_size']; omega)).mono fun e w' ⟨hb, v, he, ho⟩ => by
    have hbk := back_parse (hc1.trans h)
    rw [hbk.1] at he
    have ho := ho.cls
    rw [hbk.2] at ho
    exact ⟨hb, v, he, ho⟩
  have hP2 : c2 = true → ∀ W, Calls Try.prog 24 #[.string (Rl.tob (ltx (A.map (fun a => [a]))))] W fun e w' => Below W.heap.size W w' ∧ ∃ v, e = .returned (.tuple #[v, .int .i64 0]) ∧ AtsAt w' v A := fun h W => (ParseAtoms_any (Rl.tob (ltx (A.map (fun a => [a])))) W (by rw [tob_size']; omega)).mono fun e w' ⟨hb, A', m, c, he, hm, ho⟩ => by
    have hbk := back_atoms (hc2.trans h)
    rw [hbk.1] at he
    have ho := AtsAt.of_own ho hm
    rw [hbk.2] at ho
    exact ⟨hb, _, he, ho⟩
  have hP3 : c3 = true → ∀ W, Calls Try.prog 26 #[.string (Rl.tob (ltx ((B.map pvA).map (fun a => [a]))))] W fun e w' => Below W.heap.size W w' ∧ ∃ v, e = .returned (.tuple #[v, .int .i64 0]) ∧ PrsAt w' v B := fun h W => (ParseProvides_any (Rl.tob (ltx ((B.map pvA).map (fun a => [a])))) W (by rw [tob_size']; omega)).mono fun e w' ⟨hb, A', m, c, he, hm, ho⟩ => by
    have hbk := back_provs (hc3.trans h)
    rw [hbk.1] at he
    have ho := PrsAt.of_own ho (by rw [hm]; exact (flat_oneB fun l hl => (okv_len.2 l hl).2.2 rfl).symm)
    rw [hbk.2] at ho
    exact ⟨hb, _, he, ho⟩
  have HSC : Hid (∀ W u, Below w.heap.size w W → ClsAt W u L → Calls Try.prog 11 #[v1, u] W fun e w' => e = .returned (.bool true) ∧ Below W.heap.size W w') := Lib.hid (fun W u hW b => (SameClauses_any v1 u L L W (h1.below hW) b (by omega) hlc).mono fun e w' ⟨he, m, hm⟩ => ⟨by rw [he, decide_eq_true rfl], by rw [hm]; exact below_drewN _ _⟩)
  have HSA : Hid (∀ W u, Below w.heap.size w W → AtsAt W u A → Calls Try.prog 28 #[v2, u] W fun e w' => e = .returned (.bool true) ∧ Below W.heap.size W w') := Lib.hid (fun W u hW b => (SameAtoms_any v2 u A A W (h2.below hW) b (by omega)).mono fun e w' ⟨he, m, hm⟩ => ⟨by rw [he, decide_eq_true rfl], by rw [hm]; exact below_drewN _ _⟩)
  have HSP : Hid (∀ W u, Below w.heap.size w W → PrsAt W u B → Calls Try.prog 29 #[v3, u] W fun e w' => e = .returned (.bool true) ∧ Below W.heap.size W w') := Lib.hid (fun W u hW b => (SameProvides_any v3 u B B W (h3.below hW) b (by omega)).mono fun e w' ⟨he, m, hm⟩ => ⟨by rw [he, decide_eq_true rfl], by rw [hm]; exact below_drewN _ _⟩)
  have hn2e : (A.map (fun a => [a])).length = A.length := List.length_map _
  have hn3e : ((B.map pvA).map (fun a => [a])).length = B.length := by rw [List.length_map, List.length_map]
  rw [hn2e] at hw2
  rw [hn3e] at hw3
  generalize Rl.tob (ltx L) = X1 at *
  generalize Rl.tob (ltx (A.map (fun a => [a]))) = X2 at *
  generalize Rl.tob (ltx ((B.map pvA).map (fun a => [a]))) = X3 at *
  have HT1 := Lib.hid hT1
  have HT1' := Lib.hid hT1'
  have HT2 := Lib.hid hT2
  have HT3 := Lib.hid hT3
  have HP1 := Lib.hid hP1
  have HP2 := Lib.hid hP2
  have HP3 := Lib.hid hP3
  obtain ⟨A1, k1, rfl, hk1, hA1⟩ := h1
  obtain ⟨A2, k2, rfl, hk2, hA2⟩ := h2
  obtain ⟨A3, k3, rfl, hk3, hA3⟩ := h3
  obtain ⟨n1, hn1⟩ : ∃ n1, n1 = L.length := ⟨_, rfl⟩
  obtain ⟨n2, hn2⟩ : ∃ n2, n2 = A.length := ⟨_, rfl⟩
  obtain ⟨n3, hn3⟩ : ∃ n3, n3 = B.length := ⟨_, rfl⟩
  rw [← hn1] at hw1 HT1 HSC HLT ⊢
  rw [← hn2] at hA hw2 HT2 HSA ⊢
  rw [← hn3] at hB hw3 HT3 HSP ⊢
  have h2' : ¬ (30 : Int) < (n2 : Int) := by omega
  have h3' : ¬ (30 : Int) < (n3 : Int) := by omega
  have HW1 := Lib.hid hw1
  have HW2 := Lib.hid hw2
  have HW3 := Lib.hid hw3
  clear hA1 hA2 hA3 hn1 hn2 hn3 hk1 hk2 hk3 hL hll hlc hT1 hT1' hT2 hT3 hP1 hP2 hP3 hw1 hw2 hw3 hl1 hl2 hl3 hLs hAs hBs hn2e hn3e hc1 hc2 hc3 hA hB
  go_enter Try.func8, Try.ntmps8
  go_upto_region 4 with (first
    | (go_at_call 13; refine HLT.out.mono ?_; rintro e w1 ⟨rfl, hb1⟩; have HB1 := Lib.hid hb1; clear hb1)
    | (go_at_call 14; refine (HT1.out _ HB1.out).mono ?_; rintro e w2 ⟨rfl, hb2⟩; have HB2 := Lib.hid (HB1.out.trans (hb2.mono HB1.out.size)); clear hb2))
  clear HLT HT1 HB1
  go_cut [0, 38] (fun v0 v wx => v0 = .slice A1 n1 k1 ∧ wx = w2 ∧ v = .bool c1)
  case first =>
    rcases HW1.out with ⟨rfl, e1, e2⟩ | ⟨rfl, e1⟩ | ⟨rfl, e1, e2⟩
    · have E2 : Hid (n1 = 0) := Lib.hid e2
      have e2 : (n1 : Int) < 1 := by omega
      go_wp2_with fail
      go_meet
      exact ⟨by rw [E2.out], rfl, rfl⟩
    · go_wp2_with fail
      go_meet
      exact ⟨rfl, rfl, rfl⟩
    · have e2 : ((n1 : Int) == 0) = false := by rw [beq_eq_false_iff_ne]; omega
      go_wp2_with fail
      go_meet
      exact ⟨rfl, rfl, rfl⟩
  case rest =>
    obtain ⟨rfl, rfl, rfl⟩ := hcut
    clear HW1
    go_upto_if 38 with fail
    go_cut [] (fun wx => Hid (Below w.heap.size w wx))
    case first =>
      cases c1 with
      | false =>
        go_wp2_with fail
        go_meet
        exact HB2
      | true =>
        go_wp2_with (first
          | (go_at_call 9; refine (HP1.out rfl _).mono ?_; rintro e w3 ⟨hb3, v3, rfl, hv3⟩; have HV3 := Lib.hid hv3; have HB3 := Lib.hid (HB2.out.trans (hb3.mono HB2.out.size)); clear hv3 hb3)
          | (go_at_call 11; refine (HSC.out _ _ HB3.out HV3.out).mono ?_; rintro e w4 ⟨rfl, hb4⟩; have HV4 := Lib.hid (HV3.out.below hb4); have HB4 := Lib.hid (HB3.out.trans (hb4.mono HB3.out.size)); clear hb4)
          | (go_at_call 14; refine (HT1'.out _ _ HV4.out).mono ?_; rintro e w5 ⟨rfl, hb5⟩; have HB5 := Lib.hid (HB4.out.trans (hb5.mono HB4.out.size)); clear hb5))
        go_meet
        exact HB5
    case rest =>
      have HB6 := hcut
      clear hcut HB2 HT1' HP1 HSC
      go_upto_region 9 with (go_at_call 16; refine (HT2.out _ HB6.out).mono ?_; rintro e w7 ⟨rfl, hb7⟩; have HB7 := Lib.hid (HB6.out.trans (hb7.mono HB6.out.size)); clear hb7)
      clear HT2 HB6
      go_cut [1, 66] (fun v0 v wx => v0 = .slice A2 n2 k2 ∧ wx = w7 ∧ v = .bool c2)
      case first =>
        rcases HW2.out with ⟨rfl, e1, e2⟩ | ⟨rfl, e1⟩ | ⟨rfl, e1, e2⟩
        · have E2 : Hid (n2 = 0) := Lib.hid e2
          have e2 : (n2 : Int) < 1 := by omega
          go_wp2_with fail
          go_meet
          exact ⟨by rw [E2.out], rfl, rfl⟩
        · go_wp2_with fail
          go_meet
          exact ⟨rfl, rfl, rfl⟩
        · have e2 : ((n2 : Int) == 0) = false := by rw [beq_eq_false_iff_ne]; omega
          go_wp2_with fail
          go_meet
          exact ⟨rfl, rfl, rfl⟩
      case rest =>
        obtain ⟨rfl, rfl, rfl⟩ := hcut
        clear HW2
        go_upto_if 66 with fail
        go_cut [] (fun wx => Hid (Below w.heap.size w wx))
        case first =>
          cases c2 with
          | false =>
            go_wp2_with fail
            go_meet
            exact HB7
          | true =>
            go_wp2_with (first
              | (go_at_call 24; refine (HP2.out rfl _).mono ?_; rintro e w3 ⟨hb3, v3, rfl, hv3⟩; have HV3 := Lib.hid hv3; have HB3 := Lib.hid (HB7.out.trans (hb3.mono HB7.out.size)); clear hv3 hb3)
              | (go_at_call 28; refine (HSA.out _ _ HB3.out HV3.out).mono ?_; rintro e w4 ⟨rfl, hb4⟩; have HB4 := Lib.hid (HB3.out.trans (hb4.mono HB3.out.size)); clear hb4))
            go_meet
            exact HB4
        case rest =>
          have HB6 := hcut
          clear hcut HB7 HP2 HSA
          go_upto_region 14 with (go_at_call 18; refine (HT3.out _ HB6.out).mono ?_; rintro e w7 ⟨rfl, hb7⟩; have HB7 := Lib.hid (HB6.out.trans (hb7.mono HB6.out.size)); clear hb7)
          clear HT3 HB6
          go_cut [2, 88] (fun v0 v wx => v0 = .slice A3 n3 k3 ∧ wx = w7 ∧ v = .bool c3)
          case first =>
            rcases HW3.out with ⟨rfl, e1, e2⟩ | ⟨rfl, e1⟩ | ⟨rfl, e1, e2⟩
            · have E2 : Hid (n3 = 0) := Lib.hid e2
              have e2 : (n3 : Int) < 1 := by omega
              go_wp2_with fail
              go_meet
              exact ⟨by rw [E2.out], rfl, rfl⟩
            · go_wp2_with fail
              go_meet
              exact ⟨rfl, rfl, rfl⟩
            · have e2 : ((n3 : Int) == 0) = false := by rw [beq_eq_false_iff_ne]; omega
              go_wp2_with fail
              go_meet
              exact ⟨rfl, rfl, rfl⟩
          case rest =>
            obtain ⟨rfl, rfl, rfl⟩ := hcut
            clear HW3
            go_upto_if 88 with fail
            go_cut [] (fun wx => Hid (Below w.heap.size w wx))
            case first =>
              cases c3 with
              | false =>
                go_wp2_with fail
                go_meet
                exact HB7
              | true =>
                go_wp2_with (first
                  | (go_at_call 26; refine (HP3.out rfl _).mono ?_; rintro e w3 ⟨hb3, v3, rfl, hv3⟩; have HV3 := Lib.hid hv3; have HB3 := Lib.hid (HB7.out.trans (hb3.mono HB7.out.size)); clear hv3 hb3)
                  | (go_at_call 29; refine (HSP.out _ _ HB3.out HV3.out).mono ?_; rintro e w4 ⟨rfl, hb4⟩; have HB4 := Lib.hid (HB3.out.trans (hb4.mono HB3.out.size)); clear hb4))
                go_meet
                exact HB4
            case rest =>
              have HB6 := hcut
              clear hcut HB7 HP3 HSP
              go_wp2_with (go_at_call 12; refine (HAW.out _).mono ?_; rintro e w8 ⟨rfl, hb8⟩)
              go_ret
              exact ⟨rfl, HB6.out.trans (hb8.mono HB6.out.size)⟩
section
open Go.ChangeShapes Go.WideShapes Go.ChangeAt Go.ChangeMaps
theorem relationBack_walk {H : Type} {enc : TypeId × Value → H} (W : World) {base : Nat} (v0 v1 v2 : Value) {d0 d1 d2 : DataW H} {p0 p1 p2 : List MemPlace}
    (h0 : DataW.Trod enc Try.prog W 0 (fun _ => true) true 23 v0 d0 p0) (o0 : Value.okWide Try.prog W .any base 23 v0)
    (h1 : DataW.Trod enc Try.prog W 0 (fun _ => true) true 35 v1 d1 p1) (o1 : Value.okWide Try.prog W .any base 35 v1)
    (h2 : DataW.Trod enc Try.prog W 0 (fun _ => true) true 36 v2 d2 p2) (o2 : Value.okWide Try.prog W .any base 36 v2)
    (hk : Rows.uptoBulkAll [d0, d1, d2] ≤ 1048576) :
    Calls Try.prog 8 #[v0, v1, v2] W fun e w' => e = .returned (.bool true) ∧ Below W.heap.size W w' := by
  simp only [Rows.uptoBulkAll] at hk
  obtain ⟨f0, g0⟩ := h0
  obtain ⟨f1, g1⟩ := h1
  obtain ⟨f2, g2⟩ := h2
  obtain ⟨a0, n0, c0, rfl⟩ := okWide_slice Try.underlying23 o0
  obtain ⟨a1, n1, c1, rfl⟩ := okWide_slice Try.underlying35 o1
  obtain ⟨a2, n2, c2, rfl⟩ := okWide_slice Try.underlying36 o2
  obtain ⟨L, hL1, hL2, hL3⟩ := open_cls g0
  obtain ⟨A, hA1, hA2, hA3⟩ := open_ats Try.underlying35 g1
  obtain ⟨B, hB1, hB2, hB3⟩ := open_prs Try.underlying36 g2
  simp only at hL2 hL3 hA2 hA3 hB2 hB3
  by_cases hl : lightB L = true ∧ A.length ≤ 30 ∧ B.length ≤ 30
  · exact relationBack_light _ _ _ L A B W hL1 hA1 hB1 hl.1 hl.2.1 hl.2.2 (fun c hc a ha => by have := (hL3 c hc).2 a ha; omega) (fun a ha => by have := hA3 a ha; omega) (fun a ha => by have := hB3 a ha; omega)
  · refine relationBack_heavy _ _ _ L A B W hL1 hA1 hB1 (by omega) ?_
    by_cases h : lightB L = true
    · by_cases h' : A.length ≤ 30
      · exact .inr (.inr (by
          have : ¬ B.length ≤ 30 := fun h9 => hl ⟨h, h', h9⟩
          omega))
      · exact .inr (.inl (by omega))
    · exact .inl (by simpa using h)
end
end Go.Proofs.Ytdchnllflodmkaa
