/- RelationTexts: the walk. -/
import Derived.Test.YtdchnllflodmkaaRA1
import Derived.Test.YtdchnllflodmkaaMono
namespace Go.Proofs.Ytdchnllflodmkaa
open Go.RowKit
set_option linter.unusedVariables false

set_option maxRecDepth 100000 in
set_option maxHeartbeats 4000000 in
theorem relationTexts_heavy (v1 v2 v3 : Value) (L : List (List RA)) (A : List RA) (B : List RP) (x : RA) (w : World) (h1 : ClsAt w v1 L) (h2 : AtsAt w v2 A) (h3 : PrsAt w v3 B)
    (hL : L.length ≤ 1048576) (hno : lightB L = false ∨ 30 < A.length ∨ 30 < B.length) :
    Calls Try.prog 6 #[v1, v2, v3, .agg #[.string x.n, .int .i64 x.r, .string x.v]] w fun e w' => e = .returned (.bool true) ∧ Below w.heap.size w w' := by
  have HAW := Lib.hid (fun W => awake_any W)
  obtain ⟨b, hb⟩ : ∃ b, b = lightB L := ⟨_, rfl⟩
  have HLT : Hid (∀ W, Below w.heap.size w W → Calls Try.prog 13 #[v1] W fun e w' => e = .returned (.bool b) ∧ Below W.heap.size W w') := Lib.hid (fun W hW => by rw [hb]; exact light_any v1 L W (h1.below hW) (by omega))
  rw [← hb] at hno
  obtain ⟨A2, c2, rfl, hc2, hA2⟩ := h2
  obtain ⟨A3, c3, rfl, hc3, hA3⟩ := h3
  obtain ⟨n2, hn2⟩ : ∃ n2, n2 = A.length := ⟨_, rfl⟩
  obtain ⟨n3, hn3⟩ : ∃ n3, n3 = B.length := ⟨_, rfl⟩
  rw [← hn2, ← hn3] at hno
  rw [← hn2, ← hn3]
  have hba : Below w.heap.size w (w.alloc (.cells #[.string x.n, .int .i64 x.r, .string x.v] 38)) := (Below.refl _ _).alloc (Nat.le_refl _) _
  have HBA := Lib.hid hba
  obtain ⟨xn, xr, xv⟩ := x
  clear hA2 hA3 hn2 hn3 hb h1 hba hc2 hc3 hL
  simp only at HBA
  cases b with
  | false =>
    clear hno
    go_enter Try.func6, Try.ntmps6
    go_wp2_with (first
      | (go_at_call 13; refine (HLT.out _ HBA.out).mono ?_; rintro e w1 ⟨rfl, hb1⟩; have HB1 := Lib.hid hb1; clear hb1)
      | (go_at_call 12; refine (HAW.out _).mono ?_; rintro e w2 ⟨rfl, hb2⟩; have HB2 := Lib.hid hb2; clear hb2))
    go_ret
    exact ⟨rfl, HBA.out.trans ((HB1.out.trans (HB2.out.mono HB1.out.size)).mono HBA.out.size)⟩
  | true =>
    by_cases h2 : 30 < n2
    · have h2' : (30 : Int) < (n2 : Int) := by omega
      clear hno h2
      go_enter Try.func6, Try.ntmps6
      go_wp2_with (first
        | (go_at_call 13; refine (HLT.out _ HBA.out).mono ?_; rintro e w1 ⟨rfl, hb1⟩; have HB1 := Lib.hid hb1; clear hb1)
        | (go_at_call 12; refine (HAW.out _).mono ?_; rintro e w2 ⟨rfl, hb2⟩; have HB2 := Lib.hid hb2; clear hb2))
      go_ret
      exact ⟨rfl, HBA.out.trans ((HB1.out.trans (HB2.out.mono HB1.out.size)).mono HBA.out.size)⟩
    · have h3' : (30 : Int) < (n3 : Int) := by
        rcases hno with h | h | h
        · cases h
        · exact absurd h h2
        · omega
      have h2' : ¬ (30 : Int) < (n2 : Int) := by omega
      clear hno h2
      go_enter Try.func6, Try.ntmps6
      go_wp2_with (first
        | (go_at_call 13; refine (HLT.out _ HBA.out).mono ?_; rintro e w1 ⟨rfl, hb1⟩; have HB1 := Lib.hid hb1; clear hb1)
        | (go_at_call 12; refine (HAW.out _).mono ?_; rintro e w2 ⟨rfl, hb2⟩; have HB2 := Lib.hid hb2; clear hb2))
      go_ret
      exact ⟨rfl, HBA.out.trans ((HB1.out.trans (HB2.out.mono HB1.out.size)).mono HBA.out.size)⟩
theorem pvA_mem {B : List RP} {N : Nat} (h : ∀ a ∈ B, a.n.size ≤ N ∧ a.v.size ≤ N) : ∀ a ∈ B.map pvA, a.n.size ≤ N ∧ a.v.size ≤ N := fun a ha => by
  obtain ⟨p, hp, rfl⟩ := List.mem_map.1 ha
  exact h p hp
theorem ones_mem {A : List RA} {N : Nat} (h : ∀ a ∈ A, a.n.size ≤ N ∧ a.v.size ≤ N) : ∀ c ∈ A.map (fun a => [a]), ∀ a ∈ c, a.n.size ≤ N ∧ a.v.size ≤ N := fun c hc a ha => by
  obtain ⟨p, hp, rfl⟩ := List.mem_map.1 hc
  rw [List.mem_singleton] at ha
  subst ha
  exact h a hp
set_option maxRecDepth 100000 in
set_option maxHeartbeats 16000000 in
theorem relationTexts_light (v1 v2 v3 : Value) (L : List (List RA)) (A : List RA) (B : List RP) (x : RA) (w : World) (h1 : ClsAt w v1 L) (h2 : AtsAt w v2 A) (h3 : PrsAt w v3 B)
    (hL : lightB L = true) (hA : A.length ≤ 30) (hB : B.length ≤ 30) (hLs : ∀ c ∈ L, ∀ a ∈ c, a.n.size ≤ 1048576 ∧ a.v.size ≤ 1048576) (hAs : ∀ a ∈ A, a.n.size ≤ 1048576 ∧ a.v.size ≤ 1048576) (hBs : ∀ a ∈ B, a.n.size ≤ 1048576 ∧ a.v.size ≤ 1048576) (hxn : x.n.size ≤ 1048576) (hxv : x.v.size ≤ 1048576) :
    Calls Try.prog 6 #[v1, v2, v3, .agg #[.string x.n, .int .i64 x.r, .string x.v]] w fun e w' => e = .returned (.bool true) ∧ Below w.heap.size w w' := by
  have hll : L.length ≤ 30 := by unfold lightB at hL; simp only [Bool.and_eq_true, decide_eq_true_eq] at hL; exact hL.1
  have HAW := Lib.hid (fun W => awake_any W)
  have HLT : Hid (∀ W, Below w.heap.size w W → Calls Try.prog 13 #[v1] W fun e w' => e = .returned (.bool true) ∧ Below W.heap.size W w') := Lib.hid (fun W hW => by rw [← hL]; exact light_any v1 L W (h1.below hW) (by omega))
  have hbk : Blk (w.alloc (.cells #[.string x.n, .int .i64 x.r, .string x.v] 38)) w.heap.size 38 #[.string x.n, .int .i64 x.r, .string x.v] := Blk.new _ _ _
  have hba : Below w.heap.size w (w.alloc (.cells #[.string x.n, .int .i64 x.r, .string x.v] 38)) := (Below.refl _ _).alloc (Nat.le_refl _) _
  obtain ⟨bx, hbx⟩ : ∃ bx, bx = w.heap.size := ⟨_, rfl⟩
  rw [← hbx] at hbk
  obtain ⟨w0, hw0⟩ : ∃ w0, w0 = w.alloc (.cells #[.string x.n, .int .i64 x.r, .string x.v] 38) := ⟨_, rfl⟩
  rw [← hw0] at hbk hba
  have HT1 : Hid (∀ W, Lat w0 W → Calls Try.prog 14 #[v1] W fun e w' => e = .returned (.string (Rl.tob (ltx L))) ∧ Lat W w') := Lib.hid (fun W hW => Text_any v1 L W ((h1.below hba).below hW) hLs)
  have HT2 : Hid (∀ W, Lat w0 W → Calls Try.prog 15 #[v1] W fun e w' => e = .returned (.string (Rl.tob (ltx L))) ∧ Lat W w') := Lib.hid (fun W hW => RText_any v1 L W ((h1.below hba).below hW) hLs)
  have HA1 : Hid (∀ W, Lat w0 W → Calls Try.prog 16 #[v2] W fun e w' => e = .returned (.string (Rl.tob (ltx (A.map (fun a => [a]))))) ∧ Lat W w') := Lib.hid (fun W hW => Atoms_any v2 A W ((h2.below hba).below hW) (by omega) hAs)
  have HS1 : Hid (∀ W, Lat w0 W → Calls Try.prog 17 #[v2] W fun e w' => ∃ v', e = .returned v' ∧ ClsAt w' v' (A.map (fun a => [a])) ∧ Lat W w') := Lib.hid (fun W hW => Singles_any v2 A W ((h2.below hba).below hW) (by omega))
  have HT3 : Hid (∀ W u, ClsAt W u (A.map (fun a => [a])) → Calls Try.prog 15 #[u] W fun e w' => e = .returned (.string (Rl.tob (ltx (A.map (fun a => [a]))))) ∧ Lat W w') := Lib.hid (fun W u hu => RText_any u _ W hu (ones_mem hAs))
  have HP1 : Hid (∀ W, Lat w0 W → Calls Try.prog 18 #[v3] W fun e w' => e = .returned (.string (Rl.tob (ltx ((B.map pvA).map (fun a => [a]))))) ∧ Lat W w') := Lib.hid (fun W hW => Provides_any v3 B W ((h3.below hba).below hW) (by omega) hBs)
  have HP2 : Hid (∀ W, Lat w0 W → Calls Try.prog 19 #[v3] W fun e w' => ∃ v', e = .returned v' ∧ AtsAt w' v' (B.map pvA) ∧ Lat W w') := Lib.hid (fun W hW => Provided_any v3 B W ((h3.below hba).below hW) (by omega))
  have HS2 : Hid (∀ W u, AtsAt W u (B.map pvA) → Calls Try.prog 17 #[u] W fun e w' => ∃ v', e = .returned v' ∧ ClsAt w' v' ((B.map pvA).map (fun a => [a])) ∧ Lat W w') := Lib.hid (fun W u hu => Singles_any u _ W hu (by rw [List.length_map]; omega))
  have HT4 : Hid (∀ W u, ClsAt W u ((B.map pvA).map (fun a => [a])) → Calls Try.prog 15 #[u] W fun e w' => e = .returned (.string (Rl.tob (ltx ((B.map pvA).map (fun a => [a]))))) ∧ Lat W w') := Lib.hid (fun W u hu => RText_any u _ W hu (ones_mem (pvA_mem hBs)))
  have ho1 : ∀ W, Calls Try.prog 20 #[.agg #[.string x.n, .int .i64 x.r, .string x.v]] W fun e w' => e = .returned (.string (Rl.tob (atx x))) ∧ Lat W w' := fun W => Atom_any x W hxn hxv
  have ho2 : ∀ W, Calls Try.prog 21 #[.agg #[.string x.n, .int .i64 x.r, .string x.v]] W fun e w' => e = .returned (.string (Rl.tob (atx x))) ∧ Lat W w' := fun W => RAtom_any x W hxn hxv
  have hm1 : ∀ W, Calls Try.prog 22 #[.agg #[.string x.n, .int .i64 x.r, .string x.v]] W fun e w' => e = .returned (.bool (mayR x)) ∧ Lat W w' := fun W => may_any x.n x.r x.v W hxn hxv
  have hm2 : ∀ W, Calls Try.prog 23 #[.agg #[.string x.n, .int .i64 x.r, .string x.v]] W fun e w' => e = .returned (.bool (mayR x)) ∧ Lat W w' := fun W => rmay_any x.n x.r x.v W hxn hxv
  generalize Rl.tob (ltx L) = X1 at *
  generalize Rl.tob (ltx (A.map (fun a => [a]))) = X2 at *
  generalize Rl.tob (ltx ((B.map pvA).map (fun a => [a]))) = X3 at *
  generalize Rl.tob (atx x) = X4 at *
  generalize mayR x = b5 at *
  have HO1 := Lib.hid ho1
  have HO2 := Lib.hid ho2
  have HM1 := Lib.hid hm1
  have HM2 := Lib.hid hm2
  obtain ⟨A2, c2, rfl, hc2, hA2⟩ := h2
  obtain ⟨A3, c3, rfl, hc3, hA3⟩ := h3
  obtain ⟨n2, hn2⟩ : ∃ n2, n2 = A.length := ⟨_, rfl⟩
  obtain ⟨n3, hn3⟩ : ∃ n3, n3 = B.length := ⟨_, rfl⟩
  rw [← hn2] at hA hc2 HA1 HS1 ⊢
  rw [← hn3] at hB hc3 HP1 HP2 ⊢
  have h2' : ¬ (30 : Int) < (n2 : Int) := by omega
  have h3' : ¬ (30 : Int) < (n3 : Int) := by omega
  have HBA := Lib.hid hba
  obtain ⟨xn, xr, xv⟩ := x
  simp only at HO1 HO2 HM1 HM2 hbk hw0 ⊢
  have HKS : Hid (∀ W, Lat w0 W → W.cell? ⟨bx, 0, none⟩ = some (.string xn) ∧ W.cell? ⟨bx, 1, none⟩ = some (.int .i64 xr) ∧ W.cell? ⟨bx, 2, none⟩ = some (.string xv)) := Lib.hid (fun W hW => ⟨(hbk.below hW hbk.lt).cell 0, (hbk.below hW hbk.lt).cell 1, (hbk.below hW hbk.lt).cell 2⟩)
  clear hA2 hA3 hn2 hn3 h1 hba hc2 hc3 hL hll ho1 ho2 hm1 hm2 hLs hAs hBs hxn hxv hA hB
  go_enter Try.func6, Try.ntmps6
  go_upto_region 3 with (go_at_call 13; refine (HLT.out _ (by rw [← hw0]; exact HBA.out)).mono ?_; rintro e w1 ⟨rfl, hb1⟩; rw [← hw0] at hb1; have HB1 := Lib.hid (show Lat w0 w1 from hb1))
  rw [← hbx]
  clear hb1 HLT hw0 hbk hbx
  have HB : Hid (Lat w0 w1.drew) := Lib.hid (HB1.out.trans ⟨rfl, rfl, rfl, Nat.le_refl _, fun _ _ => rfl⟩)
  refine wp_region_M (by kernel_rfl) ?_
  refine wpAnyM_take 0 rfl (by kernel_rfl) (by kernel_rfl) (by kernel_rfl) (fun _ _ _ _ _ h => h) (fun K hK => ?_)
  go_simp
  first
    | (refine hK _ ?_; clear hK K)
    | (apply Exists.intro
       refine ⟨fun W9 HW9 => ?_, hK _ ?_⟩
       (first | (go_simp; first | done | exact ⟨rfl, rfl⟩ | rfl))
       clear hK K)
  refine wpAnyM_take 1 rfl (by kernel_rfl) (by kernel_rfl) (by kernel_rfl) (fun _ _ _ _ _ h => h) (fun K hK => ?_)
  go_simp
  first
    | (refine hK _ ?_; clear hK K)
    | (apply Exists.intro
       refine ⟨fun W9 HW9 => ?_, hK _ ?_⟩
       (first | (go_simp; first | done | exact ⟨rfl, rfl⟩ | rfl) | (go_at_call 14; exact HT1.out W9 (HB.out.trans HW9)))
       clear hK K)
  refine wpAnyM_take 2 rfl (by kernel_rfl) (by kernel_rfl) (by kernel_rfl) (fun _ _ _ _ _ h => h) (fun K hK => ?_)
  go_simp
  first
    | (refine hK _ ?_; clear hK K)
    | (apply Exists.intro
       refine ⟨fun W9 HW9 => ?_, hK _ ?_⟩
       (first | (go_simp; first | done | exact ⟨rfl, rfl⟩ | rfl))
       clear hK K)
  refine wpAnyM_take 3 rfl (by kernel_rfl) (by kernel_rfl) (by kernel_rfl) (fun _ _ _ _ _ h => h) (fun K hK => ?_)
  go_simp
  first
    | (refine hK _ ?_; clear hK K)
    | (apply Exists.intro
       refine ⟨fun W9 HW9 => ?_, hK _ ?_⟩
       (first | (go_simp; first | done | exact ⟨rfl, rfl⟩ | rfl) | (go_at_call 15; exact HT2.out W9 (HB.out.trans HW9)))
       clear hK K)
  refine wpAnyM_take 4 rfl (by kernel_rfl) (by kernel_rfl) (by kernel_rfl) (fun _ _ _ _ _ h => h) (fun K hK => ?_)
  go_simp
  first
    | (refine hK _ ?_; clear hK K)
    | (apply Exists.intro
       refine ⟨fun W9 HW9 => ?_, hK _ ?_⟩
       (first | (go_simp; first | done | exact ⟨rfl, rfl⟩ | rfl))
       clear hK K)
  refine wpAnyM_take 5 rfl (by kernel_rfl) (by kernel_rfl) (by kernel_rfl) (fun _ _ _ _ _ h => h) (fun K hK => ?_)
  go_simp
  first
    | (refine hK _ ?_; clear hK K)
    | (apply Exists.intro
       refine ⟨fun W9 HW9 => ?_, hK _ ?_⟩
       (first | (go_simp; first | done | exact ⟨rfl, rfl⟩ | rfl))
       clear hK K)
  refine wpAnyM_take 6 rfl (by kernel_rfl) (by kernel_rfl) (by kernel_rfl) (fun _ _ _ _ _ h => h) (fun K hK => ?_)
  go_simp
  first
    | (refine hK _ ?_; clear hK K)
    | (apply Exists.intro
       refine ⟨fun W9 HW9 => ?_, hK _ ?_⟩
       (first | (go_simp; first | done | exact ⟨rfl, rfl⟩ | rfl))
       clear hK K)
  refine wpAnyM_take 7 rfl (by kernel_rfl) (by kernel_rfl) (by kernel_rfl) (fun _ _ _ _ _ h => h) (fun K hK => ?_)
  go_simp
  first
    | (refine hK _ ?_; clear hK K)
    | (apply Exists.intro
       refine ⟨fun W9 HW9 => ?_, hK _ ?_⟩
       (first | (go_simp; first | done | exact ⟨rfl, rfl⟩ | rfl) | (go_at_call 16; exact HA1.out W9 (HB.out.trans HW9)))
       clear hK K)
  refine wpAnyM_take 8 rfl (by kernel_rfl) (by kernel_rfl) (by kernel_rfl) (fun _ _ _ _ _ h => h) (fun K hK => ?_)
  go_simp
  first
    | (refine hK _ ?_; clear hK K)
    | (apply Exists.intro
       refine ⟨fun W9 HW9 => ?_, hK _ ?_⟩
       (first | (go_simp; first | done | exact ⟨rfl, rfl⟩ | rfl))
       clear hK K)
  refine wpAnyM_solo 9 rfl (by kernel_rfl) (fun W9 HW9 K hK => ?_)
  have HB9 := Lib.hid (HB.out.trans HW9)
  go_simp
  go_at_call 17
  refine (HS1.out W9 HB9.out).mono ?_
  rintro e W8 ⟨u1, rfl, hu1, hb8⟩
  have HU1 := Lib.hid hu1
  clear hu1
  have HB' := Lib.hid (HB9.out.trans (show Lat _ _ from hb8))
  refine hK _ _ hb8 ?_
  clear hK K HB HB9 hb8 HW9
  have HB := Lib.hid HB'.out
  clear HB'
  refine wpAnyM_take 10 rfl (by kernel_rfl) (by kernel_rfl) (by kernel_rfl) (fun _ _ _ _ _ h => h) (fun K hK => ?_)
  go_simp
  first
    | (refine hK _ ?_; clear hK K)
    | (apply Exists.intro
       refine ⟨fun W9 HW9 => ?_, hK _ ?_⟩
       (first | (go_simp; first | done | exact ⟨rfl, rfl⟩ | rfl) | (go_at_call 15; exact HT3.out W9 u1 (HU1.out.below HW9)))
       clear hK K)
  refine wpAnyM_take 11 rfl (by kernel_rfl) (by kernel_rfl) (by kernel_rfl) (fun _ _ _ _ _ h => h) (fun K hK => ?_)
  go_simp
  first
    | (refine hK _ ?_; clear hK K)
    | (apply Exists.intro
       refine ⟨fun W9 HW9 => ?_, hK _ ?_⟩
       (first | (go_simp; first | done | exact ⟨rfl, rfl⟩ | rfl))
       clear hK K)
  refine wpAnyM_take 12 rfl (by kernel_rfl) (by kernel_rfl) (by kernel_rfl) (fun _ _ _ _ _ h => h) (fun K hK => ?_)
  go_simp
  first
    | (refine hK _ ?_; clear hK K)
    | (apply Exists.intro
       refine ⟨fun W9 HW9 => ?_, hK _ ?_⟩
       (first | (go_simp; first | done | exact ⟨rfl, rfl⟩ | rfl))
       clear hK K)
  refine wpAnyM_take 13 rfl (by kernel_rfl) (by kernel_rfl) (by kernel_rfl) (fun _ _ _ _ _ h => h) (fun K hK => ?_)
  go_simp
  first
    | (refine hK _ ?_; clear hK K)
    | (apply Exists.intro
       refine ⟨fun W9 HW9 => ?_, hK _ ?_⟩
       (first | (go_simp; first | done | exact ⟨rfl, rfl⟩ | rfl))
       clear hK K)
  refine wpAnyM_take 14 rfl (by kernel_rfl) (by kernel_rfl) (by kernel_rfl) (fun _ _ _ _ _ h => h) (fun K hK => ?_)
  go_simp
  first
    | (refine hK _ ?_; clear hK K)
    | (apply Exists.intro
       refine ⟨fun W9 HW9 => ?_, hK _ ?_⟩
       (first | (go_simp; first | done | exact ⟨rfl, rfl⟩ | rfl))
       clear hK K)
  refine wpAnyM_take 15 rfl (by kernel_rfl) (by kernel_rfl) (by kernel_rfl) (fun _ _ _ _ _ h => h) (fun K hK => ?_)
  go_simp
  first
    | (refine hK _ ?_; clear hK K)
    | (apply Exists.intro
       refine ⟨fun W9 HW9 => ?_, hK _ ?_⟩
       (first | (go_simp; first | done | exact ⟨rfl, rfl⟩ | rfl) | (go_at_call 18; exact HP1.out W9 (HB.out.trans HW9)))
       clear hK K)
  refine wpAnyM_take 16 rfl (by kernel_rfl) (by kernel_rfl) (by kernel_rfl) (fun _ _ _ _ _ h => h) (fun K hK => ?_)
  go_simp
  first
    | (refine hK _ ?_; clear hK K)
    | (apply Exists.intro
       refine ⟨fun W9 HW9 => ?_, hK _ ?_⟩
       (first | (go_simp; first | done | exact ⟨rfl, rfl⟩ | rfl))
       clear hK K)
  refine wpAnyM_solo 17 rfl (by kernel_rfl) (fun W9 HW9 K hK => ?_)
  have HB9 := Lib.hid (HB.out.trans HW9)
  go_simp
  go_at_call 19
  refine (HP2.out W9 HB9.out).mono ?_
  rintro e W8 ⟨u2, rfl, hu2, hb8⟩
  have HU2 := Lib.hid hu2
  clear hu2
  have HB' := Lib.hid (HB9.out.trans (show Lat _ _ from hb8))
  refine hK _ _ hb8 ?_
  clear hK K HB HB9 hb8 HW9
  have HB := Lib.hid HB'.out
  clear HB'
  refine wpAnyM_solo 18 rfl (by kernel_rfl) (fun W9 HW9 K hK => ?_)
  have HB9 := Lib.hid (HB.out.trans HW9)
  go_simp
  go_at_call 17
  refine (HS2.out W9 u2 (HU2.out.below HW9)).mono ?_
  rintro e W8 ⟨u3, rfl, hu3, hb8⟩
  have HU3 := Lib.hid hu3
  clear hu3
  have HB' := Lib.hid (HB9.out.trans (show Lat _ _ from hb8))
  refine hK _ _ hb8 ?_
  clear hK K HB HB9 hb8 HW9
  have HB := Lib.hid HB'.out
  clear HB'
  refine wpAnyM_take 19 rfl (by kernel_rfl) (by kernel_rfl) (by kernel_rfl) (fun _ _ _ _ _ h => h) (fun K hK => ?_)
  go_simp
  first
    | (refine hK _ ?_; clear hK K)
    | (apply Exists.intro
       refine ⟨fun W9 HW9 => ?_, hK _ ?_⟩
       (first | (go_simp; first | done | exact ⟨rfl, rfl⟩ | rfl) | (go_at_call 15; exact HT4.out W9 u3 (HU3.out.below HW9)))
       clear hK K)
  refine wpAnyM_take 20 rfl (by kernel_rfl) (by kernel_rfl) (by kernel_rfl) (fun _ _ _ _ _ h => h) (fun K hK => ?_)
  go_simp
  first
    | (refine hK _ ?_; clear hK K)
    | (apply Exists.intro
       refine ⟨fun W9 HW9 => ?_, hK _ ?_⟩
       (first | (go_simp; first | done | exact ⟨rfl, rfl⟩ | rfl))
       clear hK K)
  refine wpAnyM_take 21 rfl (by kernel_rfl) (by kernel_rfl) (by kernel_rfl) (fun _ _ _ _ _ h => h) (fun K hK => ?_)
  go_simp
  first
    | (refine hK _ ?_; clear hK K)
    | (apply Exists.intro
       refine ⟨fun W9 HW9 => ?_, hK _ ?_⟩
       (first | (go_simp; first | done | exact ⟨rfl, rfl⟩ | rfl))
       clear hK K)
  refine wpAnyM_take 22 rfl (by kernel_rfl) (by kernel_rfl) (by kernel_rfl) (fun _ _ _ _ _ h => h) (fun K hK => ?_)
  go_simp
  first
    | (refine hK _ ?_; clear hK K)
    | (apply Exists.intro
       refine ⟨fun W9 HW9 => ?_, hK _ ?_⟩
       (first | (go_simp; first | done | exact ⟨rfl, rfl⟩ | rfl))
       clear hK K)
  refine wpAnyM_take 23 rfl (by kernel_rfl) (by kernel_rfl) (by kernel_rfl) (fun _ _ _ _ _ h => h) (fun K hK => ?_)
  go_simp
  first
    | (refine hK _ ?_; clear hK K)
    | (apply Exists.intro
       refine ⟨fun W9 HW9 => ?_, hK _ ?_⟩
       (first | (go_simp; first | done | exact ⟨rfl, rfl⟩ | rfl) | (obtain ⟨k0, k1, k2⟩ := HKS.out W9 (HB.out.trans HW9); go_simp; first | done | exact ⟨rfl, rfl⟩ | rfl))
       clear hK K)
  refine wpAnyM_take 24 rfl (by kernel_rfl) (by kernel_rfl) (by kernel_rfl) (fun _ _ _ _ _ h => h) (fun K hK => ?_)
  go_simp
  first
    | (refine hK _ ?_; clear hK K)
    | (apply Exists.intro
       refine ⟨fun W9 HW9 => ?_, hK _ ?_⟩
       (first | (go_simp; first | done | exact ⟨rfl, rfl⟩ | rfl) | (go_at_call 20; exact HO1.out W9))
       clear hK K)
  refine wpAnyM_take 25 rfl (by kernel_rfl) (by kernel_rfl) (by kernel_rfl) (fun _ _ _ _ _ h => h) (fun K hK => ?_)
  go_simp
  first
    | (refine hK _ ?_; clear hK K)
    | (apply Exists.intro
       refine ⟨fun W9 HW9 => ?_, hK _ ?_⟩
       (first | (go_simp; first | done | exact ⟨rfl, rfl⟩ | rfl) | (obtain ⟨k0, k1, k2⟩ := HKS.out W9 (HB.out.trans HW9); go_simp; first | done | exact ⟨rfl, rfl⟩ | rfl))
       clear hK K)
  refine wpAnyM_take 26 rfl (by kernel_rfl) (by kernel_rfl) (by kernel_rfl) (fun _ _ _ _ _ h => h) (fun K hK => ?_)
  go_simp
  first
    | (refine hK _ ?_; clear hK K)
    | (apply Exists.intro
       refine ⟨fun W9 HW9 => ?_, hK _ ?_⟩
       (first | (go_simp; first | done | exact ⟨rfl, rfl⟩ | rfl) | (go_at_call 21; exact HO2.out W9))
       clear hK K)
  refine wpAnyM_take 27 rfl (by kernel_rfl) (by kernel_rfl) (by kernel_rfl) (fun _ _ _ _ _ h => h) (fun K hK => ?_)
  go_simp
  first
    | (refine hK _ ?_; clear hK K)
    | (apply Exists.intro
       refine ⟨fun W9 HW9 => ?_, hK _ ?_⟩
       (first | (go_simp; first | done | exact ⟨rfl, rfl⟩ | rfl))
       clear hK K)
  refine wpAnyM_take 28 rfl (by kernel_rfl) (by kernel_rfl) (by kernel_rfl) (fun _ _ _ _ _ h => h) (fun K hK => ?_)
  go_simp
  first
    | (refine hK _ ?_; clear hK K)
    | (apply Exists.intro
       refine ⟨fun W9 HW9 => ?_, hK _ ?_⟩
       (first | (go_simp; first | done | exact ⟨rfl, rfl⟩ | rfl))
       clear hK K)
  refine wpAnyM_take 29 rfl (by kernel_rfl) (by kernel_rfl) (by kernel_rfl) (fun _ _ _ _ _ h => h) (fun K hK => ?_)
  go_simp
  first
    | (refine hK _ ?_; clear hK K)
    | (apply Exists.intro
       refine ⟨fun W9 HW9 => ?_, hK _ ?_⟩
       (first | (go_simp; first | done | exact ⟨rfl, rfl⟩ | rfl))
       clear hK K)
  refine wpAnyM_take 30 rfl (by kernel_rfl) (by kernel_rfl) (by kernel_rfl) (fun _ _ _ _ _ h => h) (fun K hK => ?_)
  go_simp
  first
    | (refine hK _ ?_; clear hK K)
    | (apply Exists.intro
       refine ⟨fun W9 HW9 => ?_, hK _ ?_⟩
       (first | (go_simp; first | done | exact ⟨rfl, rfl⟩ | rfl) | (obtain ⟨k0, k1, k2⟩ := HKS.out W9 (HB.out.trans HW9); go_simp; first | done | exact ⟨rfl, rfl⟩ | rfl))
       clear hK K)
  refine wpAnyM_take 31 rfl (by kernel_rfl) (by kernel_rfl) (by kernel_rfl) (fun _ _ _ _ _ h => h) (fun K hK => ?_)
  go_simp
  first
    | (refine hK _ ?_; clear hK K)
    | (apply Exists.intro
       refine ⟨fun W9 HW9 => ?_, hK _ ?_⟩
       (first | (go_simp; first | done | exact ⟨rfl, rfl⟩ | rfl) | (go_at_call 22; exact HM1.out W9))
       clear hK K)
  refine wpAnyM_take 32 rfl (by kernel_rfl) (by kernel_rfl) (by kernel_rfl) (fun _ _ _ _ _ h => h) (fun K hK => ?_)
  go_simp
  first
    | (refine hK _ ?_; clear hK K)
    | (apply Exists.intro
       refine ⟨fun W9 HW9 => ?_, hK _ ?_⟩
       (first | (go_simp; first | done | exact ⟨rfl, rfl⟩ | rfl) | (obtain ⟨k0, k1, k2⟩ := HKS.out W9 (HB.out.trans HW9); go_simp; first | done | exact ⟨rfl, rfl⟩ | rfl))
       clear hK K)
  refine wpAnyM_take 33 rfl (by kernel_rfl) (by kernel_rfl) (by kernel_rfl) (fun _ _ _ _ _ h => h) (fun K hK => ?_)
  go_simp
  first
    | (refine hK _ ?_; clear hK K)
    | (apply Exists.intro
       refine ⟨fun W9 HW9 => ?_, hK _ ?_⟩
       (first | (go_simp; first | done | exact ⟨rfl, rfl⟩ | rfl) | (go_at_call 23; exact HM2.out W9))
       clear hK K)
  refine wpAnyM_take 34 rfl (by kernel_rfl) (by kernel_rfl) (by kernel_rfl) (fun _ _ _ _ _ h => h) (fun K hK => ?_)
  go_simp
  first
    | (refine hK _ ?_; clear hK K)
    | (apply Exists.intro
       refine ⟨fun W9 HW9 => ?_, hK _ ?_⟩
       (first | (go_simp; first | done | exact ⟨rfl, rfl⟩ | rfl))
       clear hK K)
  refine wpAnyM_take 35 rfl (by kernel_rfl) (by kernel_rfl) (by kernel_rfl) (fun _ _ _ _ _ h => h) (fun K hK => ?_)
  go_simp
  first
    | (refine hK _ ?_; clear hK K)
    | (apply Exists.intro
       refine ⟨fun W9 HW9 => ?_, hK _ ?_⟩
       (first | (go_simp; first | done | exact ⟨rfl, rfl⟩ | rfl))
       clear hK K)
  refine wpAnyM_take 36 rfl (by kernel_rfl) (by kernel_rfl) (by kernel_rfl) (fun _ _ _ _ _ h => h) (fun K hK => ?_)
  go_simp
  first
    | (refine hK _ ?_; clear hK K)
    | (apply Exists.intro
       refine ⟨fun W9 HW9 => ?_, hK _ ?_⟩
       (first | (go_simp; first | done | exact ⟨rfl, rfl⟩ | rfl))
       clear hK K)
  refine wpAnyM_take 37 rfl (by kernel_rfl) (by kernel_rfl) (by kernel_rfl) (fun _ _ _ _ _ h => h) (fun K hK => ?_)
  go_simp
  first
    | (refine hK _ ?_; clear hK K)
    | (apply Exists.intro
       refine ⟨fun W9 HW9 => ?_, hK _ ?_⟩
       (first | (go_simp; first | done | exact ⟨rfl, rfl⟩ | rfl) | (go_at_call 12; exact HAW.out W9))
       clear hK K)
  refine wpAnyM_take 38 rfl (by kernel_rfl) (by kernel_rfl) (by kernel_rfl) (fun _ _ _ _ _ h => h) (fun K hK => ?_)
  go_simp
  first
    | (refine hK _ ?_; clear hK K)
    | (apply Exists.intro
       refine ⟨fun W9 HW9 => ?_, hK _ ?_⟩
       (first | (go_simp; first | done | exact ⟨rfl, rfl⟩ | rfl))
       clear hK K)
  refine wpAnyM_take 39 rfl (by kernel_rfl) (by kernel_rfl) (by kernel_rfl) (fun _ _ _ _ _ h => h) (fun K hK => ?_)
  go_simp
  first
    | (refine hK _ ?_; clear hK K)
    | (apply Exists.intro
       refine ⟨fun W9 HW9 => ?_, hK _ ?_⟩
       (first | (go_simp; first | done | exact ⟨rfl, rfl⟩ | rfl))
       clear hK K)
  refine wpAnyM_done (by kernel_rfl) (fun W9 HW9 => ?_) _
  have HE := Lib.hid (HB.out.trans HW9)
  clear HW9
  refine NoPanic.normal' ?_
  go_wp2_with fail
  go_ret
  exact ⟨rfl, HBA.out.trans (Below.mono (show Below w0.heap.size w0 _ from HE.out) HBA.out.size)⟩
section
open Go.ChangeShapes Go.WideShapes Go.ChangeAt Go.ChangeMaps
theorem relationTexts_walk {H : Type} {enc : TypeId × Value → H} (W : World) {base : Nat} (v0 v1 v2 v3 : Value) {d0 d1 d2 d3 : DataW H} {p0 p1 p2 p3 : List MemPlace}
    (h0 : DataW.Trod enc Try.prog W 0 (fun _ => true) true 23 v0 d0 p0) (o0 : Value.okWide Try.prog W .any base 23 v0)
    (h1 : DataW.Trod enc Try.prog W 0 (fun _ => true) true 35 v1 d1 p1) (o1 : Value.okWide Try.prog W .any base 35 v1)
    (h2 : DataW.Trod enc Try.prog W 0 (fun _ => true) true 36 v2 d2 p2) (o2 : Value.okWide Try.prog W .any base 36 v2)
    (h3 : DataW.Trod enc Try.prog W 0 (fun _ => true) true 38 v3 d3 p3) (o3 : Value.okWide Try.prog W .any base 38 v3)
    (hk : Rows.uptoBulkAll [d0, d1, d2, d3] ≤ 1048576) :
    Calls Try.prog 6 #[v0, v1, v2, v3] W fun e w' => e = .returned (.bool true) ∧ Below W.heap.size W w' := by
  simp only [Rows.uptoBulkAll] at hk
  obtain ⟨x, rfl, hx1, hx2⟩ := open_atom h3 o3
  obtain ⟨f0, g0⟩ := h0
  obtain ⟨f1, g1⟩ := h1
  obtain ⟨f2, g2⟩ := h2
  obtain ⟨a0, n0, c0, rfl⟩ := okWide_slice Try.underlying23 o0
  obtain ⟨a1, n1, c1, rfl⟩ := okWide_slice Try.underlying35 o1
  obtain ⟨a2, n2, c2, rfl⟩ := okWide_slice Try.underlying36 o2
  obtain ⟨L, hL1, hL2, hL3⟩ := open_cls g0
  obtain ⟨A, hA1, hA2, hA3⟩ := open_ats Try.underlying35 g1
  obtain ⟨B, hB1, hB2, hB3⟩ := open_prs Try.underlying36 g2
  simp only at hL2 hL3 hA2 hA3 hB2 hB3
  by_cases hl : lightB L = true ∧ A.length ≤ 30 ∧ B.length ≤ 30
  · exact relationTexts_light _ _ _ L A B x W hL1 hA1 hB1 hl.1 hl.2.1 hl.2.2 (fun c hc a ha => by have := (hL3 c hc).2 a ha; omega) (fun a ha => by have := hA3 a ha; omega) (fun a ha => by have := hB3 a ha; omega) (by omega) (by omega)
  · refine relationTexts_heavy _ _ _ L A B x W hL1 hA1 hB1 (by omega) ?_
    by_cases h : lightB L = true
    · by_cases h' : A.length ≤ 30
      · exact .inr (.inr (by
          have : ¬ B.length ≤ 30 := fun h9 => hl ⟨h, h', h9⟩
          omega))
      · exact .inr (.inl (by omega))
    · exact .inl (by simpa using h)
end
end Go.Proofs.Ytdchnllflodmkaa
