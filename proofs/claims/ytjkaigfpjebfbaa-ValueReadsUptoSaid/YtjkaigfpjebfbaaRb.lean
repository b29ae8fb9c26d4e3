/- Rows of atoms, of provides, of clauses, as data; SameAtoms, SameProvides, SameClauses. -/
import Derived.Test.YtjkaigfpjebfbaaRl2
import Derived.Laws.StructEq
namespace Go.Proofs.Ytjkaigfpjebfbaa
open Go.RowKit Go.Sort
set_option linter.unusedVariables false

/-- An atom as it may come: any name, any number, any version. -/
structure RA where
  n : ByteArray
  r : Int
  v : ByteArray
deriving DecidableEq
theorem RA.ext' {x y : RA} (h1 : x.n = y.n) (h2 : x.r = y.r) (h3 : x.v = y.v) : x = y := by cases x; cases y; simp_all
theorem toList_inj {a b : ByteArray} (h : a.toList = b.toList) : a = b := by
  rw [ByteArray.toList_eq, ByteArray.toList_eq] at h
  obtain ⟨⟨x⟩⟩ := a
  obtain ⟨⟨y⟩⟩ := b
  simp at h
  rw [h]
theorem eq_atoms (x y : RA) (w : World) : (Op.equalIn 10000 79 (.agg #[.string x.n, .int .i64 x.r, .string x.v]) (.agg #[.string y.n, .int .i64 y.r, .string y.v])).run Try.prog w = .ok (decide (x = y)) w := by
  have u3 := Try.underlying3
  have a3 := Try.isAgg3
  have z3 := Try.sizeOf3
  have u9 := Try.underlying9
  have a9 := Try.isAgg9
  have z9 := Try.sizeOf9
  have hS : Try.prog.underlying 79 = some (.struct (Try.prog.fieldsOf 79)) := by kernel_rfl
  have hp : Try.prog.stoodInHeld 79 = false := by kernel_rfl
  rw [show (10000 : Nat) = 9999 + 1 from rfl, run_equalIn_agg w 9999 79 _ _ hS hp]
  simp only [Program.fieldsOf, Try.underlying79]
  go_simp
  by_cases h1 : x.n = y.n
  · by_cases h2 : x.r = y.r
    · by_cases h3 : x.v = y.v
      · have e := RA.ext' h1 h2 h3
        subst e
        simp
      · have e : x ≠ y := fun e => h3 (by rw [e])
        have h4 : ¬ x.v.toList = y.v.toList := fun e => h3 (toList_inj e)
        simp [h1, h2, h4, e]
    · have e : x ≠ y := fun e => h2 (by rw [e])
      simp [h1, h2, e]
  · have e : x ≠ y := fun e => h1 (by rw [e])
    have h4 : ¬ x.n.toList = y.n.toList := fun e => h1 (toList_inj e)
    simp [h4, e]
theorem neq_atoms (x y : RA) (w : World) : (binOp .neq 79 (.agg #[.string x.n, .int .i64 x.r, .string x.v]) (.agg #[.string y.n, .int .i64 y.r, .string y.v])).run Try.prog w = .ok (.bool (!decide (x = y))) w := by
  rw [run_neq_struct, eq_atoms]; rfl
theorem eql_atoms (x y : RA) (w : World) : (binOp .eql 79 (.agg #[.string x.n, .int .i64 x.r, .string x.v]) (.agg #[.string y.n, .int .i64 y.r, .string y.v])).run Try.prog w = .ok (.bool (decide (x = y))) w := by
  rw [run_eql_struct, eq_atoms]; rfl
/-- A provide as it may come. -/
structure RP where
  n : ByteArray
  v : ByteArray
deriving DecidableEq
theorem RP.ext' {x y : RP} (h1 : x.n = y.n) (h3 : x.v = y.v) : x = y := by cases x; cases y; simp_all
theorem neq_provs (x y : RP) (w : World) : (binOp .neq 82 (.agg #[.string x.n, .string x.v]) (.agg #[.string y.n, .string y.v])).run Try.prog w = .ok (.bool (!decide (x = y))) w := by
  have u9 := Try.underlying9
  have a9 := Try.isAgg9
  have z9 := Try.sizeOf9
  have hS : Try.prog.underlying 82 = some (.struct (Try.prog.fieldsOf 82)) := by kernel_rfl
  have hp : Try.prog.stoodInHeld 82 = false := by kernel_rfl
  rw [run_neq_struct, show (10000 : Nat) = 9999 + 1 from rfl, run_equalIn_agg w 9999 82 _ _ hS hp]
  simp only [Program.fieldsOf, Try.underlying82]
  go_simp
  by_cases h1 : x.n = y.n
  · by_cases h3 : x.v = y.v
    · have e := RP.ext' h1 h3
      subst e
      simp
    · have e : x ≠ y := fun e => h3 (by rw [e])
      have h4 : ¬ x.v.toList = y.v.toList := fun e => h3 (toList_inj e)
      simp [h1, h4, e]
  · have e : x ≠ y := fun e => h1 (by rw [e])
    have h4 : ¬ x.n.toList = y.n.toList := fun e => h1 (toList_inj e)
    simp [h4, e]
/-- A row of atoms. -/
def AtsAt (w : World) (v : Value) (L : List RA) : Prop :=
  ∃ A c, v = .slice A L.length c ∧ L.length ≤ c ∧ ∀ j (h : j < L.length), ∃ g o, A = some ⟨g, o, none⟩ ∧ w.cell? ⟨g, o + j * 3, none⟩ = some (.string L[j].n) ∧ w.cell? ⟨g, o + j * 3 + 1, none⟩ = some (.int .i64 L[j].r) ∧ w.cell? ⟨g, o + j * 3 + 2, none⟩ = some (.string L[j].v)
theorem AtsAt.nil (w : World) : AtsAt w (.slice none 0 0) [] := ⟨none, 0, rfl, Nat.le_refl _, fun j h => absurd h (by simp)⟩
theorem AtsAt.below {w w' : World} {v : Value} {L : List RA} (h : AtsAt w v L) (hb : Below w.heap.size w w') : AtsAt w' v L := by
  obtain ⟨A, cap, rfl, h1, h3⟩ := h
  refine ⟨A, cap, rfl, h1, fun j hj => ?_⟩
  obtain ⟨g, o, rfl, k1, k2, k3⟩ := h3 j hj
  exact ⟨g, o, rfl, (hb.cell (World.block_lt_of_cell? w _ k1)).trans k1, (hb.cell (World.block_lt_of_cell? w _ k2)).trans k2, (hb.cell (World.block_lt_of_cell? w _ k3)).trans k3⟩
/-- A row of provides. -/
def PrsAt (w : World) (v : Value) (L : List RP) : Prop :=
  ∃ A c, v = .slice A L.length c ∧ L.length ≤ c ∧ ∀ j (h : j < L.length), ∃ g o, A = some ⟨g, o, none⟩ ∧ w.cell? ⟨g, o + j * 2, none⟩ = some (.string L[j].n) ∧ w.cell? ⟨g, o + j * 2 + 1, none⟩ = some (.string L[j].v)
theorem PrsAt.nil (w : World) : PrsAt w (.slice none 0 0) [] := ⟨none, 0, rfl, Nat.le_refl _, fun j h => absurd h (by simp)⟩
theorem PrsAt.below {w w' : World} {v : Value} {L : List RP} (h : PrsAt w v L) (hb : Below w.heap.size w w') : PrsAt w' v L := by
  obtain ⟨A, cap, rfl, h1, h3⟩ := h
  refine ⟨A, cap, rfl, h1, fun j hj => ?_⟩
  obtain ⟨g, o, rfl, k1, k3⟩ := h3 j hj
  exact ⟨g, o, rfl, (hb.cell (World.block_lt_of_cell? w _ k1)).trans k1, (hb.cell (World.block_lt_of_cell? w _ k3)).trans k3⟩
/-- A row of clauses. -/
def ClsAt (w : World) (v : Value) (L : List (List RA)) : Prop :=
  ∃ A c, v = .slice A L.length c ∧ L.length ≤ c ∧ ∀ j (h : j < L.length), ∃ g o V, A = some ⟨g, o, none⟩ ∧ w.cell? ⟨g, o + j, none⟩ = some V ∧ AtsAt w V L[j]
theorem ClsAt.nil (w : World) : ClsAt w (.slice none 0 0) [] := ⟨none, 0, rfl, Nat.le_refl _, fun j h => absurd h (by simp)⟩
theorem ClsAt.below {w w' : World} {v : Value} {L : List (List RA)} (h : ClsAt w v L) (hb : Below w.heap.size w w') : ClsAt w' v L := by
  obtain ⟨A, cap, rfl, h1, h3⟩ := h
  refine ⟨A, cap, rfl, h1, fun j hj => ?_⟩
  obtain ⟨g, o, V, rfl, k1, k3⟩ := h3 j hj
  exact ⟨g, o, V, rfl, (hb.cell (World.block_lt_of_cell? w _ k1)).trans k1, k3.below hb⟩
theorem below_drewN (w : World) (m : Nat) : Below w.heap.size w (w.drewN m) := ⟨rfl, rfl, rfl, Nat.le_refl _, fun _ _ => rfl⟩
theorem drewN_add {w wr : World} (h : ∃ m, wr = w.drewN m) (n : Nat) : ∃ m, wr.drewN n = w.drewN m := by
  obtain ⟨m, hm⟩ := h
  exact ⟨m + n, by rw [hm, World.drewN_drewN]⟩
set_option maxRecDepth 100000 in
set_option maxHeartbeats 1000000 in
theorem SameAtoms_any (u v : Value) (L K : List RA) (w : World) (h1 : AtsAt w u L) (h2 : AtsAt w v K) (hn : L.length ≤ 281474976710656) :
    Calls Try.prog 29 #[u, v] w fun e w' => e = .returned (.bool (decide (L = K))) ∧ ∃ m, w' = w.drewN m := by
  obtain ⟨A, c, rfl, c1, hA⟩ := h1
  obtain ⟨B, d, rfl, d1, hB⟩ := h2
  by_cases hnm : L.length = K.length
  · obtain ⟨bb, hbb⟩ : ∃ bb, bb = decide (L = K) := ⟨_, rfl⟩
    rw [← hbb]
    have HBB := Lib.hid hbb
    obtain ⟨n, hn0⟩ : ∃ n, n = L.length := ⟨_, rfl⟩
    rw [← hnm, ← hn0]
    have HN := Lib.hid hn0
    have HM : Hid (n = K.length) := Lib.hid (by rw [hn0, hnm])
    have HA := Lib.hid hA
    have HB0 := Lib.hid hB
    rw [← hn0] at hn
    clear hbb hnm hn0 hA hB c1 d1
    go_enter Try.func29, Try.ntmps29
    go_wp2_with fail
    go_loopw [13] (fun t wr => ∃ i : Nat, t = .int .i64 (i : Int) ∧ i ≤ n ∧ Hid (∀ j (h1 : j < L.length) (h2 : j < K.length), j < i → L[j] = K[j]) ∧ Hid (∃ m, wr = w.drewN m)) (fun t _ => n - (match t with | .int _ x => x.toNat | _ => 0))
    case atStart => exact ⟨0, rfl, Nat.zero_le _, Lib.hid (fun j _ _ hj => by omega), Lib.hid ⟨0, rfl⟩⟩
    case round =>
      obtain ⟨i, rfl, hi, HI, HW⟩ := hrel
      have HB : Hid (Below w.heap.size w wr) := Lib.hid (by obtain ⟨m, hm⟩ := HW.out; rw [hm]; exact below_drewN w m)
      by_cases hlt : i < n
      · obtain ⟨b1, o1, e1, a1, a2, a3⟩ := HA.out i (by have := HN.out; omega)
        obtain ⟨b2, o2, e2, a4, a5, a6⟩ := HB0.out i (by have := HM.out; omega)
        subst e1 e2
        obtain ⟨x, hx⟩ : ∃ x, x = L[i]'(by have := HN.out; omega) := ⟨_, rfl⟩
        obtain ⟨y, hy⟩ : ∃ y, y = K[i]'(by have := HM.out; omega) := ⟨_, rfl⟩
        rw [← hx] at a1 a2 a3
        rw [← hy] at a4 a5 a6
        have k1 := (HB.out.cell (World.block_lt_of_cell? w _ a1)).trans a1
        have k2 := (HB.out.cell (World.block_lt_of_cell? w _ a2)).trans a2
        have k3 := (HB.out.cell (World.block_lt_of_cell? w _ a3)).trans a3
        have k4 := (HB.out.cell (World.block_lt_of_cell? w _ a4)).trans a4
        have k5 := (HB.out.cell (World.block_lt_of_cell? w _ a5)).trans a5
        have k6 := (HB.out.cell (World.block_lt_of_cell? w _ a6)).trans a6
        have HX := Lib.hid hx
        have HYY := Lib.hid hy
        clear a1 a2 a3 a4 a5 a6 hx hy
        have hne := neq_atoms x y
        by_cases hxy : x = y
        · rw [show (!decide (x = y)) = false by simp [hxy]] at hne
          go_wp2_with fail
          go_quiet (fail)
          go_wp2_with fail
          refine ⟨⟨i + 1, by go_num, by omega, Lib.hid (fun j h1 h2 hj => ?_), Lib.hid (drewN_add HW.out nq)⟩, ?_⟩
          · rcases Nat.lt_or_ge j i with h | h
            · exact HI.out j h1 h2 h
            · have e : j = i := by omega
              subst e
              rw [← HX.out, ← HYY.out]; exact hxy
          · show n - ((i : Int) + 1).toNat < n - (i : Int).toNat
            omega
        · rw [show (!decide (x = y)) = true by simp [hxy]] at hne
          have HF : Hid (bb = false) := Lib.hid (by rw [HBB.out]; refine decide_eq_false (fun e => hxy ?_); subst e; rw [HX.out, HYY.out])
          go_wp2_with fail
          go_quiet (fail)
          go_wp2_with fail
          go_ret
          exact ⟨by rw [HF.out]; rfl, drewN_add HW.out nq⟩
      · have HT : Hid (bb = true) := Lib.hid (by
          rw [HBB.out]
          refine decide_eq_true (List.ext_getElem (by rw [← HN.out, HM.out]) fun j h1 h2 => ?_)
          exact HI.out j h1 h2 (by have := HN.out; omega))
        have hnl : ¬ (i : Int) < (n : Int) := by omega
        go_wp2_with fail
        go_ret
        exact ⟨by rw [HT.out]; rfl, HW.out⟩
  · have hd : decide (L = K) = false := decide_eq_false (fun e => hnm (by rw [e]))
    have hnm' : ¬ (L.length : Int) = (K.length : Int) := by omega
    have hne : ((L.length : Int) != (K.length : Int)) = true := by simp; omega
    rw [hd]
    clear hA hB hd
    go_enter Try.func29, Try.ntmps29
    go_wp2_with fail
    go_ret
    exact ⟨rfl, 0, rfl⟩
set_option maxRecDepth 100000 in
set_option maxHeartbeats 1000000 in
theorem SameProvides_any (u v : Value) (L K : List RP) (w : World) (h1 : PrsAt w u L) (h2 : PrsAt w v K) (hn : L.length ≤ 281474976710656) :
    Calls Try.prog 30 #[u, v] w fun e w' => e = .returned (.bool (decide (L = K))) ∧ ∃ m, w' = w.drewN m := by
  obtain ⟨A, c, rfl, c1, hA⟩ := h1
  obtain ⟨B, d, rfl, d1, hB⟩ := h2
  by_cases hnm : L.length = K.length
  · obtain ⟨bb, hbb⟩ : ∃ bb, bb = decide (L = K) := ⟨_, rfl⟩
    rw [← hbb]
    have HBB := Lib.hid hbb
    obtain ⟨n, hn0⟩ : ∃ n, n = L.length := ⟨_, rfl⟩
    rw [← hnm, ← hn0]
    have HN := Lib.hid hn0
    have HM : Hid (n = K.length) := Lib.hid (by rw [hn0, hnm])
    have HA := Lib.hid hA
    have HB0 := Lib.hid hB
    rw [← hn0] at hn
    clear hbb hnm hn0 hA hB c1 d1
    go_enter Try.func30, Try.ntmps30
    go_wp2_with fail
    go_loopw [13] (fun t wr => ∃ i : Nat, t = .int .i64 (i : Int) ∧ i ≤ n ∧ Hid (∀ j (h1 : j < L.length) (h2 : j < K.length), j < i → L[j] = K[j]) ∧ Hid (∃ m, wr = w.drewN m)) (fun t _ => n - (match t with | .int _ x => x.toNat | _ => 0))
    case atStart => exact ⟨0, rfl, Nat.zero_le _, Lib.hid (fun j _ _ hj => by omega), Lib.hid ⟨0, rfl⟩⟩
    case round =>
      obtain ⟨i, rfl, hi, HI, HW⟩ := hrel
      have HB : Hid (Below w.heap.size w wr) := Lib.hid (by obtain ⟨m, hm⟩ := HW.out; rw [hm]; exact below_drewN w m)
      by_cases hlt : i < n
      · obtain ⟨b1, o1, e1, a1, a3⟩ := HA.out i (by have := HN.out; omega)
        obtain ⟨b2, o2, e2, a4, a6⟩ := HB0.out i (by have := HM.out; omega)
        subst e1 e2
        obtain ⟨x, hx⟩ : ∃ x, x = L[i]'(by have := HN.out; omega) := ⟨_, rfl⟩
        obtain ⟨y, hy⟩ : ∃ y, y = K[i]'(by have := HM.out; omega) := ⟨_, rfl⟩
        rw [← hx] at a1 a3
        rw [← hy] at a4 a6
        have k1 := (HB.out.cell (World.block_lt_of_cell? w _ a1)).trans a1
        have k3 := (HB.out.cell (World.block_lt_of_cell? w _ a3)).trans a3
        have k4 := (HB.out.cell (World.block_lt_of_cell? w _ a4)).trans a4
        have k6 := (HB.out.cell (World.block_lt_of_cell? w _ a6)).trans a6
        have HX := Lib.hid hx
        have HYY := Lib.hid hy
        clear a1 a3 a4 a6 hx hy
        have hne := neq_provs x y
        by_cases hxy : x = y
        · rw [show (!decide (x = y)) = false by simp [hxy]] at hne
          go_wp2_with fail
          go_quiet (fail)
          go_wp2_with fail
          refine ⟨⟨i + 1, by go_num, by omega, Lib.hid (fun j h1 h2 hj => ?_), Lib.hid (drewN_add HW.out nq)⟩, ?_⟩
          · rcases Nat.lt_or_ge j i with h | h
            · exact HI.out j h1 h2 h
            · have e : j = i := by omega
              subst e
              rw [← HX.out, ← HYY.out]; exact hxy
          · show n - ((i : Int) + 1).toNat < n - (i : Int).toNat
            omega
        · rw [show (!decide (x = y)) = true by simp [hxy]] at hne
          have HF : Hid (bb = false) := Lib.hid (by rw [HBB.out]; refine decide_eq_false (fun e => hxy ?_); subst e; rw [HX.out, HYY.out])
          go_wp2_with fail
          go_quiet (fail)
          go_wp2_with fail
          go_ret
          exact ⟨by rw [HF.out]; rfl, drewN_add HW.out nq⟩
      · have HT : Hid (bb = true) := Lib.hid (by
          rw [HBB.out]
          refine decide_eq_true (List.ext_getElem (by rw [← HN.out, HM.out]) fun j h1 h2 => ?_)
          exact HI.out j h1 h2 (by have := HN.out; omega))
        have hnl : ¬ (i : Int) < (n : Int) := by omega
        go_wp2_with fail
        go_ret
        exact ⟨by rw [HT.out]; rfl, HW.out⟩
  · have hd : decide (L = K) = false := decide_eq_false (fun e => hnm (by rw [e]))
    have hnm' : ¬ (L.length : Int) = (K.length : Int) := by omega
    have hne : ((L.length : Int) != (K.length : Int)) = true := by simp; omega
    rw [hd]
    clear hA hB hd
    go_enter Try.func30, Try.ntmps30
    go_wp2_with fail
    go_ret
    exact ⟨rfl, 0, rfl⟩
set_option maxRecDepth 100000 in
set_option maxHeartbeats 1000000 in
theorem SameClauses_any (u v : Value) (L K : List (List RA)) (w : World) (h1 : ClsAt w u L) (h2 : ClsAt w v K) (hn : L.length ≤ 281474976710656) (hin : ∀ l ∈ L, l.length ≤ 281474976710656) :
    Calls Try.prog 28 #[u, v] w fun e w' => e = .returned (.bool (decide (L = K))) ∧ ∃ m, w' = w.drewN m := by
  obtain ⟨A, c, rfl, c1, hA⟩ := h1
  obtain ⟨B, d, rfl, d1, hB⟩ := h2
  by_cases hnm : L.length = K.length
  · obtain ⟨bb, hbb⟩ : ∃ bb, bb = decide (L = K) := ⟨_, rfl⟩
    rw [← hbb]
    have HBB := Lib.hid hbb
    have HIN := Lib.hid hin
    obtain ⟨n, hn0⟩ : ∃ n, n = L.length := ⟨_, rfl⟩
    rw [← hnm, ← hn0]
    have HN := Lib.hid hn0
    have HM : Hid (n = K.length) := Lib.hid (by rw [hn0, hnm])
    have HA := Lib.hid hA
    have HB0 := Lib.hid hB
    rw [← hn0] at hn
    clear hin hbb hnm hn0 hA hB c1 d1
    go_enter Try.func28, Try.ntmps28
    go_wp2_with fail
    go_loopw [13] (fun t wr => ∃ i : Nat, t = .int .i64 (i : Int) ∧ i ≤ n ∧ Hid (∀ j (h1 : j < L.length) (h2 : j < K.length), j < i → L[j] = K[j]) ∧ Hid (∃ m, wr = w.drewN m)) (fun t _ => n - (match t with | .int _ x => x.toNat | _ => 0))
    case atStart => exact ⟨0, rfl, Nat.zero_le _, Lib.hid (fun j _ _ hj => by omega), Lib.hid ⟨0, rfl⟩⟩
    case round =>
      obtain ⟨i, rfl, hi, HI, HW⟩ := hrel
      have HB : Hid (Below w.heap.size w wr) := Lib.hid (by obtain ⟨m, hm⟩ := HW.out; rw [hm]; exact below_drewN w m)
      by_cases hlt : i < n
      · obtain ⟨b1, o1, V1, e1, a1, a2⟩ := HA.out i (by have := HN.out; omega)
        obtain ⟨b2, o2, V2, e2, a4, a5⟩ := HB0.out i (by have := HM.out; omega)
        subst e1 e2
        have hlx := HIN.out (L[i]'(by have := HN.out; omega)) (List.getElem_mem _)
        obtain ⟨x, hx⟩ : ∃ x, x = L[i]'(by have := HN.out; omega) := ⟨_, rfl⟩
        obtain ⟨y, hy⟩ : ∃ y, y = K[i]'(by have := HM.out; omega) := ⟨_, rfl⟩
        rw [← hx] at a2 hlx
        rw [← hy] at a5
        have k1 := (HB.out.cell (World.block_lt_of_cell? w _ a1)).trans a1
        have k4 := (HB.out.cell (World.block_lt_of_cell? w _ a4)).trans a4
        have HSA : Hid (∀ nn, Calls Try.prog 29 #[V1, V2] (wr.drewN nn) fun e w' => e = .returned (.bool (decide (x = y))) ∧ ∃ m, w' = (wr.drewN nn).drewN m) := Lib.hid (fun nn => SameAtoms_any V1 V2 x y (wr.drewN nn) ((a2.below HB.out).below (below_drewN _ _)) ((a5.below HB.out).below (below_drewN _ _)) hlx)
        have HX := Lib.hid hx
        have HYY := Lib.hid hy
        clear a1 a2 a4 a5 hx hy hlx
        by_cases hxy : x = y
        · have HSB := HSA.out
          rw [show decide (x = y) = true by simp [hxy]] at HSB
          have HSC := Lib.hid HSB
          clear HSB HSA
          go_wp2_with fail
          go_quiet ((go_at_call 29; exact Calls.quiet_of (HSC.out _)))
          go_wp2_with fail
          refine ⟨⟨i + 1, by go_num, by omega, Lib.hid (fun j h1 h2 hj => ?_), Lib.hid (drewN_add HW.out nq)⟩, ?_⟩
          · rcases Nat.lt_or_ge j i with h | h
            · exact HI.out j h1 h2 h
            · have e : j = i := by omega
              subst e
              rw [← HX.out, ← HYY.out]; exact hxy
          · show n - ((i : Int) + 1).toNat < n - (i : Int).toNat
            omega
        · have HSB := HSA.out
          rw [show decide (x = y) = false by simp [hxy]] at HSB
          have HSC := Lib.hid HSB
          clear HSB HSA
          have HF : Hid (bb = false) := Lib.hid (by rw [HBB.out]; refine decide_eq_false (fun e => hxy ?_); subst e; rw [HX.out, HYY.out])
          go_wp2_with fail
          go_quiet ((go_at_call 29; exact Calls.quiet_of (HSC.out _)))
          go_wp2_with fail
          go_ret
          exact ⟨by rw [HF.out]; rfl, drewN_add HW.out nq⟩
      · have HT : Hid (bb = true) := Lib.hid (by
          rw [HBB.out]
          refine decide_eq_true (List.ext_getElem (by rw [← HN.out, HM.out]) fun j h1 h2 => ?_)
          exact HI.out j h1 h2 (by have := HN.out; omega))
        have hnl : ¬ (i : Int) < (n : Int) := by omega
        go_wp2_with fail
        go_ret
        exact ⟨by rw [HT.out]; rfl, HW.out⟩
  · have hd : decide (L = K) = false := decide_eq_false (fun e => hnm (by rw [e]))
    have hnm' : ¬ (L.length : Int) = (K.length : Int) := by omega
    have hne : ((L.length : Int) != (K.length : Int)) = true := by simp; omega
    rw [hd]
    clear hA hB hd
    go_enter Try.func28, Try.ntmps28
    go_wp2_with fail
    go_ret
    exact ⟨rfl, 0, rfl⟩
end Go.Proofs.Ytjkaigfpjebfbaa
