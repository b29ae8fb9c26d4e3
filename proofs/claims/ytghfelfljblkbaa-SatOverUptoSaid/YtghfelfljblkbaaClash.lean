/- prop: Levels, Value, Lits, Clash. -/
import Derived.Test.YtghfelfljblkbaaFollow
import Derived.Shelf.SlicesE.IndexFunc
namespace Go.Proofs
def Try.idxLL_ren : Go.Shelf.Ren := ⟨fun | 6 => 81 | n => n, fun | 22 => 28 | 23 => 22 | 25 => 27 | 4 => 4 | 3 => 3 | 0 => 0 | n => n, fun | n => n⟩
theorem Try.idxLL : Go.Proofs.SlLaysH.n6 Try.prog Try.idxLL_ren := {
  mixed := by kernel_rfl
  f6 := ⟨Try.f81.name, by decide, Try.func81.trans (congrArg some (by kernel_rfl))⟩
  t0 := Try.underlying0
  a0 := Try.isAgg0
  z0 := Try.sizeOf0
  v0 := Try.zeroValue0
  t3 := Try.underlying3
  a3 := Try.isAgg3
  z3 := Try.sizeOf3
  v3 := Try.zeroValue3
  t4 := Try.underlying4
  a4 := Try.isAgg4
  z4 := Try.sizeOf4
  v4 := Try.zeroValue4
  t22 := Try.underlying28
  a22 := Try.isAgg28
  z22 := Try.sizeOf28
  v22 := Try.zeroValue28
  a23 := Try.isAgg22
  z23 := Try.sizeOf22
  t25 := Try.underlying27
  a25 := Try.isAgg27
  z25 := Try.sizeOf27
  v25 := Try.zeroValue27 }
end Go.Proofs
namespace Go.Proofs.Ytghfelfljblkbaa
open Go.RowKit Go.Sort
set_option linter.unusedVariables false

section
variable (p gv cl ct cm n : Nat) (Al At Am : Option Addr) (K : Nat → Prop) (L : List (List Int)) (T : List Int) (M : List Nat)
set_option maxRecDepth 100000 in
theorem Levels_any (w : World) (h : TrAt w p gv Al At Am cl ct cm n K L T M) :
    Calls Try.prog 52 #[.pointer (some ⟨p, 0, none⟩)] w fun e w' => e = .returned (.int .i64 (M.length : Int)) ∧ w = w' := by
  have k3 : w.cell? ⟨p, 3, none⟩ = some (.slice Am M.length cm) := h.blk.cell 3
  clear h
  go_enter Try.func52, Try.ntmps52
  go_wp2_with fail
  go_ret
  exact ⟨rfl, rfl⟩
/-- A variable's value, of any number. -/
def vl (n : Nat) (T : List Int) (v : Int) : Int := if 1 ≤ v ∧ v ≤ n then Pr.ofT T v else 0
set_option maxRecDepth 100000 in
theorem Value_any (v : Int) (w : World) (h : TrAt w p gv Al At Am cl ct cm n K L T M) :
    Calls Try.prog 51 #[.pointer (some ⟨p, 0, none⟩), .int .i64 v] w fun e w' => e = .returned (.int .i64 (vl n T v)) ∧ w = w' := by
  have k1 : w.cell? ⟨p, 1, none⟩ = some (.slice (some ⟨gv, 0, none⟩) (n + 1) (n + 1)) := h.blk.cell 1
  have hn := h.n
  by_cases h1 : v < 1
  · have HE : Hid (vl n T v = 0) := Lib.hid (by unfold vl; rw [if_neg (by omega)])
    have hd : decide (v < 1) = true := decide_eq_true h1
    clear h
    go_enter Try.func51, Try.ntmps51
    go_wp2_with fail
    go_ret
    exact ⟨ret_int HE.out.symm, rfl⟩
  · have hd : decide (v < 1) = false := decide_eq_false h1
    by_cases h2 : v ≤ n
    · obtain ⟨u, hu⟩ : ∃ u : Nat, u = v.toNat := ⟨_, rfl⟩
      have hvu : v.toNat = u := hu.symm
      have HE : Hid (vl n T v = Pr.ofT T v) := Lib.hid (by unfold vl; rw [if_pos ⟨by omega, h2⟩])
      have kv := h.vcell (v := u) (by omega)
      have HV := Lib.hid (tv_pos (T := T) (x := v) (by omega))
      rw [hvu] at HV
      obtain ⟨y, hy⟩ : ∃ y, y = tv T u := ⟨_, rfl⟩
      rw [← hy] at kv HV
      have i1 : v < (n : Int) + 1 := by omega
      have hd2 : decide ((n : Int) + 1 ≤ v) = false := decide_eq_false (by omega)
      clear h hu hy
      go_enter Try.func51, Try.ntmps51
      go_wp2_with fail
      go_ret
      exact ⟨ret_int (by rw [HE.out, ← HV.out]), rfl⟩
    · have HE : Hid (vl n T v = 0) := Lib.hid (by unfold vl; rw [if_neg (by omega)])
      have hd2 : decide ((n : Int) + 1 ≤ v) = true := decide_eq_true (by omega)
      clear h
      go_enter Try.func51, Try.ntmps51
      go_wp2_with fail
      go_ret
      exact ⟨ret_int HE.out.symm, rfl⟩
theorem TrAt.lit {w : World} (h : TrAt w p gv Al At Am cl ct cm n K L T M) : Lits w At T.length T := by
  obtain ⟨A, c, hv, hl, _⟩ := OwnL.lits (zs := T) h.lits h.ok
  cases hv
  exact hl
set_option maxRecDepth 100000 in
theorem TLits_any (w : World) (h : TrAt w p gv Al At Am cl ct cm n K L T M) :
    Calls Try.prog 42 #[.pointer (some ⟨p, 0, none⟩)] w fun e w' => ∃ v, e = .returned v ∧ OwnL w' w.heap.size v T ∧ Below w.heap.size w w' := by
  obtain ⟨t, ht⟩ : ∃ t, t = T.length := ⟨_, rfl⟩
  have k2 : w.cell? ⟨p, 2, none⟩ = some (.slice At t ct) := by rw [ht]; exact h.blk.cell 2
  have HC := Lib.hid (clone_any At t ct T w (by rw [ht]; exact TrAt.lit p gv cl ct cm n Al At Am K L T M h) (by have := h.tlen; omega))
  clear h ht
  go_enter Try.func42, Try.ntmps42
  go_wp2_with (go_at_call 62; refine HC.out.mono ?_; rintro e w2 ⟨v, rfl, ho, hb⟩)
  obtain ⟨A5, c5, rfl⟩ := ownL_shape ho
  go_ret
  exact ⟨_, rfl, ho, hb⟩
/-- A literal that is not false. -/
def okT (T : List Int) (x : Int) : Bool := decide (0 ≤ Pr.ofT T x)
/-- A literal's number, or 0 where it has no variable. -/
def clampn (n : Nat) (y : Int) : Int := if Cf.va y ≤ n then y else 0
theorem clampn_va (y : Int) : Cf.va (clampn n y) ≤ n := by
  unfold clampn
  split
  · assumption
  · exact Nat.zero_le _
set_option maxRecDepth 100000 in
theorem ok_any (q : Nat) (x : Int) (w : World) (h : TrAt w p gv Al At Am cl ct cm n K L T M) (hx : Cf.va x ≤ n) (hq : w.cell? ⟨q, 0, none⟩ = some (.pointer (some ⟨p, 0, none⟩))) :
    Calls Try.prog 83 #[.int .i64 x, .pointer (some ⟨q, 0, none⟩)] w fun e w' => e = .returned (.bool (okT T x)) ∧ w = w' := by
  have H := Lib.hid (of_any p gv cl ct cm n Al At Am K L T M x w h hx)
  obtain ⟨y, hy⟩ : ∃ y, y = Pr.ofT T x := ⟨_, rfl⟩
  have HB : Hid (okT T x = decide (0 ≤ y)) := Lib.hid (by unfold okT; rw [hy])
  rw [← hy] at H
  clear h hx hy
  go_enter Try.func83, Try.ntmps83
  go_wp2_with (go_at_call 79; refine H.out.mono ?_; rintro e w' ⟨rfl, rfl⟩)
  go_ret
  exact ⟨ret_bool HB.out.symm, rfl⟩
theorem any_cl (g : Nat) (lb : Array Value) (f : Int → Bool) (A : Option Addr) (m c : Nat) (zs : List Int) (w : World) (hl : Lits w A m zs) (hm : m ≤ 1048576) (hz : ∀ z ∈ zs, Cf.va z ≤ n) (eg : ∀ args w, (callFunc g args).run Try.prog w = .ok (.enter g args) w)
    (hp : PredAt Try.prog g lb (fun y => Value.int .i64 (clampn n y)) f w) :
    Calls Try.prog 71 #[.slice A m c, .func (.func g) #[] lb] w fun e w' => e = .returned (.bool (zs.any f)) ∧ ∃ q, w' = w.drewN q := by
  have hll := hl.1
  rcases Nat.eq_zero_or_pos m with h0 | h0
  · subst h0
    obtain rfl : zs = [] := List.eq_nil_of_length_eq_zero hll
    refine (AnyE.slices_ContainsFunc_empty Try.anyL A c (.func (.func g) #[] lb) w).mono ?_
    rintro e w' ⟨rfl, hw⟩
    exact ⟨rfl, 0, hw⟩
  · obtain ⟨b, o, rfl, hbl, hc⟩ := hl.2.2 h0
    have := AnyE.slices_ContainsFunc Try.anyL (fun y => Value.int .i64 (clampn n y)) f g lb eg b o m c zs w hp (by omega) (by omega) (fun j hj => by
      rw [hc j (by omega), List.getD_eq_getElem?_getD, List.getElem?_eq_getElem hj]
      have := hz _ (List.getElem_mem hj)
      simp [hj, clampn, this])
    rw [List.take_of_length_le (by omega)] at this
    exact this
theorem bad_any (T c : List Int) : (!c.any (okT T)) = Pr.bad T c := by
  unfold Pr.bad
  induction c with
  | nil => rfl
  | cons x r ih =>
    rw [List.any_cons, List.all_cons, ← ih]
    unfold okT
    by_cases h : 0 ≤ Pr.ofT T x
    · rw [decide_eq_true h, decide_eq_false (by omega)]; rfl
    · rw [decide_eq_false h, decide_eq_true (by omega)]; simp
set_option maxRecDepth 100000 in
theorem badc_any (q : Nat) (A : Option Addr) (m cc : Nat) (c : List Int) (w : World) (h : TrAt w p gv Al At Am cl ct cm n K L T M) (hq : w.cell? ⟨q, 0, none⟩ = some (.pointer (some ⟨p, 0, none⟩))) (hql : q < w.heap.size) (hl : Lits w A m c) (hm : m ≤ 1048576) (hz : ∀ z ∈ c, Cf.va z ≤ n) :
    Calls Try.prog 82 #[.slice A m cc, .pointer (some ⟨q, 0, none⟩)] w fun e w' => e = .returned (.bool (Pr.bad T c)) ∧ ∃ k, w' = w.drewN k := by
  have eg : ∀ args w, (callFunc 83 args).run Try.prog w = .ok (.enter 83 args) w := enters_of Try.func83 (by kernel_rfl) rfl
  have hp : PredAt Try.prog 83 #[.pointer (some ⟨q, 0, none⟩)] (fun y => Value.int .i64 (clampn n y)) (fun y => okT T (clampn n y)) w := fun W x hW => (ok_any p gv cl ct cm n Al At Am K L T M q (clampn n x) W (h.below hW) (clampn_va n x) ((hW.cell hql).trans hq)).mono fun e w' h => ⟨h.1, 0, h.2.symm⟩
  have HC := any_cl n 83 #[.pointer (some ⟨q, 0, none⟩)] (fun y => okT T (clampn n y)) A m cc c w hl hm hz eg hp
  have he : c.any (fun y => okT T (clampn n y)) = c.any (okT T) := by
    rw [Bool.eq_iff_iff, List.any_eq_true, List.any_eq_true]
    have hcl : ∀ x ∈ c, clampn n x = x := fun x hx => by unfold clampn; rw [if_pos (hz x hx)]
    exact ⟨fun ⟨x, hx, h9⟩ => ⟨x, hx, by rw [hcl x hx] at h9; exact h9⟩, fun ⟨x, hx, h9⟩ => ⟨x, hx, by rw [hcl x hx]; exact h9⟩⟩
  rw [he] at HC
  have HCC := Lib.hid HC
  have HBA := Lib.hid (bad_any T c)
  generalize c.any (okT T) = bb at HCC HBA
  clear h hq hl hz hp eg HC he
  go_enter Try.func82, Try.ntmps82
  go_wp2_with (go_at_call 71; refine HCC.out.mono ?_; rintro e w' ⟨rfl, k, rfl⟩)
  go_ret
  exact ⟨ret_bool HBA.out, k, rfl⟩
theorem clash_idx (L : List (List Int)) (T : List Int) : Lib.idxBy (fun _ (j : Nat) => Pr.bad T (L.getD j [])) ((List.range L.length).take L.length) default = Pr.clash L T := by
  have hg : ∀ j, j < L.length → (List.range L.length)[j]! = j := fun j hj => by simp [hj]
  unfold Pr.clash
  cases hf : L.findIdx? (Pr.bad T) with
  | none =>
    refine Lib.idxBy_miss _ _ _ _ fun j hj => ?_
    rw [hg j hj]
    have := List.findIdx?_eq_none_iff.1 hf (L[j]) (List.getElem_mem hj)
    simpa [List.getD_eq_getElem?_getD, hj] using this
  | some i =>
    obtain ⟨hl, h2, h3⟩ := List.findIdx?_eq_some_iff_getElem.1 hf
    refine Lib.idxBy_hit _ _ _ _ _ hl (by simp) ?_ fun j hj => ?_
    · show Pr.bad T (L.getD (List.range L.length)[i]! []) = true
      rw [hg i hl]
      simpa [List.getD_eq_getElem?_getD, hl] using h2
    · show Pr.bad T (L.getD (List.range L.length)[j]! []) = false
      rw [hg j (by omega)]
      have := h3 j hj
      have hjl : j < L.length := by omega
      simpa [List.getD_eq_getElem?_getD, hjl] using this
set_option maxRecDepth 100000 in
set_option maxHeartbeats 1000000 in
theorem Clash_any (w : World) (h : TrAt w p gv Al At Am cl ct cm n K L T M) :
    Calls Try.prog 43 #[.pointer (some ⟨p, 0, none⟩)] w fun e w' => e = .returned (.int .i64 (Pr.clash L T)) ∧ Below w.heap.size w w' := by
  obtain ⟨W1, hW1⟩ : ∃ W1, W1 = w.alloc (.cells #[.pointer (some ⟨p, 0, none⟩)] 50) := ⟨_, rfl⟩
  have hb1 : Below w.heap.size w W1 := by rw [hW1]; exact (Below.refl _ _).alloc (Nat.le_refl _) _
  have hkq : W1.cell? ⟨w.heap.size, 0, none⟩ = some (.pointer (some ⟨p, 0, none⟩)) := by rw [hW1]; exact (Blk.new _ _ _).cell 0
  have hs1 : w.heap.size < W1.heap.size := by rw [hW1]; simp
  have h1 := h.below hb1
  have k0 : W1.cell? ⟨p, 0, none⟩ = some (.slice Al L.length cl) := h1.blk.cell 0
  have hlen := h.len
  have eg : ∀ args w, (callFunc 82 args).run Try.prog w = .ok (.enter 82 args) w := enters_of Try.func82 (by kernel_rfl) rfl
  have HC : Hid (Calls Try.prog 81 #[.slice Al L.length cl, .func (.func 82) #[] #[.pointer (some ⟨w.heap.size, 0, none⟩)]] W1 fun e w' => e = .returned (.int .i64 (Pr.clash L T)) ∧ ∃ q, w' = W1.drewN q) := by
    refine Lib.hid ?_
    rcases Nat.eq_zero_or_pos L.length with h0 | h0
    · obtain rfl : L = [] := List.eq_nil_of_length_eq_zero h0
      refine (AnyE.slices_IndexFunc_empty Try.idxLL Al cl _ W1).mono ?_
      rintro e w' ⟨rfl, hw⟩
      exact ⟨rfl, 0, hw⟩
    · obtain ⟨b, rfl, hKb, hcell⟩ := h1.cls.2 h0
      have hrow : ∀ j, ∃ (Aj : Option Addr) (cj : Nat), Lits W1 Aj (L.getD j []).length (L.getD j []) ∧ (∀ z ∈ L.getD j [], Cf.va z ≤ n) ∧ (L.getD j []).length ≤ 1048576 ∧ (j < L.length → W1.cell? ⟨b, j, none⟩ = some (.slice Aj (L.getD j []).length cj)) := fun j => by
        by_cases hj : j < L.length
        · obtain ⟨Aj, cj, a1, a2, _⟩ := hcell j hj
          have e : L.getD j [] = L[j] := by rw [List.getD_eq_getElem?_getD, List.getElem?_eq_getElem hj]; rfl
          rw [e]
          exact ⟨Aj, cj, a2, fun z hz => (h.cl _ (List.getElem_mem hj) z hz).2, h.sh _ (List.getElem_mem hj), fun _ => a1⟩
        · have e : L.getD j [] = [] := by rw [List.getD_eq_getElem?_getD, List.getElem?_eq_none (by omega)]; rfl
          rw [e]
          exact ⟨none, 0, Lits.nil _ _, by simp, by simp, fun h => absurd h hj⟩
      let Aj := fun j => Classical.choose (hrow j)
      have hA := fun j => Classical.choose_spec (hrow j)
      let cj := fun j => Classical.choose (hA j)
      have hB := fun j => Classical.choose_spec (hA j)
      have hp : PredAt Try.prog 82 #[.pointer (some ⟨w.heap.size, 0, none⟩)] (fun j => Value.slice (Aj j) (L.getD j []).length (cj j)) (fun j => Pr.bad T (L.getD j [])) W1 := fun W j hW =>
        badc_any p gv cl ct cm n _ At Am K L T M w.heap.size (Aj j) _ (cj j) _ W (h1.below hW) ((hW.cell hs1).trans hkq) (Nat.lt_of_lt_of_le hs1 hW.size) ((hB j).1.below hW) (hB j).2.2.1 (hB j).2.1
      have := AnyE.slices_IndexFunc Try.idxLL (fun j => Value.slice (Aj j) (L.getD j []).length (cj j)) (fun j => Pr.bad T (L.getD j [])) 82 #[.pointer (some ⟨w.heap.size, 0, none⟩)] eg b 0 L.length cl (List.range L.length) W1 hp (by simp) (by omega) (fun j hj => by
        have hj' : j < L.length := by simpa using hj
        rw [Nat.zero_add, show (List.range L.length)[j]! = j by simp [hj']]
        exact (hB j).2.2.2 hj')
      rw [clash_idx] at this
      exact this
  have HB1 := Lib.hid hb1
  clear h h1 eg hkq hs1 hb1
  subst hW1
  go_enter Try.func43, Try.ntmps43
  go_wp2_with (go_at_call 81; refine HC.out.mono ?_; rintro e w2 ⟨rfl, q, rfl⟩)
  go_ret
  exact ⟨rfl, HB1.out.trans ⟨rfl, rfl, rfl, Nat.le_refl _, fun _ _ => rfl⟩⟩
end
end Go.Proofs.Ytghfelfljblkbaa
