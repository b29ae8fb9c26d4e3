/- prop: Pop. -/
import Derived.Test.YtghfelfljblkbaaPush
import Derived.BigRegion
namespace Go.Proofs.Ytghfelfljblkbaa
open Go.RowKit Go.Sort
set_option linter.unusedVariables false

theorem own_cut {w : World} {base n c k : Nat} {A : Option Addr} {xs : List Value} {e : TypeId} (h : w.ownsRow base e 1 (.slice A n c) n xs) (hk : k ≤ n) : w.ownsRow base e 1 (.slice A k c) k (xs.take k) := by
  refine ⟨by rw [List.length_take, h.1]; omega, ?_⟩
  rcases h.2 with ⟨h0, h1⟩ | ⟨g, cap, cur, hv, hb, hh, hn, hm, hs, ht⟩
  · have hk0 : k = 0 := by omega
    cases h0
    exact .inl ⟨by rw [hk0], hk0⟩
  · cases hv
    refine .inr ⟨g, c, cur, rfl, hb, hh, by omega, hm, hs, ?_⟩
    rw [← ht, List.take_take, Nat.mul_one, Nat.mul_one, Nat.min_eq_left hk]
/-- The values while the last level is taken back. -/
def popf (T D : List Int) (v : Nat) : Int := if D.any (fun y => decide (Cf.va y = v)) then 0 else tv T v
theorem popf_nil (T : List Int) : popf T [] = tv T := by funext v; rfl
theorem popf_snoc {n : Nat} {T D : List Int} {x : Int} {v : Nat} (hv : v = Cf.va x) : (VA n (popf T D)).setIfInBounds v (.int .i64 0) = VA n (popf T (D ++ [x])) := by
  have e : popf T (D ++ [x]) v = 0 := by
    unfold popf
    rw [List.any_append, if_pos (by simp [hv])]
  have := VA.set (n := n) (v := v) (f := popf T D) (g := popf T (D ++ [x])) (fun u hu => by
    by_cases h : u = v
    · rw [if_pos h, h]
    · rw [if_neg h]
      unfold popf
      rw [List.any_append]
      have : ([x] : List Int).any (fun y => decide (Cf.va y = u)) = false := by
        simp only [List.any_cons, List.any_nil, Bool.or_false, decide_eq_false_iff_not]
        omega
      rw [this, Bool.or_false])
  rw [e] at this
  exact this
theorem popf_all {n : Nat} {T : List Int} {m : Nat} (hu : Un n T) : ∀ v, popf T (T.drop m) v = tv (T.take m) v := by
  intro v
  have hsp : T = T.take m ++ T.drop m := (List.take_append_drop m T).symm
  have hcross : ∀ a ∈ T.take m, ∀ b ∈ T.drop m, Cf.va a ≠ Cf.va b := by
    have := hu.pw
    rw [hsp, List.pairwise_append] at this
    exact this.2.2
  unfold popf
  by_cases h : (T.drop m).any (fun y => decide (Cf.va y = v)) = true
  · rw [if_pos h]
    obtain ⟨y, hy, hv⟩ := List.any_eq_true.1 h
    have hv := of_decide_eq_true hv
    unfold tv
    rcases Pr.ofT_cases (T.take m) (v : Int) with ⟨_, h2⟩ | ⟨_, _, h2⟩ | ⟨h2, _⟩
    · exact absurd (show Cf.va (v : Int) = Cf.va y by rw [hv]; unfold Cf.va; omega) (hcross _ h2 y hy)
    · exact absurd (show Cf.va (-(v : Int)) = Cf.va y by rw [hv]; unfold Cf.va; omega) (hcross _ h2 y hy)
    · exact h2.symm
  · rw [if_neg h]
    have hno : ∀ y ∈ T.drop m, Cf.va y ≠ v := fun y hy e => h (List.any_eq_true.2 ⟨y, hy, decide_eq_true e⟩)
    have key : ∀ z : Int, Cf.va z = v → (z ∈ T ↔ z ∈ T.take m) := fun z hz => by
      constructor
      · intro h1
        rw [hsp] at h1
        rcases List.mem_append.1 h1 with h2 | h2
        · exact h2
        · exact absurd hz (hno z h2)
      · exact List.mem_of_mem_take
    unfold tv Pr.ofT
    have e1 := key (v : Int) (by unfold Cf.va; omega)
    have e2 := key (-(v : Int)) (by unfold Cf.va; omega)
    simp only [e1, e2]
theorem Un.take {n : Nat} {T : List Int} (h : Un n T) (m : Nat) : Un n (T.take m) := ⟨fun z hz => h.in_ z (List.mem_of_mem_take hz), h.pw.sublist (List.take_sublist _ _)⟩
theorem pop_res {w wr : World} {p gv cl ct cm n m t q : Nat} {Al At Am : Option Addr} {K : Nat → Prop} {L : List (List Int)} {T : List Int} {M : List Nat} (h : TrAt w p gv Al At Am cl ct cm n K L T (M ++ [m])) (hm : m < t) (ht : t = T.length) (hq : q = M.length)
    (hu : Upd (fun i => i = gv) w wr) (hv : Blk wr gv 3 (VA n (tv (T.take m)))) :
    TrRes w ((wr.setCell ⟨p, 2, none⟩ (.slice At m ct)).setCell ⟨p, 3, none⟩ (.slice Am q cm)) p gv Al At Am At Am cl ct cm n K L (T.take m) M := by
  have hpv : p ≠ gv := Blk.ne_ h.blk h.val (by decide)
  have htl : (T.take m).length = m := by rw [List.length_take]; omega
  have hml : (M ++ [m]).length = q + 1 := by rw [List.length_append, hq]; rfl
  have hb := h.blk.upd hu hpv
  have hu2 : Upd (fun i => i = p) wr ((wr.setCell ⟨p, 2, none⟩ (.slice At m ct)).setCell ⟨p, 3, none⟩ (.slice Am q cm)) := ((Upd.refl (fun i => i = p) wr).setCell (p := ⟨p, 2, none⟩) (.inl rfl) _).setCell (p := ⟨p, 3, none⟩) (.inl rfl) _
  have hli := own_upd (own_upd h.lits hu (fun i hi e => by subst e; exact int_ne h.lits h.val hi)) hu2 (fun i hi e => by subst e; exact tr_ne h.lits h.blk (by decide) hi)
  have hlv := own_upd (own_upd h.lev hu (fun i hi e => by subst e; exact h.ne (by rw [← hi]; exact ownB))) hu2 (fun i hi e => by subst e; exact tr_ne h.lev h.blk (by decide) hi)
  refine ⟨⟨?_, ?_, ?_, ?_, ?_, h.un.take m, h.cl, h.n, h.len, h.sh, h.ne, h.k⟩, ?_, fun i hi => .inl hi⟩
  · rw [htl, ← hq]
    exact ((hb.set_ 2 (.slice At m ct)).set_ 3 (.slice Am q cm)).cast (by simp)
  · exact (h.cls.upd hu (fun i hi => (h.k i hi).2.1)).upd hu2 (fun i hi => (h.k i hi).1)
  · exact (hv.far (p := ⟨p, 2, none⟩) (fun e => hpv e.symm) _).far (p := ⟨p, 3, none⟩) (fun e => hpv e.symm) _
  · rw [htl, List.map_take]
    exact own_cut hli (by omega)
  · have := own_cut hlv (k := q) (by omega)
    rw [← hq]
    rw [List.map_append, List.take_append_of_le_length (by rw [List.length_map]; omega), List.take_of_length_le (by rw [List.length_map]; omega)] at this
    exact this
  · exact (hu.mono (fun i _ hi => .inr (.inl hi))).trans (hu2.mono (fun i _ hi => .inl hi))
section
variable (p gv cl ct cm n : Nat) (Al At Am : Option Addr) (K : Nat → Prop) (L : List (List Int)) (T : List Int)
set_option maxRecDepth 100000 in
theorem Pop_no (w : World) (h : TrAt w p gv Al At Am cl ct cm n K L T []) :
    Calls Try.prog 48 #[.pointer (some ⟨p, 0, none⟩)] w fun e w' => e = .returned (.bool false) ∧ w = w' := by
  have HLV := Lib.hid (Levels_any p gv cl ct cm n Al At Am K L T [] w h)
  clear h
  go_enter Try.func48, Try.ntmps48
  go_wp2_with (go_at_call 52; refine HLV.out.mono ?_; rintro e w1 ⟨rfl, rfl⟩)
  go_ret
  exact ⟨rfl, rfl⟩
set_option maxRecDepth 100000 in
set_option maxHeartbeats 4000000 in
theorem Pop_yes (M : List Nat) (m : Nat) (w : World) (h : TrAt w p gv Al At Am cl ct cm n K L T (M ++ [m])) (hm : m < T.length) (hM : M.length ≤ 100000) :
    Calls Try.prog 48 #[.pointer (some ⟨p, 0, none⟩)] w fun e w' => e = .returned (.bool true) ∧ TrRes w w' p gv Al At Am At Am cl ct cm n K L (T.take m) M := by
  have HLV := Lib.hid (Levels_any p gv cl ct cm n Al At Am K L T (M ++ [m]) w h)
  obtain ⟨q, hq⟩ : ∃ q, q = M.length := ⟨_, rfl⟩
  have hml : (M ++ [m]).length = q + 1 := by rw [List.length_append, hq]; rfl
  rw [hml, show ((q + 1 : Nat) : Int) = (q : Int) + 1 by omega] at HLV
  have hq0 : ((q : Int) + 1 == 0) = false := by rw [beq_eq_false_iff_ne]; omega
  obtain ⟨t, ht⟩ : ∃ t, t = T.length := ⟨_, rfl⟩
  have htl := h.tlen
  have hn := h.n
  have HBK : Hid (Blk w p 87 #[.slice Al L.length cl, .slice (some ⟨gv, 0, none⟩) (n + 1) (n + 1), .slice At t ct, .slice Am (q + 1) cm]) := Lib.hid (by have := h.blk; rw [← ht, hml] at this; exact this)
  have c2 : w.cell? ⟨p, 2, none⟩ = some (.slice At t ct) := HBK.out.cell 2
  have c3 : w.cell? ⟨p, 3, none⟩ = some (.slice Am (q + 1) cm) := HBK.out.cell 3
  have hlv := h.lev
  rw [hml] at hlv
  have hli := h.lits
  rw [← ht] at hli htl hm
  have hAm : ∃ gm, Am = some ⟨gm, 0, none⟩ ∧ w.cell? ⟨gm, q, none⟩ = some (.int .i64 (m : Int)) ∧ q + 1 ≤ cm := by
    rcases hlv.2 with ⟨_, h0⟩ | ⟨g, cap, cur, h0, _, _, hle, _⟩
    · omega
    · cases h0
      refine ⟨g, rfl, ?_, hle⟩
      rw [hlv.cellAt q (by omega), List.map_append, List.getElem?_append_right (by rw [List.length_map, hq]; omega), List.length_map, hq, Nat.sub_self]
      rfl
  obtain ⟨gm, rfl, kgm, hqc⟩ := hAm
  have hAt : ∃ gt, At = some ⟨gt, 0, none⟩ ∧ t ≤ ct ∧ ct ≤ maxLen := by
    rcases hli.2 with ⟨_, h0⟩ | ⟨g, cap, cur, h0, _, _, hle, hcm, _⟩
    · omega
    · cases h0
      exact ⟨g, rfl, hle, hcm⟩
  obtain ⟨gt, rfl, htc, hcm9⟩ := hAt
  have hcell : ∀ j, j < t → w.cell? ⟨gt, j, none⟩ = some (.int .i64 (T.getD j 0)) := fun j hj => by
    rw [hli.cellAt j (by omega), List.getElem?_map, List.getElem?_eq_getElem (by omega), List.getD_eq_getElem?_getD, List.getElem?_eq_getElem (by omega)]
    rfl
  have HCE := Lib.hid hcell
  have HT := Lib.hid h
  have HTE := Lib.hid ht
  have HQE := Lib.hid hq
  have hlt := h.lt
  have hgt : gt < w.heap.size := hlt gt (.inr (.inr (.inl rfl)))
  have hgm : gm < w.heap.size := hlt gm (.inr (.inr (.inr rfl)))
  have HGT : Hid (gt ≠ gv ∧ gm ≠ gv ∧ p ≠ gv ∧ gt ≠ p ∧ gm ≠ p) := Lib.hid ⟨fun e => int_ne h.lits h.val (by rw [← e]; rfl), fun e => h.ne (by rw [← e]; rfl), Blk.ne_ h.blk h.val (by decide), fun e => tr_ne h.lits h.blk (by decide) (by rw [← e]; rfl), fun e => tr_ne h.lev h.blk (by decide) (by rw [← e]; rfl)⟩
  have HUB : Hid (∀ z ∈ T, 1 ≤ Cf.va z ∧ Cf.va z ≤ n) := Lib.hid h.un.in_
  have HV0 : Hid (Blk w gv 3 (VA n (popf T ((T.drop m).take 0)))) := Lib.hid (by rw [List.take_zero, popf_nil]; exact h.val)
  rw [← hq] at hM
  have hct : ct ≤ 9223372036854775807 := by unfold maxLen at hcm9; omega
  clear hml ht hq hlv hli hcell h hlt hcm9
  go_enter Try.func48, Try.ntmps48
  go_wp2_with (go_at_call 52; refine HLV.out.mono ?_; rintro e w1 ⟨rfl, rfl⟩)
  go_loopw [30] (fun s wx => ∃ j : Nat, s = .int .i64 (j : Int) ∧ j ≤ t - m ∧ Hid (Upd (fun i => i = gv) w wx) ∧ Hid (Blk wx gv 3 (VA n (popf T ((T.drop m).take j))))) (fun s _ => t - m - (match s with | .int _ x => x.toNat | _ => 0))
  case atStart => exact ⟨0, rfl, Nat.zero_le _, Lib.hid (Upd.refl _ _), HV0⟩
  case round =>
    obtain ⟨j, rfl, hj, HU, HV⟩ := hrel
    clear HV0
    by_cases hlt : j < t - m
    · obtain ⟨x, hx⟩ : ∃ x, x = T.getD (m + j) 0 := ⟨_, rfl⟩
      have kx : wr.cell? ⟨gt, m + j, none⟩ = some (.int .i64 x) := by
        rw [hx]
        exact (HU.out.cell (p := ⟨gt, m + j, none⟩) hgt HGT.out.1).trans (HCE.out (m + j) (by omega))
      have c1 : wr.cell? ⟨p, 1, none⟩ = some (.slice (some ⟨gv, 0, none⟩) (n + 1) (n + 1)) := (HU.out.cell (p := ⟨p, 1, none⟩) HBK.out.lt HGT.out.2.2.1).trans (HBK.out.cell 1)
      have hxm : x ∈ T := by
        rw [hx, List.getD_eq_getElem?_getD, List.getElem?_eq_getElem (by have := HTE.out; omega)]
        exact List.getElem_mem _
      have hxb := HUB.out x hxm
      obtain ⟨v, hv⟩ : ∃ v, v = Cf.va x := ⟨_, rfl⟩
      have x1 : -200 ≤ x := by unfold Cf.va at hxb; omega
      have x2 : x ≤ 200 := by unfold Cf.va at hxb; omega
      have hmx : max x (-x) = (v : Int) := by rw [hv]; unfold Cf.va; omega
      have hvn : v ≤ n := by rw [hv]; exact hxb.2
      have kv : ∃ u, wr.cell? ⟨gv, v, none⟩ = some u := ⟨_, (HV.out.cell v).trans (VA.get hvn)⟩
      have fv : wr.frozen? ⟨gv, v, none⟩ = false := HV.out.frozen v
      obtain ⟨u, kv⟩ := kv
      have HTK : Hid ((T.drop m).take (j + 1) = (T.drop m).take j ++ [x]) := Lib.hid (by
        rw [List.take_add_one, List.getElem?_drop, List.getElem?_eq_getElem (by have := HTE.out; omega), hx, List.getD_eq_getElem?_getD, List.getElem?_eq_getElem (by have := HTE.out; omega)]
        rfl)
      have HSV : Hid (Blk (wr.setCell ⟨gv, v, none⟩ (.int .i64 0)) gv 3 (VA n (popf T ((T.drop m).take (j + 1))))) := Lib.hid (by rw [HTK.out, ← popf_snoc hv]; exact HV.out.set_ v _)
      have HSU : Hid (Upd (fun i => i = gv) w (wr.setCell ⟨gv, v, none⟩ (.int .i64 0))) := Lib.hid (HU.out.setCell (p := ⟨gv, v, none⟩) (.inl rfl) _)
      have i1 : (j : Int) < ((t - m : Nat) : Int) := by omega
      have i2 : (v : Int) < (n : Int) + 1 := by omega
      clear hx hxm hxb hv HTK HU HV
      go_wp2_with fail
      refine ⟨⟨j + 1, by go_num, by omega, HSU, HSV⟩, ?_⟩
      show t - m - ((j : Int) + 1).toNat < t - m - (j : Int).toNat
      omega
    · have hjt : (j : Int) = ((t - m : Nat) : Int) := by omega
      have hj0 : j = t - m := by omega
      have HVE : Hid (Blk wr gv 3 (VA n (tv (T.take m)))) := Lib.hid (by
        have := HV.out
        rw [hj0, List.take_of_length_le (by rw [List.length_drop]; have := HTE.out; omega), VA.congr (fun u _ => popf_all HT.out.un u)] at this
        exact this)
      have d2 : wr.cell? ⟨p, 2, none⟩ = some (.slice (some ⟨gt, 0, none⟩) t ct) := (HU.out.cell (p := ⟨p, 2, none⟩) HBK.out.lt HGT.out.2.2.1).trans (HBK.out.cell 2)
      have d3 : wr.cell? ⟨p, 3, none⟩ = some (.slice (some ⟨gm, 0, none⟩) (q + 1) cm) := (HU.out.cell (p := ⟨p, 3, none⟩) HBK.out.lt HGT.out.2.2.1).trans (HBK.out.cell 3)
      have HRES := Lib.hid (pop_res HT.out hm HTE.out HQE.out HU.out HVE.out)
      have HBR := Lib.hid (HBK.out.upd HU.out HGT.out.2.2.1)
      have g2 : wr.frozen? ⟨p, 2, none⟩ = false := HBR.out.frozen 2
      have g3 : wr.frozen? ⟨p, 3, none⟩ = false := HBR.out.frozen 3
      clear hj0 HV c2 c3 kgm
      go_wp2_with fail
      go_region
      all_goals
        go_wp2_with fail
        go_ret
        exact ⟨rfl, HRES.out.bel ⟨rfl, rfl, rfl, Nat.le_refl _, fun _ _ => rfl⟩⟩
end
end Go.Proofs.Ytghfelfljblkbaa
