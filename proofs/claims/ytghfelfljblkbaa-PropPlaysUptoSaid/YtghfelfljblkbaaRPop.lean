/- The reference's trail: Pop. -/
import Derived.Test.YtghfelfljblkbaaRPush
namespace Go.Proofs.Ytghfelfljblkbaa
open Go.RowKit Go.Sort
set_option linter.unusedVariables false

theorem rpop_res {w : World} {q qs cb ct cm n m t k : Nat} {B Bt Bm : Option Addr} {K : Nat → Prop} {L : List (List Int)} {T : List Int} {M : List Nat} (h : RTrAt w q qs B Bt Bm cb ct cm n K L T (M ++ [m])) (hm : m < t) (ht : t = T.length) (hk : k = M.length) :
    RTrRes w ((w.setCell ⟨q, 1, none⟩ (.slice Bt m ct)).setCell ⟨q, 2, none⟩ (.slice Bm k cm)) q qs B Bt Bm Bt Bm cb ct cm n K L (T.take m) M := by
  have htl : (T.take m).length = m := by rw [List.length_take]; omega
  have hu2 : Upd (fun i => i = q) w ((w.setCell ⟨q, 1, none⟩ (.slice Bt m ct)).setCell ⟨q, 2, none⟩ (.slice Bm k cm)) := ((Upd.refl (fun i => i = q) w).setCell (p := ⟨q, 1, none⟩) (.inl rfl) _).setCell (p := ⟨q, 2, none⟩) (.inl rfl) _
  have hli := own_upd h.lits hu2 (fun i hi e => by subst e; exact rtr_ne h.lits h.blk (by decide) hi)
  have hlv := own_upd h.lev hu2 (fun i hi e => by subst e; exact rtr_ne h.lev h.blk (by decide) hi)
  have hml : (M ++ [m]).length = k + 1 := by rw [List.length_append, hk]; rfl
  refine ⟨⟨?_, ?_, ?_, h.ks, ?_, ?_, h.un.take m, h.cl, h.n, h.len, h.sh, h.k⟩, ?_, fun i hi => .inl hi⟩
  · rw [htl, ← hk]
    exact ((h.blk.set_ 1 (.slice Bt m ct)).set_ 2 (.slice Bm k cm)).cast (by simp)
  · exact h.sblk.upd hu2 (h.k qs h.ks).1
  · exact h.cls.upd hu2 (fun i hi => (h.k i hi).1)
  · rw [htl, List.map_take]
    exact own_cut hli (by omega)
  · have := own_cut hlv (k := k) (by omega)
    rw [← hk]
    rw [List.map_append, List.take_append_of_le_length (by rw [List.length_map]; omega), List.take_of_length_le (by rw [List.length_map]; omega)] at this
    exact this
  · exact hu2.mono (fun i _ hi => .inl hi)
section
variable (q qs cb ct cm n : Nat) (B Bt Bm : Option Addr) (K : Nat → Prop) (L : List (List Int)) (T : List Int) (M : List Nat)
set_option maxRecDepth 100000 in
set_option maxHeartbeats 1000000 in
theorem RPop_yes (m : Nat) (w : World) (h : RTrAt w q qs B Bt Bm cb ct cm n K L T (M ++ [m])) (hm : m < T.length) (hM : M.length ≤ 100000) :
    Calls Try.prog 49 #[.pointer (some ⟨q, 0, none⟩)] w fun e w' => e = .returned (.bool true) ∧ RTrRes w w' q qs B Bt Bm Bt Bm cb ct cm n K L (T.take m) M := by
  obtain ⟨k, hk⟩ : ∃ k, k = M.length := ⟨_, rfl⟩
  have hml : (M ++ [m]).length = k + 1 := by rw [List.length_append, hk]; rfl
  obtain ⟨t, ht⟩ : ∃ t, t = T.length := ⟨_, rfl⟩
  have htl := h.tlen
  have HRES := Lib.hid (rpop_res h (t := t) (by rw [ht]; exact hm) ht hk)
  have HBK : Hid (Blk w q 92 #[.pointer (some ⟨qs, 0, none⟩), .slice Bt t ct, .slice Bm (k + 1) cm]) := Lib.hid (by have := h.blk; rw [← ht, hml] at this; exact this)
  have c1 : w.cell? ⟨q, 1, none⟩ = some (.slice Bt t ct) := HBK.out.cell 1
  have c2 : w.cell? ⟨q, 2, none⟩ = some (.slice Bm (k + 1) cm) := HBK.out.cell 2
  have g1 : w.frozen? ⟨q, 1, none⟩ = false := HBK.out.frozen 1
  have g2 : w.frozen? ⟨q, 2, none⟩ = false := HBK.out.frozen 2
  have hlv := h.lev
  rw [hml] at hlv
  have hli := h.lits
  rw [← ht] at hli htl hm
  have hBm : ∃ gm, Bm = some ⟨gm, 0, none⟩ ∧ w.cell? ⟨gm, k, none⟩ = some (.int .i64 (m : Int)) ∧ k + 1 ≤ cm := by
    rcases hlv.2 with ⟨_, h0⟩ | ⟨g, cap, cur, h0, _, _, hle, _⟩
    · omega
    · cases h0
      refine ⟨g, rfl, ?_, hle⟩
      rw [hlv.cellAt k (by omega), List.map_append, List.getElem?_append_right (by rw [List.length_map, hk]; omega), List.length_map, hk, Nat.sub_self]
      rfl
  obtain ⟨gm, rfl, kgm, hqc⟩ := hBm
  have hBt : ∃ gt, Bt = some ⟨gt, 0, none⟩ ∧ t ≤ ct ∧ ct ≤ maxLen := by
    rcases hli.2 with ⟨_, h0⟩ | ⟨g, cap, cur, h0, _, _, hle, hcm, _⟩
    · omega
    · cases h0
      exact ⟨g, rfl, hle, hcm⟩
  obtain ⟨gt, rfl, htc, hcm9⟩ := hBt
  have hct : ct ≤ 9223372036854775807 := by unfold maxLen at hcm9; omega
  have hk0 : ((k : Int) + 1 == 0) = false := by rw [beq_eq_false_iff_ne]; omega
  have hmc : (m : Int) ≤ (ct : Int) := by omega
  rw [← hk] at hM
  clear hml ht hk hlv hli h hcm9
  go_enter Try.func49, Try.ntmps49
  go_wp2_with fail
  go_region
  all_goals
    go_wp2_with fail
    go_ret
    exact ⟨rfl, HRES.out.bel ⟨rfl, rfl, rfl, Nat.le_refl _, fun _ _ => rfl⟩⟩
end
end Go.Proofs.Ytghfelfljblkbaa
