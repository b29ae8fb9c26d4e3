/- What a relation's text reads as may be written, and read again it is the same. -/
import Derived.Test.YtjkaigfpjebfbaaGreatDoorZC
import Derived.Test.YtjkaigfpjebfbaaGreatDoorRA2
namespace Go.Proofs.YtjkaigfpjebfbaaGreatDoor
open Go.RowKit
set_option linter.unusedVariables false

theorem may1_some {a b : Rl.Atm} (h : Rl.may1 nmL verL a = some b) : Rl.mayA nmL verL b = true := by
  unfold Rl.may1 at h
  cases hm : Rl.mayA nmL verL a with
  | false => rw [hm] at h; cases h
  | true =>
    rw [hm] at h
    injection h with h
    subst h
    exact hm
theorem atomP_may {T T' : List Rl.Bs} {a : Rl.Atm} (h : Rl.atomP nmL verL T = (some a, T')) : Rl.mayA nmL verL a = true := by
  unfold Rl.atomP at h
  split at h
  · injection h with h1 h2
    exact may1_some h1
  · unfold Rl.parP at h
    split at h
    · injection h with h1 h2
      cases h1
    · split at h
      · injection h with h1 h2
        cases h1
      · injection h with h1 h2
        exact may1_some h1
theorem clauseP_may {mf : Rl.Atm → Bool} {one : Bool} : ∀ (d : Nat) {T T' : List Rl.Bs} {out l : List Rl.Atm}, Rl.clauseP nmL verL mf one d T out = .ok (l, T') → (∀ a ∈ out, Rl.mayA nmL verL a = true ∧ mf a = true) → ∀ a ∈ l, Rl.mayA nmL verL a = true ∧ mf a = true
  | 0, T, T', out, l, h, ho => by cases h
  | d + 1, T, T', out, l, h, ho => by
    unfold Rl.clauseP at h
    cases hap : Rl.atomP nmL verL T with
    | mk o T1 =>
      rw [hap] at h
      cases o with
      | none => cases h
      | some a =>
        simp only at h
        split at h
        · next hm =>
          have ho2 : ∀ x ∈ out ++ [a], Rl.mayA nmL verL x = true ∧ mf x = true := fun x hx => by
            rcases List.mem_append.1 hx with h9 | h9
            · exact ho x h9
            · simp at h9; subst h9; exact ⟨atomP_may hap, hm⟩
          split at h
          · injection h with h; injection h with h _; subst h; exact ho2
          · cases hi : Rl.isT [124] T1 with
            | none => rw [hi] at h; injection h with h; injection h with h _; subst h; exact ho2
            | some T2 =>
              rw [hi] at h
              exact clauseP_may d h ho2
        · cases h
theorem parseP_may {mf : Rl.Atm → Bool} {one : Bool} : ∀ (d : Nat) {T : List Rl.Bs} {L0 L : List (List Rl.Atm)}, Rl.parseP nmL verL mf one d T L0 = .ok L → (∀ l ∈ L0, ∀ a ∈ l, Rl.mayA nmL verL a = true ∧ mf a = true) → ∀ l ∈ L, ∀ a ∈ l, Rl.mayA nmL verL a = true ∧ mf a = true
  | 0, T, L0, L, h, h0 => by cases h
  | d + 1, T, L0, L, h, h0 => by
    unfold Rl.parseP at h
    cases hc : Rl.clauseP nmL verL mf one 6 T [] with
    | many => rw [hc] at h; cases h
    | form => rw [hc] at h; cases h
    | ok x =>
      obtain ⟨c, T1⟩ := x
      rw [hc] at h
      simp only at h
      have hl := clauseP_may 6 hc (fun a ha => by cases ha)
      have h02 : ∀ l ∈ L0 ++ [c], ∀ a ∈ l, Rl.mayA nmL verL a = true ∧ mf a = true := fun l hm => by
        rcases List.mem_append.1 hm with h9 | h9
        · exact h0 l h9
        · simp at h9; subst h9; exact hl
      split at h
      · injection h with h; subst h; exact h02
      · cases hi : Rl.isT [44] T1 with
        | none => rw [hi] at h; cases h
        | some T2 =>
          rw [hi] at h
          exact parseP_may d h h02
theorem allP_may {mf : Rl.Atm → Bool} {one : Bool} {s : Rl.Bs} {L : List (List Rl.Atm)} (h : Rl.allP nmL verL mf one s = .ok L) : ∀ l ∈ L, ∀ a ∈ l, Rl.mayA nmL verL a = true ∧ mf a = true := by
  unfold Rl.allP at h
  split at h
  · injection h with h; subst h
    exact fun l hm => by cases hm
  · exact parseP_may 12 h (fun l hl => by cases hl)
theorem atm_raA (a : Rl.Atm) : atmOf (raA a) = a := by
  obtain ⟨n, r, v⟩ := a
  unfold atmOf raA
  simp only [Rl.bl_tob, Int.toNat_natCast]
theorem atms_back (L : List (List Rl.Atm)) : (L.map (·.map raA)).map (·.map atmOf) = L := by
  rw [List.map_map]
  conv => rhs; rw [← List.map_id L]
  refine List.map_congr_left fun c hc => ?_
  simp only [Function.comp, List.map_map, id]
  conv => rhs; rw [← List.map_id c]
  exact List.map_congr_left fun a ha => atm_raA a
theorem allP_okL {mf : Rl.Atm → Bool} {one : Bool} {s : Rl.Bs} {L : List (List Rl.Atm)} (h : Rl.allP nmL verL mf one s = .ok L) : okL (L.map (·.map raA)) = true := by
  have hl := allP_len h
  have hm := allP_may h
  refine okL_all (by rw [List.length_map]; exact hl.1) fun j hj => ?_
  rw [List.length_map] at hj
  rw [List.getElem_map]
  have h1 := hl.2 L[j] (List.getElem_mem hj)
  refine okC_all (by rw [List.length_map]; exact h1.1) (by rw [List.length_map]; exact h1.2.1) fun k hk => ?_
  rw [List.length_map] at hk
  rw [List.getElem_map]
  have h2 := (hm L[j] (List.getElem_mem hj) L[j][k] (List.getElem_mem hk)).1
  rw [may_eq] at h2
  exact h2
/-- Written, and read again: the same. -/
theorem allP_back {mf : Rl.Atm → Bool} {one : Bool} {s : Rl.Bs} {L : List (List Rl.Atm)} (h : Rl.allP nmL verL mf one s = .ok L) : Rl.allP nmL verL mf one (ltx (L.map (·.map raA))) = .ok L := by
  have hk := allP_okL h
  have := reads_back hk (s := ltx (L.map (·.map raA))) rfl (mf := mf) (one := one) (fun c hc a ha => by
    obtain ⟨c0, hc0, rfl⟩ := List.mem_map.1 hc
    obtain ⟨a0, ha0, rfl⟩ := List.mem_map.1 ha
    rw [atm_raA]
    exact (allP_may h c0 hc0 a0 ha0).2) (fun ho c hc => by
    obtain ⟨c0, hc0, rfl⟩ := List.mem_map.1 hc
    rw [List.length_map]
    exact ((allP_len h).2 c0 hc0).2.2 ho)
  rw [atms_back] at this
  exact this
theorem allP_ne {mf : Rl.Atm → Bool} {one : Bool} {s : Rl.Bs} {L : List (List Rl.Atm)} (h : Rl.allP nmL verL mf one s = .ok L) (hL : L ≠ []) : Rl.tob (ltx (L.map (·.map raA))) ≠ ⟨#[]⟩ := by
  have := ltx_ne (allP_okL h) (by simpa using hL)
  intro e
  have e2 := congrArg bl e
  exact this e2
theorem single_map {L : List (List Rl.Atm)} (h : ∀ l ∈ L, l.length = 1) : (L.flatten.map raA).map (fun a => [a]) = L.map (·.map raA) := by
  induction L with
  | nil => rfl
  | cons c r ih =>
    have hc := h c (.head _)
    match c, hc with
    | [a], _ =>
      have := ih (fun l hl => h l (.tail _ hl))
      simp only [List.flatten_cons, List.map_cons, List.map_nil, List.singleton_append]
      rw [← this]
theorem pv_rp {a : Rl.Atm} (h : Rl.mayA nmL verL a = true) (hp : provF a = true) : pvA (rpA a) = raA a := by
  obtain ⟨n, r, v⟩ := a
  unfold Rl.mayA at h
  unfold provF at hp
  simp only [Bool.and_eq_true, Bool.or_eq_true, decide_eq_true_eq] at h hp
  unfold pvA rpA raA
  simp only
  by_cases hr : r = 0
  · rw [if_pos hr] at h
    have hv : v = [] := by simpa using h.2
    subst hv hr
    rfl
  · have h3 : r = 3 := by omega
    rw [if_neg hr] at h
    have hv : verL v = true := by
      have := h.2
      simp only [Bool.and_eq_true] at this
      exact this.2
    have hne : v ≠ [] := fun e => by subst e; cases hv
    subst h3
    have hsz : (Rl.tob v).size ≠ 0 := by
      have : (Rl.tob v).size = v.length := rfl
      rw [this]
      exact fun e => hne (List.length_eq_zero_iff.1 e)
    rw [if_neg hsz]
    rfl
theorem single_prov {L : List (List Rl.Atm)} (h : ∀ l ∈ L, l.length = 1) (hm : ∀ l ∈ L, ∀ a ∈ l, Rl.mayA nmL verL a = true ∧ provF a = true) : ((L.flatten.map rpA).map pvA).map (fun a => [a]) = L.map (·.map raA) := by
  rw [← single_map h]
  congr 1
  rw [List.map_map]
  refine List.map_congr_left fun a ha => ?_
  obtain ⟨c, hc, hac⟩ := List.mem_flatten.1 ha
  exact pv_rp (hm c hc a hac).1 (hm c hc a hac).2
end Go.Proofs.YtjkaigfpjebfbaaGreatDoor
