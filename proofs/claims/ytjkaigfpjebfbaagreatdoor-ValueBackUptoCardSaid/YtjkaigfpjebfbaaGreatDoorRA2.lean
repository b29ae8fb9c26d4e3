/- Relation: a text that was written reads as it was: at atoms as they may come. -/
import Derived.Test.YtjkaigfpjebfbaaGreatDoorRl3
import Derived.Test.YtjkaigfpjebfbaaGreatDoorZC
import Derived.Test.YtjkaigfpjebfbaaGreatDoorZB
namespace Go.Proofs.YtjkaigfpjebfbaaGreatDoor
open Go.RowKit
set_option linter.unusedVariables false

def atmOf (a : RA) : Rl.Atm := ⟨bl a.n, a.r.toNat, bl a.v⟩
theorem tob_bl (s : ByteArray) : Rl.tob (bl s) = s := by
  obtain ⟨⟨l⟩⟩ := s
  rfl
theorem raA_atm {a : RA} (h : 0 ≤ a.r) : raA (atmOf a) = a := by
  obtain ⟨n, r, v⟩ := a
  unfold raA atmOf
  simp only [tob_bl]
  congr 1
  exact Int.toNat_of_nonneg h
theorem mayA_atm {a : RA} (h : mayR a = true) : Rl.mayA nmL verL (atmOf a) = true := by
  have hr := (mayR_len h).2.2.1
  rw [may_eq]
  have := raA_atm hr
  unfold raA at this
  have e1 := congrArg RA.n this
  have e2 := congrArg RA.r this
  have e3 := congrArg RA.v this
  simp only at e1 e2 e3
  rw [e1, e2, e3]
  exact h
theorem bl_sgn (k : Nat) (h : k ≤ 5) : bl (sgnB (k : Int)) = Rl.sgn k := by
  match k, h with
  | 0, _ => rfl
  | 1, _ => rfl
  | 2, _ => rfl
  | 3, _ => rfl
  | 4, _ => rfl
  | 5, _ => rfl
theorem atx_atm {a : RA} (h : mayR a = true) : atx a = Rl.atxt (atmOf a) := by
  have hl := mayR_len h
  unfold atx Rl.atxt
  rw [if_pos h]
  have e : (atmOf a).rel = a.r.toNat := rfl
  have e2 : ((a.r.toNat : Nat) : Int) = a.r := Int.toNat_of_nonneg hl.2.2.1
  by_cases hr : a.r = 0
  · rw [if_pos hr, if_pos (by rw [e, hr]; rfl)]
    rfl
  · rw [if_neg hr, if_neg (by rw [e]; omega)]
    have h3 := bl_sgn a.r.toNat (by omega)
    rw [e2] at h3
    rw [e, ← h3]
    show bl a.n ++ [32, 40] ++ bl (sgnB a.r) ++ [32] ++ bl a.v ++ [41] = bl a.n ++ ([32, 40] ++ (bl (sgnB a.r) ++ ([32] ++ (bl a.v ++ [41]))))
    simp only [List.append_assoc]
theorem join_two (x y : List UInt8) (r : List (List UInt8)) (sep : List UInt8) : Lib.join (x :: y :: r) sep = x ++ (sep ++ Lib.join (y :: r) sep) := by
  rw [Lib.join_cons, Lib.join_cons]; simp [Lib.joinTail]
theorem ctx_atm : ∀ {c : List RA}, (∀ a ∈ c, mayR a = true) → ctx c = Rl.ctxt (c.map atmOf)
  | [], _ => rfl
  | [a], h => by
    show Lib.join [atx a] [32, 124, 32] = Rl.atxt (atmOf a)
    rw [← atx_atm (h a (by simp)), Lib.join_one]
  | a :: b :: r, h => by
    show Lib.join (atx a :: atx b :: r.map atx) [32, 124, 32] = Rl.atxt (atmOf a) ++ ([32, 124, 32] ++ Rl.ctxt ((b :: r).map atmOf))
    rw [join_two, ← atx_atm (h a (by simp)), ← ctx_atm (c := b :: r) (fun x hx => h x (.tail _ hx))]
    rfl
theorem ltj_atm : ∀ {L : List (List RA)}, (∀ c ∈ L, ∀ a ∈ c, mayR a = true) → Lib.join (L.map ctx) [44, 32] = Rl.ltxt (L.map (·.map atmOf))
  | [], _ => rfl
  | [c], h => by
    show Lib.join [ctx c] [44, 32] = Rl.ctxt (c.map atmOf)
    rw [← ctx_atm (h c (by simp)), Lib.join_one]
  | a :: b :: r, h => by
    show Lib.join (ctx a :: ctx b :: r.map ctx) [44, 32] = Rl.ctxt (a.map atmOf) ++ ([44, 32] ++ Rl.ltxt ((b :: r).map (·.map atmOf)))
    rw [join_two, ← ctx_atm (h a (by simp)), ← ltj_atm (L := b :: r) (fun x hx => h x (.tail _ hx))]
    rfl
theorem ltx_atm {L : List (List RA)} (h : okL L = true) : ltx L = Rl.ltxt (L.map (·.map atmOf)) := by
  unfold ltx
  rw [if_pos h]
  exact ltj_atm (fun c hc => (okC_len ((okL_len h).2 c hc)).2.2)
theorem back_atm {L : List (List RA)} (h : okL L = true) : (L.map (·.map atmOf)).map (·.map raA) = L := by
  rw [List.map_map]
  conv => rhs; rw [← List.map_id L]
  refine List.map_congr_left fun c hc => ?_
  show (c.map atmOf).map raA = c
  rw [List.map_map]
  conv => rhs; rw [← List.map_id c]
  refine List.map_congr_left fun a ha => ?_
  exact raA_atm (mayR_len ((okC_len ((okL_len h).2 c hc)).2.2 a ha)).2.2.1
theorem ok_mem {L : List (List RA)} (h : okL L = true) : ∀ c ∈ L.map (·.map atmOf), c ≠ [] ∧ c.length ≤ 6 ∧ ∀ a ∈ c, Rl.mayA nmL verL a = true := by
  intro c hc
  obtain ⟨c0, hc0, rfl⟩ := List.mem_map.1 hc
  have h1 := okC_len ((okL_len h).2 c0 hc0)
  refine ⟨fun e => ?_, by rw [List.length_map]; exact h1.2.1, fun a ha => ?_⟩
  · have := congrArg List.length e
    rw [List.length_map] at this
    simp at this
    rw [this] at h1
    simp at h1
  · obtain ⟨a0, ha0, rfl⟩ := List.mem_map.1 ha
    exact mayA_atm (h1.2.2 a0 ha0)
theorem ltx_toks {L : List (List RA)} (h : okL L = true) : Rl.toks (ltx L) = Rl.ltoks (L.map (·.map atmOf)) := by
  rw [ltx_atm h]
  exact Rl.ltxt_toks plain_nm plain_ver (fun c hc => (ok_mem h c hc).2.2)
theorem ltx_ne {L : List (List RA)} (h : okL L = true) (hL : L ≠ []) : ltx L ≠ [] := by
  intro e
  have h1 := ltx_toks h
  rw [e] at h1
  exact Rl.ltoks_ne (L := L.map (·.map atmOf)) (by simpa using hL) (fun c hc => (ok_mem h c hc).1) h1.symm
theorem reads_back {L : List (List RA)} (h : okL L = true) {s : Rl.Bs} (hs : Rl.toks s = Rl.toks (ltx L)) {mf : Rl.Atm → Bool} {one : Bool} (hm : ∀ c ∈ L, ∀ a ∈ c, mf (atmOf a) = true) (h1 : one = true → ∀ c ∈ L, c.length = 1) :
    Rl.allP nmL verL mf one s = .ok (L.map (·.map atmOf)) := by
  refine Rl.allP_toks nmL verL mf one (by rw [hs]; exact ltx_toks h) (by rw [List.length_map]; exact (okL_len h).1) fun c hc => ?_
  have h2 := ok_mem h c hc
  refine ⟨h2.1, h2.2.1, fun a ha => ⟨h2.2.2 a ha, ?_⟩, fun ho => ?_⟩
  · obtain ⟨c0, hc0, rfl⟩ := List.mem_map.1 hc
    obtain ⟨a0, ha0, rfl⟩ := List.mem_map.1 ha
    exact hm c0 hc0 a0 ha0
  · obtain ⟨c0, hc0, rfl⟩ := List.mem_map.1 hc
    rw [List.length_map]
    exact h1 ho c0 hc0
theorem ltx_gap {L : List (List RA)} (h : okL L = true) : Rl.gapOk 1 (ltx L) := by
  rw [ltx_atm h]
  exact (Rl.ltxt_gap plain_nm plain_ver (fun c hc => ⟨(ok_mem h c hc).1, (ok_mem h c hc).2.2⟩) 1).1
theorem reads_join {A B : List (List RA)} (hA : okL A = true) (hB : okL B = true) (nA : A ≠ []) (nB : B ≠ []) (mf : Rl.Atm → Bool) (hm : ∀ a, mf a = true) :
    Rl.allP nmL verL mf false (ltx A ++ 44 :: ltx B) = if A.length + B.length ≤ 12 then .ok ((A ++ B).map (·.map atmOf)) else .many := by
  have ht : Rl.toks (ltx A ++ 44 :: ltx B) = Rl.ltoks ((A ++ B).map (·.map atmOf)) := by
    rw [Rl.toks_app (by decide), ltx_toks hA, ltx_toks hB, List.map_append, Rl.ltoks_app _ _ (by simpa using nA) (by simpa using nB)]
  have hc : ∀ c ∈ (A ++ B).map (·.map atmOf), Rl.Rd1 nmL verL mf false c := fun c hc => by
    rw [List.map_append, List.mem_append] at hc
    rcases hc with hc | hc
    · have h2 := ok_mem hA c hc
      exact ⟨h2.1, h2.2.1, fun a ha => ⟨h2.2.2 a ha, hm a⟩, fun h => by cases h⟩
    · have h2 := ok_mem hB c hc
      exact ⟨h2.1, h2.2.1, fun a ha => ⟨h2.2.2 a ha, hm a⟩, fun h => by cases h⟩
  have hl : ((A ++ B).map (·.map atmOf)).length = A.length + B.length := by simp
  split
  · next h => exact Rl.allP_toks nmL verL mf false ht (by rw [hl]; exact h) hc
  · next h => exact Rl.allP_over nmL verL mf false ht (by rw [hl]; omega) hc
end Go.Proofs.YtjkaigfpjebfbaaGreatDoor
