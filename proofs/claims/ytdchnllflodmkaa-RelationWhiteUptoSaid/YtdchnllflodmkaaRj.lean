/- chandlerlaw7: awake, light. -/
import Derived.Test.YtdchnllflodmkaaRi
namespace Go.Proofs.Ytdchnllflodmkaa
open Go.RowKit
set_option linter.unusedVariables false

def awS : ByteArray := ⟨#[97, 97, 32, 40, 62, 61, 32, 49, 41, 32, 124, 32, 98, 98, 44, 32, 99, 99, 40, 60, 60, 50, 41]⟩
def awL : List (List Rl.Atm) := [[⟨[97, 97], 4, [49]⟩, ⟨[98, 98], 0, []⟩], [⟨[99, 99], 1, [50]⟩]]
theorem aw_parse : Rl.allR nmL verL anyF false (bl awS) = .ok awL := by decide +kernel
theorem aw_text : ltx (awL.map (·.map raA)) = [97, 97, 32, 40, 62, 61, 32, 49, 41, 32, 124, 32, 98, 98, 44, 32, 99, 99, 32, 40, 60, 60, 32, 50, 41] := by decide +kernel
theorem aw_par : eno (Rl.allP nmL verL anyF false (bl awS)) = 0 ∧ okv (Rl.allP nmL verL anyF false (bl awS)) = awL := by
  rw [Rl.all_sim plain_nm plain_ver, aw_parse]
  exact ⟨rfl, rfl⟩
set_option maxRecDepth 100000 in
set_option maxHeartbeats 4000000 in
theorem awake_any (w : World) : Calls Try.prog 12 #[] w fun e w' => e = .returned (.bool true) ∧ Below w.heap.size w w' := by
  have hp : Calls Try.prog 9 #[.string ⟨#[97, 97, 32, 40, 62, 61, 32, 49, 41, 32, 124, 32, 98, 98, 44, 32, 99, 99, 40, 60, 60, 50, 41]⟩] w fun e w' => Below w.heap.size w w' ∧ ∃ v, e = .returned (.tuple #[v, .int .i64 0]) ∧ ClsAt w' v (awL.map (·.map raA)) :=
    (Parse_any awS w (by decide)).mono fun e w' ⟨hb, v, he, ho⟩ => ⟨hb, v, by rw [he, aw_par.1], by have := ho.cls; rwa [aw_par.2] at this⟩
  have HP := Lib.hid hp
  clear hp
  go_enter Try.func12, Try.ntmps12
  go_wp2_with fail
  go_at_call 9
  refine HP.out.mono ?_
  rintro e w1 ⟨hb1, v, rfl, hc⟩
  have ht := fun W hW => Text_any v (awL.map (·.map raA)) W (hc.below hW) (by decide)
  have HT : Hid (∀ W, Below w1.heap.size w1 W → Calls Try.prog 14 #[v] W fun e w' => e = .returned (.string ⟨#[97, 97, 32, 40, 62, 61, 32, 49, 41, 32, 124, 32, 98, 98, 44, 32, 99, 99, 32, 40, 60, 60, 32, 50, 41]⟩) ∧ Below W.heap.size W w') := Lib.hid (fun W hW => (ht W hW).mono fun e w' ⟨he, hb⟩ => ⟨by rw [he, aw_text]; rfl, hb⟩)
  have HB1 := Lib.hid hb1
  obtain ⟨A, c, rfl, hlc, hA⟩ := hc
  obtain ⟨g, o, V0, rfl, k0, A0, c0, hV0, _, _⟩ := hA 0 (by decide)
  obtain ⟨g', o', V1, e1, k1, A1, c1, hV1, _, hA1⟩ := hA 1 (by decide)
  obtain ⟨g1, o1, e2, _, j1, _⟩ := hA1 0 (by decide)
  subst hV0 hV1 e2
  injection e1 with e1
  injection e1 with e1 e3 _
  subst e1 e3
  have k0 : w1.cell? ⟨g, o, none⟩ = some (.slice A0 2 c0) := k0
  have k1 : w1.cell? ⟨g, o + 1, none⟩ = some (.slice (some ⟨g1, o1, none⟩) 1 c1) := k1
  have j1 : w1.cell? ⟨g1, o1 + 1, none⟩ = some (.int .i64 1) := j1
  have hlc : 2 ≤ c := hlc
  clear hb1 hA hA1 HP ht
  go_wp2_with (go_at_call 14; refine (HT.out _ ⟨rfl, rfl, rfl, Nat.le_refl _, fun _ _ => rfl⟩).mono ?_; rintro e w2 ⟨rfl, hb2⟩)
  go_ret
  exact ⟨rfl, HB1.out.trans (hb2.mono HB1.out.size)⟩
set_option maxRecDepth 100000 in
set_option maxHeartbeats 1000000 in
theorem light_any (v : Value) (L : List (List RA)) (w : World) (h : ClsAt w v L) (hn : L.length ≤ 281474976710656) :
    Calls Try.prog 13 #[v] w fun e w' => e = .returned (.bool (lightB L)) ∧ Below w.heap.size w w' := by
  obtain ⟨A, c, rfl, c1, hA⟩ := h
  obtain ⟨bb, hbb⟩ : ∃ bb, bb = lightB L := ⟨_, rfl⟩
  rw [← hbb]
  have HF1 : Hid (30 < L.length → bb = false) := Lib.hid (fun h => by rw [hbb]; unfold lightB; rw [decide_eq_false (by omega)]; rfl)
  have HF2 : Hid (∀ j (h : j < L.length), 30 < L[j].length → bb = false) := Lib.hid (fun j h h9 => by
    rw [hbb]
    unfold lightB
    rw [Bool.and_eq_false_iff]
    right
    rw [List.all_eq_false]
    exact ⟨L[j], List.getElem_mem h, by simp; omega⟩)
  have HTT : Hid (L.length ≤ 30 → (∀ j (h : j < L.length), L[j].length ≤ 30) → bb = true) := Lib.hid (fun h1 h2 => by
    rw [hbb]
    unfold lightB
    rw [decide_eq_true h1, Bool.true_and, List.all_eq_true]
    intro x hx
    obtain ⟨j, hj, rfl⟩ := List.mem_iff_getElem.1 hx
    exact decide_eq_true (h2 j hj))
  obtain ⟨n, hn0⟩ : ∃ n, n = L.length := ⟨_, rfl⟩
  rw [← hn0] at hn ⊢
  have HN := Lib.hid hn0
  have HA := Lib.hid hA
  clear hbb hn0 hA c1
  go_enter Try.func13, Try.ntmps13
  go_wp2_with fail
  go_loopw [7] (fun t wr => ∃ i : Nat, t = .int .i64 (i : Int) ∧ i ≤ n ∧ i ≤ 30 ∧ Hid (∀ j (h : j < L.length), j < i → L[j].length ≤ 30) ∧ wr = w) (fun t _ => n - (match t with | .int _ x => x.toNat | _ => 0))
  case atStart => exact ⟨0, rfl, Nat.zero_le _, Nat.zero_le _, Lib.hid (fun j _ hj => by omega), rfl⟩
  case round =>
    obtain ⟨i, rfl, hi, h30, HI, rfl⟩ := hrel
    by_cases hlt : i < n
    case neg =>
      have HT := Lib.hid (HTT.out (by have := HN.out; omega) (fun j hj => HI.out j hj (by have := HN.out; omega)))
      have hnn : ¬ (i : Int) < (n : Int) := by omega
      go_wp2_with fail
      go_ret
      exact ⟨by rw [HT.out]; rfl, Below.refl _ _⟩
    obtain ⟨g, o, V, e1, k0, B, d, hV, hd, _⟩ := HA.out i (by have := HN.out; omega)
    subst e1 hV
    have hil : i < L.length := by have := HN.out; omega
    have hf2 := HF2.out i hil
    obtain ⟨x, hx⟩ : ∃ x, x = L[i]'hil := ⟨_, rfl⟩
    rw [← hx] at k0 hf2 hd
    have hi1 : x.length ≤ 30 → ∀ j (h : j < L.length), j < i + 1 → L[j].length ≤ 30 := fun h9 j h hj => by
      by_cases e : j = i
      · subst e; rw [← hx]; exact h9
      · exact HI.out j h (by omega)
    have HI1 := Lib.hid hi1
    have HF := Lib.hid hf2
    obtain ⟨k, hk⟩ : ∃ k, k = x.length := ⟨_, rfl⟩
    rw [← hk] at k0 HI1 HF hd
    have hln : (i : Int) < (n : Int) := by omega
    clear hx hi1 hf2 hk hil
    by_cases h9 : i = 30
    · have q1 : decide ((30 : Int) ≤ (i : Int)) = true := decide_eq_true (by omega)
      have HR := Lib.hid (HF1.out (by have := HN.out; omega))
      clear h9
      go_wp2_with fail
      go_ret
      exact ⟨by rw [HR.out]; rfl, Below.refl _ _⟩
    have q1 : decide ((30 : Int) ≤ (i : Int)) = false := decide_eq_false (by omega)
    by_cases h8 : k ≤ 30
    case neg =>
      have q2 : decide ((30 : Int) < (k : Int)) = true := decide_eq_true (by omega)
      have HR := Lib.hid (HF.out (by omega))
      clear h9 h8
      go_wp2_with fail
      go_ret
      exact ⟨by rw [HR.out]; rfl, Below.refl _ _⟩
    have q2 : decide ((30 : Int) < (k : Int)) = false := decide_eq_false (by omega)
    have HI2 := Lib.hid (HI1.out h8)
    go_wp2_with fail
    refine ⟨⟨i + 1, by go_num, by omega, by omega, HI2, by first | rfl | trivial⟩, ?_⟩
    show n - ((i : Int) + 1).toNat < n - (i : Int).toNat
    omega
end Go.Proofs.Ytdchnllflodmkaa
