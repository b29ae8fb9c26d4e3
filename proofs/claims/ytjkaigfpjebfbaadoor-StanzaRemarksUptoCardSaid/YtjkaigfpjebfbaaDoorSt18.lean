/- chandlerlaw5.light. -/
import Derived.Test.YtjkaigfpjebfbaaDoorSt12
namespace Go.Proofs.YtjkaigfpjebfbaaDoor
open Go.RowKit
set_option linter.unusedVariables false

def lightF (s : St) : Bool := decide (s.fs.length ≤ 60) && s.fs.all fun f => decide (f.ls.length ≤ 60)
/-- Not too many. -/
def lightB (L : List St) : Bool := decide (L.length ≤ 30) && L.all lightF
theorem lightB_long {L : List St} {i : Nat} (hi : i < L.length) (h : 30 ≤ i) : lightB L = false := by
  unfold lightB
  rw [decide_eq_false (by omega), Bool.false_and]
theorem lightB_bad {L : List St} {i : Nat} (hi : i < L.length) (h : lightF L[i] = false) : lightB L = false := by
  unfold lightB
  rw [Bool.and_eq_false_iff]
  right
  rw [List.all_eq_false]
  exact ⟨L[i], List.getElem_mem hi, by rw [h]; simp⟩
theorem lightB_good {L : List St} (hl : L.length ≤ 30) (h : ∀ i (hi : i < L.length), lightF L[i] = true) : lightB L = true := by
  unfold lightB
  rw [decide_eq_true hl, Bool.true_and, List.all_eq_true]
  intro s hs
  obtain ⟨j, hj, rfl⟩ := List.mem_iff_getElem.1 hs
  exact h j hj
theorem lightF_long {fs : List Fd} {ln : Int} (h : 60 < fs.length) : lightF ⟨ln, fs⟩ = false := by
  unfold lightF
  rw [decide_eq_false (by show ¬ fs.length ≤ 60; omega), Bool.false_and]
theorem lightF_bad {fs : List Fd} {ln : Int} {i : Nat} (hi : i < fs.length) (h : 60 < fs[i].ls.length) : lightF ⟨ln, fs⟩ = false := by
  unfold lightF
  rw [Bool.and_eq_false_iff]
  right
  rw [List.all_eq_false]
  exact ⟨fs[i], List.getElem_mem hi, by rw [decide_eq_false (by omega)]; simp⟩
theorem lightF_good {fs : List Fd} {ln : Int} (hl : fs.length ≤ 60) (h : ∀ i (hi : i < fs.length), fs[i].ls.length ≤ 60) : lightF ⟨ln, fs⟩ = true := by
  unfold lightF
  rw [decide_eq_true (by exact hl), Bool.true_and, List.all_eq_true]
  intro f hf
  obtain ⟨j, hj, rfl⟩ := List.mem_iff_getElem.1 hf
  exact decide_eq_true (h j hj)
theorem lightB_len {L : List St} (h : lightB L = true) : L.length ≤ 30 ∧ ∀ s ∈ L, s.fs.length ≤ 60 ∧ ∀ f ∈ s.fs, f.ls.length ≤ 60 := by
  unfold lightB at h
  rw [Bool.and_eq_true, decide_eq_true_eq, List.all_eq_true] at h
  refine ⟨h.1, fun s hs => ?_⟩
  have h2 := h.2 s hs
  unfold lightF at h2
  rw [Bool.and_eq_true, decide_eq_true_eq, List.all_eq_true] at h2
  exact ⟨h2.1, fun f hf => by have := h2.2 f hf; rw [decide_eq_true_eq] at this; exact this⟩
set_option maxRecDepth 100000 in
set_option maxHeartbeats 8000000 in
theorem light_any (v : Value) (L : List St) (w : World) (h : StzAt w v L) (hL : L.length ≤ 4000000000) (hF : ∀ s ∈ L, s.fs.length ≤ 4000000000 ∧ ∀ f ∈ s.fs, f.ls.length ≤ 4000000000) :
    Calls Tryd.prog 15 #[v] w fun e w' => e = .returned (.bool (lightB L)) ∧ Below w.heap.size w w' := by
  obtain ⟨G, A, c, xs, rfl, hc, hr, hv⟩ := h
  obtain ⟨bb, hbb⟩ : ∃ bb, bb = lightB L := ⟨_, rfl⟩
  rw [← hbb]
  have HLO : Hid (∀ i, i < L.length → 30 ≤ i → bb = false) := Lib.hid (fun i h1 h2 => by rw [hbb]; exact lightB_long h1 h2)
  have HBA : Hid (∀ i (hi : i < L.length), lightF L[i] = false → bb = false) := Lib.hid (fun i h1 h2 => by rw [hbb]; exact lightB_bad h1 h2)
  have HGO : Hid (L.length ≤ 30 → (∀ i (hi : i < L.length), lightF L[i] = true) → bb = true) := Lib.hid (fun h1 h2 => by rw [hbb]; exact lightB_good h1 h2)
  obtain ⟨n, hn⟩ : ∃ n, n = L.length := ⟨_, rfl⟩
  rw [← hn] at hr HLO ⊢
  have HR := Lib.hid hr
  have HV := Lib.hid hv
  have HF := Lib.hid hF
  have HN := Lib.hid hn
  rw [← hn] at hL
  clear hr hv hF hn hc hbb
  go_enter Tryd.func15, Tryd.ntmps15
  go_wp2_with fail
  go_loopw [9] (fun t wr => ∃ i : Nat, t = .int .i64 (i : Int) ∧ i ≤ n ∧ i ≤ 30 ∧ Hid (∀ j (hj : j < L.length), j < i → lightF L[j] = true) ∧ Hid (Below w.heap.size w wr)) (fun t _ => n - (match t with | .int _ x => x.toNat | _ => 0))
  case atStart => exact ⟨0, rfl, Nat.zero_le _, by omega, Lib.hid (fun j hj h => by omega), Lib.hid (Below.refl _ _)⟩
  case round =>
    obtain ⟨i, rfl, hi, hi30, HJ, HB⟩ := hrel
    by_cases hlt : i < n
    case neg =>
      have hln : ¬ (i : Int) < (n : Int) := by omega
      have HE := Lib.hid (HGO.out (by have := HN.out; omega) (fun j hj => HJ.out j hj (by have := HN.out; omega)))
      go_wp2_with fail
      go_ret
      exact ⟨by rw [HE.out]; rfl, HB.out⟩
    have hln : (i : Int) < (n : Int) := by omega
    have hil : i < L.length := by have := HN.out; omega
    have hF := HF.out _ (List.getElem_mem hil)
    obtain ⟨e1, fA, fc, fx, e2, _, fr, fv⟩ := HV.out.at_ i hil
    have HBA1 := Lib.hid (HBA.out i hil)
    obtain ⟨st, hst⟩ : ∃ st, st = L[i] := ⟨_, rfl⟩
    rw [← hst] at e1 e2 fr fv hF HBA1
    have HST := Lib.hid hst
    clear hst
    obtain ⟨l1, fs⟩ := st
    obtain ⟨fn, hfn⟩ : ∃ fn, fn = fs.length := ⟨_, rfl⟩
    have e1 : xs[i * 2]? = some (.int .i64 l1) := e1
    have e2 : xs[i * 2 + 1]? = some (.slice fA fn fc) := by rw [hfn]; exact e2
    have fr : RowG w G 2 fA fn fx := by rw [hfn]; exact fr
    have fv : FV w G fx fs := fv
    have hF : fn ≤ 4000000000 ∧ ∀ f ∈ fs, f.ls.length ≤ 4000000000 := by rw [hfn]; exact hF
    obtain ⟨g, o, rfl, hcg⟩ := HR.out.cells (by omega)
    have k1 : wr.cell? ⟨g, o + i * 2, none⟩ = some (.int .i64 l1) := hcg wr HB.out _ _ e1
    have k2 : wr.cell? ⟨g, o + i * 2 + 1, none⟩ = some (.slice fA fn fc) := hcg wr HB.out _ _ e2
    have HFR := Lib.hid (And.intro fr fv)
    have HFN := Lib.hid hfn
    have HFF := Lib.hid hF
    have hfn1 := hF.1
    clear e1 e2 fr fv hcg hfn hF
    go_upto_region 4 with fail
    obtain ⟨b8, hb8⟩ : ∃ b8, b8 = wr.heap.size := ⟨_, rfl⟩
    obtain ⟨w8, hw8⟩ : ∃ w8, w8 = wr.alloc (.cells #[.int .i64 l1, .slice fA fn fc] 34) := ⟨_, rfl⟩
    have HB8 : Hid (Blk w8 b8 34 #[.int .i64 l1, .slice fA fn fc]) := Lib.hid (by rw [hw8, hb8]; exact Blk.new wr _ _)
    have HW8 : Hid (Below w.heap.size w w8) := Lib.hid (by rw [hw8]; exact HB.out.alloc HB.out.size _)
    rw [← hw8, ← hb8]
    clear hw8 hb8 k1 k2 HB
    have k2 : w8.cell? ⟨b8, 1, none⟩ = some (.slice fA fn fc) := HB8.out.cell 1
    by_cases h30 : 30 ≤ i
    · have q30 : (30 : Int) ≤ (i : Int) := by omega
      have HE := Lib.hid (HLO.out i hlt h30)
      clear h30
      go_wp2_with fail
      go_ret
      exact ⟨by rw [HE.out]; rfl, HW8.out⟩
    have q30 : ¬ (30 : Int) ≤ (i : Int) := by omega
    by_cases h60 : 60 < fn
    · have q60 : (60 : Int) < (fn : Int) := by omega
      have HE := Lib.hid (HBA1.out (lightF_long (by rw [← HFN.out]; exact h60)))
      clear h60
      go_wp2_with fail
      go_ret
      exact ⟨by rw [HE.out]; rfl, HW8.out⟩
    have q60 : ¬ (60 : Int) < (fn : Int) := by omega
    go_wp2_with fail
    clear k2
    go_loopw [25] (fun t wx => ∃ k : Nat, t = .int .i64 (k : Int) ∧ k ≤ fn ∧ Hid (∀ j (hj : j < fs.length), j < k → fs[j].ls.length ≤ 60) ∧ Hid (Below w8.heap.size w8 wx)) (fun t _ => fn - (match t with | .int _ x => x.toNat | _ => 0))
    case atStart => exact ⟨0, rfl, Nat.zero_le _, Lib.hid (fun j hj h => by omega), Lib.hid (Below.refl _ _)⟩
    case round =>
      obtain ⟨k, rfl, hk, HK, HX⟩ := hrel
      rename World => wx
      have HBX : Hid (Below w.heap.size w wx) := Lib.hid (HW8.out.trans (HX.out.mono HW8.out.size))
      by_cases hkl : k < fn
      case neg =>
        have hkn : ¬ (k : Int) < (fn : Int) := by omega
        have HOK : Hid (∀ j (hj : j < L.length), j < i + 1 → lightF L[j] = true) := Lib.hid (fun j hj h => by
          by_cases e : j = i
          · subst e
            rw [← HST.out]
            exact lightF_good (by have := HFN.out; omega) (fun m hm => HK.out m hm (by have := HFN.out; omega))
          · exact HJ.out j hj (by omega))
        go_wp2_with fail
        refine ⟨⟨i + 1, by go_num, by omega, by omega, HOK, HBX⟩, ?_⟩
        show n - ((i : Int) + 1).toNat < n - (i : Int).toNat
        omega
      have hkn : (k : Int) < (fn : Int) := by omega
      have hkf : k < fs.length := by have := HFN.out; omega
      obtain ⟨a1, lv, a2, lA, lc, rfl, _, lr⟩ := HFR.out.2.at_ k hkf
      obtain ⟨fg, fo, hfA, hcf⟩ := HFR.out.1.cells (by omega)
      have hls := HFF.out.2 _ (List.getElem_mem hkf)
      have HBAF := Lib.hid (fun h => HBA1.out (lightF_bad hkf h))
      obtain ⟨nm, hnm⟩ : ∃ nm, nm = fs[k].n := ⟨_, rfl⟩
      obtain ⟨ln, hln2⟩ : ∃ ln, ln = fs[k].ls.length := ⟨_, rfl⟩
      rw [← hnm] at a1
      rw [← hln2] at a2 hls HBAF
      have HLN := Lib.hid hln2
      have k1 : wx.cell? ⟨fg, fo + k * 2, none⟩ = some (.string nm) := hcf wx HBX.out _ _ a1
      have k2 : wx.cell? ⟨fg, fo + k * 2 + 1, none⟩ = some (.slice lA ln lc) := hcf wx HBX.out _ _ a2
      clear a1 a2 lr hcf hnm hln2
      subst hfA
      go_upto_region 9 with fail
      obtain ⟨b11, hb11⟩ : ∃ b11, b11 = wx.heap.size := ⟨_, rfl⟩
      obtain ⟨wy, hwy⟩ : ∃ wy, wy = wx.alloc (.cells #[.string nm, .slice lA ln lc] 40) := ⟨_, rfl⟩
      have HB11 : Hid (Blk wy b11 40 #[.string nm, .slice lA ln lc]) := Lib.hid (by rw [hwy, hb11]; exact Blk.new wx _ _)
      have HWY : Hid (Below w8.heap.size w8 wy) := Lib.hid (by rw [hwy]; exact HX.out.alloc HX.out.size _)
      rw [← hwy, ← hb11]
      clear hwy hb11 k1 k2 HX HBX
      have k2 : wy.cell? ⟨b11, 1, none⟩ = some (.slice lA ln lc) := HB11.out.cell 1
      by_cases hl60 : 60 < ln
      · have ql : (60 : Int) < (ln : Int) := by omega
        have HE := Lib.hid (HBAF.out hl60)
        clear hl60
        go_wp2_with fail
        go_ret
        exact ⟨by rw [HE.out]; rfl, HW8.out.trans (HWY.out.mono HW8.out.size)⟩
      have ql : ¬ (60 : Int) < (ln : Int) := by omega
      go_wp2_with fail
      refine ⟨⟨k + 1, by go_num, by omega, Lib.hid (fun j hj h => by
        by_cases e : j = k
        · subst e; rw [← HLN.out]; omega
        · exact HK.out j hj (by omega)), HWY⟩, ?_⟩
      show fn - ((k : Int) + 1).toNat < fn - (k : Int).toNat
      omega
end Go.Proofs.YtjkaigfpjebfbaaDoor
