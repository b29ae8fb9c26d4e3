/- chandlerref4.SameStanzas, where they are the same. -/
import Derived.Test.YtjkaigfpjebfbaaDoorB6
namespace Go.Proofs.YtjkaigfpjebfbaaDoor
open Go.RowKit
set_option linter.unusedVariables false

/-- The same stanzas, but maybe where they begin. -/
def SameL (b : Bool) (L L' : List St) : Prop := L.length = L'.length ∧ ∀ i (h : i < L.length) (h' : i < L'.length), L[i].fs = L'[i].fs ∧ (b = true → L[i].line = L'[i].line)
theorem SameL.refl (b : Bool) (L : List St) : SameL b L L := ⟨rfl, fun _ _ _ => ⟨rfl, fun _ => rfl⟩⟩
/-- A row's cells, in any later world. -/
theorem RowG.cells {w : World} {G : Nat → Prop} {size n : Nat} {A : Option Addr} {xs : List Value} (h : RowG w G size A n xs) (hn : 0 < n) : ∃ g o, A = some ⟨g, o, none⟩ ∧ ∀ W, Below w.heap.size w W → ∀ j u, xs[j]? = some u → W.cell? ⟨g, o + j, none⟩ = some u := by
  obtain ⟨g, o, e, h1, _, h3⟩ := h.2 hn
  exact ⟨g, o, e, fun W hW j u hj => (hW.cell (p := ⟨g, o + j, none⟩) h1).trans (h3 j u hj)⟩
set_option maxRecDepth 100000 in
set_option maxHeartbeats 8000000 in
theorem SameStanzas_true (v v' : Value) (L L' : List St) (w : World) (h : StzAt w v L) (h' : StzAt w v' L') (hs : SameL true L L') (hL : L.length ≤ 1000000) (hF : ∀ s ∈ L, s.fs.length ≤ 1000000 ∧ ∀ f ∈ s.fs, f.ls.length ≤ 1000000) :
    Calls Tryd.prog 13 #[v, v', .bool true] w fun e w' => e = .returned (.bool true) ∧ Below w.heap.size w w' := by
  obtain ⟨G, A, c, xs, rfl, hc, hr, hv⟩ := h
  obtain ⟨G', A', c', xs', rfl, hc', hr', hv'⟩ := h'
  obtain ⟨hlen, hall⟩ := hs
  rw [← hlen] at hr' ⊢
  obtain ⟨n, hn⟩ : ∃ n, n = L.length := ⟨_, rfl⟩
  rw [← hn] at hr hr' ⊢
  have HR := Lib.hid hr
  have HR' := Lib.hid hr'
  have HV := Lib.hid hv
  have HV' := Lib.hid hv'
  have HALL := Lib.hid hall
  have HF := Lib.hid hF
  have HN := Lib.hid hn
  have HLEN := Lib.hid hlen
  rw [← hn] at hL
  clear hr hr' hv hv' hall hlen hF hn hc hc'
  go_enter Tryd.func13, Tryd.ntmps13
  go_wp2_with fail
  go_loopw [21] (fun t wr => ∃ i : Nat, t = .int .i64 (i : Int) ∧ i ≤ n ∧ Hid (Below w.heap.size w wr)) (fun t _ => n - (match t with | .int _ x => x.toNat | _ => 0))
  case atStart => exact ⟨0, rfl, Nat.zero_le _, Lib.hid (Below.refl _ _)⟩
  case round =>
    obtain ⟨i, rfl, hi, HB⟩ := hrel
    by_cases hlt : i < n
    case neg =>
      have hln : ¬ (i : Int) < (n : Int) := by omega
      go_wp2_with fail
      go_ret
      exact ⟨rfl, HB.out⟩
    have hln : (i : Int) < (n : Int) := by omega
    have hil : i < L.length := by have := HN.out; omega
    have hil' : i < L'.length := by have := HN.out; have := HLEN.out; omega
    obtain ⟨hf1, hl1⟩ := HALL.out i hil hil'
    have hF := HF.out _ (List.getElem_mem hil)
    obtain ⟨e1, fA, fc, fx, e2, _, fr, fv⟩ := HV.out.at_ i hil
    obtain ⟨e1', fA', fc', fx', e2', _, fr', fv'⟩ := HV'.out.at_ i hil'
    rw [← hf1] at e2' fr' fv'
    obtain ⟨fs, hfs⟩ : ∃ fs, fs = L[i].fs := ⟨_, rfl⟩
    rw [← hfs] at e2 e2' fr fr' fv fv' hF
    obtain ⟨fn, hfn⟩ : ∃ fn, fn = fs.length := ⟨_, rfl⟩
    rw [← hfn] at e2 e2' fr fr' hF
    obtain ⟨l1, hl1'⟩ : ∃ l1, l1 = L[i].line := ⟨_, rfl⟩
    obtain ⟨l2, hl2'⟩ : ∃ l2, l2 = L'[i].line := ⟨_, rfl⟩
    rw [← hl1', ← hl2'] at hl1
    rw [← hl1'] at e1
    rw [← hl2'] at e1'
    obtain ⟨g, o, rfl, hcg⟩ := HR.out.cells (by omega)
    obtain ⟨g', o', rfl, hcg'⟩ := HR'.out.cells (by omega)
    have k1 : wr.cell? ⟨g, o + i * 2, none⟩ = some (.int .i64 l1) := hcg wr HB.out _ _ e1
    have k2 : wr.cell? ⟨g, o + i * 2 + 1, none⟩ = some (.slice fA fn fc) := hcg wr HB.out _ _ e2
    have k1' : ∀ W, Below wr.heap.size wr W → W.cell? ⟨g', o' + i * 2, none⟩ = some (.int .i64 l2) ∧ W.cell? ⟨g', o' + i * 2 + 1, none⟩ = some (.slice fA' fn fc') := fun W hW => ⟨hcg' W (HB.out.trans (hW.mono HB.out.size)) _ _ e1', hcg' W (HB.out.trans (hW.mono HB.out.size)) _ _ e2'⟩
    have HK := Lib.hid k1'
    have HFR := Lib.hid (And.intro fr fv)
    have HFR' := Lib.hid (And.intro fr' fv')
    have HFN := Lib.hid hfn
    have HFF := Lib.hid hF
    have hfn1 := hF.1
    have HNE : Hid (true = true → ((l1 : Int) != l2) = false) := Lib.hid (fun h => by rw [hl1 (by first | trivial | exact absurd h (by decide))]; simp)
    clear hl1 e1 e2 e1' e2' fr fv fr' fv' k1' hcg hcg' hfs hfn hl1' hl2' hf1 hF
    go_upto_region 6 with fail
    obtain ⟨b8, hb8⟩ : ∃ b8, b8 = wr.heap.size := ⟨_, rfl⟩
    obtain ⟨w8, hw8⟩ : ∃ w8, w8 = wr.alloc (.cells #[.int .i64 l1, .slice fA fn fc] 34) := ⟨_, rfl⟩
    have HB8 : Hid (Blk w8 b8 34 #[.int .i64 l1, .slice fA fn fc]) := Lib.hid (by rw [hw8, hb8]; exact Blk.new wr _ _)
    have HW8 : Hid (Below wr.heap.size wr w8) := Lib.hid (by rw [hw8]; exact (Below.refl _ _).alloc (Nat.le_refl _) _)
    rw [← hw8, ← hb8]
    obtain ⟨q1, q2⟩ := HK.out w8 HW8.out
    clear hw8 hb8 k1 k2 HK
    go_upto_region 7 with fail
    obtain ⟨b9, hb9⟩ : ∃ b9, b9 = w8.heap.size := ⟨_, rfl⟩
    obtain ⟨w9, hw9⟩ : ∃ w9, w9 = w8.alloc (.cells #[.int .i64 l2, .slice fA' fn fc'] 34) := ⟨_, rfl⟩
    have HC9 : Hid (Blk w9 b9 34 #[.int .i64 l2, .slice fA' fn fc']) := Lib.hid (by rw [hw9, hb9]; exact Blk.new w8 _ _)
    have HC8 : Hid (Blk w9 b8 34 #[.int .i64 l1, .slice fA fn fc]) := Lib.hid (by rw [hw9]; exact HB8.out.alloc _)
    have HW9 : Hid (Below w.heap.size w w9) := Lib.hid ((HB.out.trans (HW8.out.mono HB.out.size)).trans (by rw [hw9]; exact (Below.refl _ _).alloc (Nat.le_trans HB.out.size HW8.out.size) _))
    rw [← hw9, ← hb9]
    clear hw9 hb9 HW8 HB8 q1 q2 HB
    have k1 : w9.cell? ⟨b8, 0, none⟩ = some (.int .i64 l1) := HC8.out.cell 0
    have k2 : w9.cell? ⟨b8, 1, none⟩ = some (.slice fA fn fc) := HC8.out.cell 1
    have k3 : w9.cell? ⟨b9, 0, none⟩ = some (.int .i64 l2) := HC9.out.cell 0
    have k4 : w9.cell? ⟨b9, 1, none⟩ = some (.slice fA' fn fc') := HC9.out.cell 1
    have hne := HNE.out (by first | trivial | rfl)
    go_wp2_with fail
    clear k1 k2 k3 k4
    clear hne
    go_loopw [50] (fun t wx => ∃ k : Nat, t = .int .i64 (k : Int) ∧ k ≤ fn ∧ Hid (Below w9.heap.size w9 wx)) (fun t _ => fn - (match t with | .int _ x => x.toNat | _ => 0))
    case atStart => exact ⟨0, rfl, Nat.zero_le _, Lib.hid (Below.refl _ _)⟩
    case round =>
      obtain ⟨k, rfl, hk, HX⟩ := hrel
      rename World => wx
      have HBX : Hid (Below w.heap.size w wx) := Lib.hid (HW9.out.trans (HX.out.mono HW9.out.size))
      by_cases hkl : k < fn
      case neg =>
        have hkn : ¬ (k : Int) < (fn : Int) := by omega
        go_wp2_with fail
        refine ⟨⟨i + 1, by go_num, by omega, HBX⟩, ?_⟩
        show n - ((i : Int) + 1).toNat < n - (i : Int).toNat
        omega
      have hkn : (k : Int) < (fn : Int) := by omega
      have hkf : k < fs.length := by have := HFN.out; omega
      obtain ⟨a1, lv, a2, lA, lc, rfl, _, lr⟩ := HFR.out.2.at_ k hkf
      obtain ⟨a1', lv', a2', lA', lc', rfl, _, lr'⟩ := HFR'.out.2.at_ k hkf
      obtain ⟨fg, fo, hfA, hcf⟩ := HFR.out.1.cells (by omega)
      obtain ⟨fg', fo', hfA', hcf'⟩ := HFR'.out.1.cells (by omega)
      have hls := HFF.out.2 _ (List.getElem_mem hkf)
      obtain ⟨nm, hnm⟩ : ∃ nm, nm = fs[k].n := ⟨_, rfl⟩
      obtain ⟨ls, hlse⟩ : ∃ ls, ls = fs[k].ls := ⟨_, rfl⟩
      rw [← hnm] at a1 a1'
      rw [← hlse] at a2 a2' lr lr' hls
      obtain ⟨ln, hln2⟩ : ∃ ln, ln = ls.length := ⟨_, rfl⟩
      rw [← hln2] at a2 a2' lr lr' hls
      have HLR := Lib.hid (And.intro lr lr')
      have HLN := Lib.hid hln2
      have k1 : wx.cell? ⟨fg, fo + k * 2, none⟩ = some (.string nm) := hcf wx HBX.out _ _ a1
      have k2 : wx.cell? ⟨fg, fo + k * 2 + 1, none⟩ = some (.slice lA ln lc) := hcf wx HBX.out _ _ a2
      have HK : Hid (∀ W, Below wx.heap.size wx W → W.cell? ⟨fg', fo' + k * 2, none⟩ = some (.string nm) ∧ W.cell? ⟨fg', fo' + k * 2 + 1, none⟩ = some (.slice lA' ln lc') ∧ W.cell? ⟨b9, 1, none⟩ = some (.slice fA' fn fc')) := Lib.hid (fun W hW => ⟨hcf' W (HBX.out.trans (hW.mono HBX.out.size)) _ _ a1', hcf' W (HBX.out.trans (hW.mono HBX.out.size)) _ _ a2', (HC9.out.below (HX.out.trans (hW.mono HX.out.size)) HC9.out.lt).cell 1⟩)
      clear a1 a2 a1' a2' lr lr' hcf hcf' hnm hlse hln2
      subst hfA hfA'
      go_upto_region 12 with fail
      obtain ⟨b11, hb11⟩ : ∃ b11, b11 = wx.heap.size := ⟨_, rfl⟩
      obtain ⟨wy, hwy⟩ : ∃ wy, wy = wx.alloc (.cells #[.string nm, .slice lA ln lc] 40) := ⟨_, rfl⟩
      have HB11 : Hid (Blk wy b11 40 #[.string nm, .slice lA ln lc]) := Lib.hid (by rw [hwy, hb11]; exact Blk.new wx _ _)
      have HWY : Hid (Below wx.heap.size wx wy) := Lib.hid (by rw [hwy]; exact (Below.refl _ _).alloc (Nat.le_refl _) _)
      rw [← hwy, ← hb11]
      obtain ⟨q1, q2, q3⟩ := HK.out wy HWY.out
      clear hwy hb11 k1 k2 HK
      go_upto_region 13 with fail
      obtain ⟨b12, hb12⟩ : ∃ b12, b12 = wy.heap.size := ⟨_, rfl⟩
      obtain ⟨wz, hwz⟩ : ∃ wz, wz = wy.alloc (.cells #[.string nm, .slice lA' ln lc'] 40) := ⟨_, rfl⟩
      have HB12 : Hid (Blk wz b12 40 #[.string nm, .slice lA' ln lc']) := Lib.hid (by rw [hwz, hb12]; exact Blk.new wy _ _)
      have HB11' : Hid (Blk wz b11 40 #[.string nm, .slice lA ln lc]) := Lib.hid (by rw [hwz]; exact HB11.out.alloc _)
      have HWZ : Hid (Below w9.heap.size w9 wz) := Lib.hid ((HX.out.trans (HWY.out.mono HX.out.size)).trans (by rw [hwz]; exact (Below.refl _ _).alloc (Nat.le_trans HX.out.size HWY.out.size) _))
      rw [← hwz, ← hb12]
      clear hwz hb12 HWY HB11 q1 q2 q3 HX HBX
      have k1 : wz.cell? ⟨b11, 0, none⟩ = some (.string nm) := HB11'.out.cell 0
      have k2 : wz.cell? ⟨b11, 1, none⟩ = some (.slice lA ln lc) := HB11'.out.cell 1
      have k3 : wz.cell? ⟨b12, 0, none⟩ = some (.string nm) := HB12.out.cell 0
      have k4 : wz.cell? ⟨b12, 1, none⟩ = some (.slice lA' ln lc') := HB12.out.cell 1
      go_wp2_with fail
      go_loopw [77] (fun t wv => ∃ j : Nat, t = .int .i64 (j : Int) ∧ j ≤ ln ∧ Hid (Below wz.heap.size wz wv)) (fun t _ => ln - (match t with | .int _ x => x.toNat | _ => 0))
      case atStart => exact ⟨0, rfl, Nat.zero_le _, Lib.hid (Below.refl _ _)⟩
      case round =>
        obtain ⟨j, rfl, hj, HV9⟩ := hrel
        rename World => wv
        by_cases hjl : j < ln
        case neg =>
          have hjn : ¬ (j : Int) < (ln : Int) := by omega
          go_wp2_with fail
          refine ⟨⟨k + 1, by go_num, by omega, Lib.hid (HWZ.out.trans (HV9.out.mono HWZ.out.size))⟩, ?_⟩
          show fn - ((k : Int) + 1).toNat < fn - (k : Int).toNat
          omega
        have hjn : (j : Int) < (ln : Int) := by omega
        obtain ⟨lg, lo, hlA, hcl⟩ := HLR.out.1.cells (by omega)
        obtain ⟨lg', lo', hlA', hcl'⟩ := HLR.out.2.cells (by omega)
        subst hlA hlA'
        have hjj : j < ls.length := by have := HLN.out; omega
        obtain ⟨s, hs⟩ : ∃ s, s = ls[j] := ⟨_, rfl⟩
        have hsx : (ls.map Value.string)[j]? = some (.string s) := by rw [List.getElem?_map, List.getElem?_eq_getElem hjj, hs]; rfl
        have HBV : Hid (Below w.heap.size w wv) := Lib.hid ((HW9.out.trans (HWZ.out.mono HW9.out.size)).trans (HV9.out.mono (Nat.le_trans HW9.out.size HWZ.out.size)))
        have v1 : wv.cell? ⟨lg, lo + j, none⟩ = some (.string s) := hcl wv HBV.out _ _ hsx
        have v2 : wv.cell? ⟨lg', lo' + j, none⟩ = some (.string s) := hcl' wv HBV.out _ _ hsx
        have v3 : wv.cell? ⟨b11, 1, none⟩ = some (.slice (some ⟨lg, lo, none⟩) ln lc) := (HB11'.out.below HV9.out HB11'.out.lt).cell 1
        have v4 : wv.cell? ⟨b12, 1, none⟩ = some (.slice (some ⟨lg', lo', none⟩) ln lc') := (HB12.out.below HV9.out HB12.out.lt).cell 1
        clear hs hsx hcl hcl' k1 k2 k3 k4
        go_wp2_with fail
        go_quiet (fail)
        obtain ⟨wu, hwu⟩ : ∃ wu, wu = wv.drewN nq := ⟨_, rfl⟩
        have HVU : Hid (Below wz.heap.size wz wu) := Lib.hid (by rw [hwu]; exact HV9.out.trans (below_drewB _ _ nq))
        rw [← hwu]
        clear hwu v1 v2 v3 v4
        go_wp2_with fail
        refine ⟨⟨j + 1, by go_num, by omega, HVU⟩, ?_⟩
        show ln - ((j : Int) + 1).toNat < ln - (j : Int).toNat
        omega
set_option maxRecDepth 100000 in
set_option maxHeartbeats 8000000 in
theorem SameStanzas_false (v v' : Value) (L L' : List St) (w : World) (h : StzAt w v L) (h' : StzAt w v' L') (hs : SameL false L L') (hL : L.length ≤ 1000000) (hF : ∀ s ∈ L, s.fs.length ≤ 1000000 ∧ ∀ f ∈ s.fs, f.ls.length ≤ 1000000) :
    Calls Tryd.prog 13 #[v, v', .bool false] w fun e w' => e = .returned (.bool true) ∧ Below w.heap.size w w' := by
  obtain ⟨G, A, c, xs, rfl, hc, hr, hv⟩ := h
  obtain ⟨G', A', c', xs', rfl, hc', hr', hv'⟩ := h'
  obtain ⟨hlen, hall⟩ := hs
  rw [← hlen] at hr' ⊢
  obtain ⟨n, hn⟩ : ∃ n, n = L.length := ⟨_, rfl⟩
  rw [← hn] at hr hr' ⊢
  have HR := Lib.hid hr
  have HR' := Lib.hid hr'
  have HV := Lib.hid hv
  have HV' := Lib.hid hv'
  have HALL := Lib.hid hall
  have HF := Lib.hid hF
  have HN := Lib.hid hn
  have HLEN := Lib.hid hlen
  rw [← hn] at hL
  clear hr hr' hv hv' hall hlen hF hn hc hc'
  go_enter Tryd.func13, Tryd.ntmps13
  go_wp2_with fail
  go_loopw [21] (fun t wr => ∃ i : Nat, t = .int .i64 (i : Int) ∧ i ≤ n ∧ Hid (Below w.heap.size w wr)) (fun t _ => n - (match t with | .int _ x => x.toNat | _ => 0))
  case atStart => exact ⟨0, rfl, Nat.zero_le _, Lib.hid (Below.refl _ _)⟩
  case round =>
    obtain ⟨i, rfl, hi, HB⟩ := hrel
    by_cases hlt : i < n
    case neg =>
      have hln : ¬ (i : Int) < (n : Int) := by omega
      go_wp2_with fail
      go_ret
      exact ⟨rfl, HB.out⟩
    have hln : (i : Int) < (n : Int) := by omega
    have hil : i < L.length := by have := HN.out; omega
    have hil' : i < L'.length := by have := HN.out; have := HLEN.out; omega
    obtain ⟨hf1, hl1⟩ := HALL.out i hil hil'
    have hF := HF.out _ (List.getElem_mem hil)
    obtain ⟨e1, fA, fc, fx, e2, _, fr, fv⟩ := HV.out.at_ i hil
    obtain ⟨e1', fA', fc', fx', e2', _, fr', fv'⟩ := HV'.out.at_ i hil'
    rw [← hf1] at e2' fr' fv'
    obtain ⟨fs, hfs⟩ : ∃ fs, fs = L[i].fs := ⟨_, rfl⟩
    rw [← hfs] at e2 e2' fr fr' fv fv' hF
    obtain ⟨fn, hfn⟩ : ∃ fn, fn = fs.length := ⟨_, rfl⟩
    rw [← hfn] at e2 e2' fr fr' hF
    obtain ⟨l1, hl1'⟩ : ∃ l1, l1 = L[i].line := ⟨_, rfl⟩
    obtain ⟨l2, hl2'⟩ : ∃ l2, l2 = L'[i].line := ⟨_, rfl⟩
    rw [← hl1', ← hl2'] at hl1
    rw [← hl1'] at e1
    rw [← hl2'] at e1'
    obtain ⟨g, o, rfl, hcg⟩ := HR.out.cells (by omega)
    obtain ⟨g', o', rfl, hcg'⟩ := HR'.out.cells (by omega)
    have k1 : wr.cell? ⟨g, o + i * 2, none⟩ = some (.int .i64 l1) := hcg wr HB.out _ _ e1
    have k2 : wr.cell? ⟨g, o + i * 2 + 1, none⟩ = some (.slice fA fn fc) := hcg wr HB.out _ _ e2
    have k1' : ∀ W, Below wr.heap.size wr W → W.cell? ⟨g', o' + i * 2, none⟩ = some (.int .i64 l2) ∧ W.cell? ⟨g', o' + i * 2 + 1, none⟩ = some (.slice fA' fn fc') := fun W hW => ⟨hcg' W (HB.out.trans (hW.mono HB.out.size)) _ _ e1', hcg' W (HB.out.trans (hW.mono HB.out.size)) _ _ e2'⟩
    have HK := Lib.hid k1'
    have HFR := Lib.hid (And.intro fr fv)
    have HFR' := Lib.hid (And.intro fr' fv')
    have HFN := Lib.hid hfn
    have HFF := Lib.hid hF
    have hfn1 := hF.1
    have HNE : Hid (false = true → ((l1 : Int) != l2) = false) := Lib.hid (fun h => by rw [hl1 (by first | trivial | exact absurd h (by decide))]; simp)
    clear hl1 e1 e2 e1' e2' fr fv fr' fv' k1' hcg hcg' hfs hfn hl1' hl2' hf1 hF
    go_upto_region 6 with fail
    obtain ⟨b8, hb8⟩ : ∃ b8, b8 = wr.heap.size := ⟨_, rfl⟩
    obtain ⟨w8, hw8⟩ : ∃ w8, w8 = wr.alloc (.cells #[.int .i64 l1, .slice fA fn fc] 34) := ⟨_, rfl⟩
    have HB8 : Hid (Blk w8 b8 34 #[.int .i64 l1, .slice fA fn fc]) := Lib.hid (by rw [hw8, hb8]; exact Blk.new wr _ _)
    have HW8 : Hid (Below wr.heap.size wr w8) := Lib.hid (by rw [hw8]; exact (Below.refl _ _).alloc (Nat.le_refl _) _)
    rw [← hw8, ← hb8]
    obtain ⟨q1, q2⟩ := HK.out w8 HW8.out
    clear hw8 hb8 k1 k2 HK
    go_upto_region 7 with fail
    obtain ⟨b9, hb9⟩ : ∃ b9, b9 = w8.heap.size := ⟨_, rfl⟩
    obtain ⟨w9, hw9⟩ : ∃ w9, w9 = w8.alloc (.cells #[.int .i64 l2, .slice fA' fn fc'] 34) := ⟨_, rfl⟩
    have HC9 : Hid (Blk w9 b9 34 #[.int .i64 l2, .slice fA' fn fc']) := Lib.hid (by rw [hw9, hb9]; exact Blk.new w8 _ _)
    have HC8 : Hid (Blk w9 b8 34 #[.int .i64 l1, .slice fA fn fc]) := Lib.hid (by rw [hw9]; exact HB8.out.alloc _)
    have HW9 : Hid (Below w.heap.size w w9) := Lib.hid ((HB.out.trans (HW8.out.mono HB.out.size)).trans (by rw [hw9]; exact (Below.refl _ _).alloc (Nat.le_trans HB.out.size HW8.out.size) _))
    rw [← hw9, ← hb9]
    clear hw9 hb9 HW8 HB8 q1 q2 HB
    have k1 : w9.cell? ⟨b8, 0, none⟩ = some (.int .i64 l1) := HC8.out.cell 0
    have k2 : w9.cell? ⟨b8, 1, none⟩ = some (.slice fA fn fc) := HC8.out.cell 1
    have k3 : w9.cell? ⟨b9, 0, none⟩ = some (.int .i64 l2) := HC9.out.cell 0
    have k4 : w9.cell? ⟨b9, 1, none⟩ = some (.slice fA' fn fc') := HC9.out.cell 1
    go_wp2_with fail
    clear k1 k2 k3 k4
    go_loopw [50] (fun t wx => ∃ k : Nat, t = .int .i64 (k : Int) ∧ k ≤ fn ∧ Hid (Below w9.heap.size w9 wx)) (fun t _ => fn - (match t with | .int _ x => x.toNat | _ => 0))
    case atStart => exact ⟨0, rfl, Nat.zero_le _, Lib.hid (Below.refl _ _)⟩
    case round =>
      obtain ⟨k, rfl, hk, HX⟩ := hrel
      rename World => wx
      have HBX : Hid (Below w.heap.size w wx) := Lib.hid (HW9.out.trans (HX.out.mono HW9.out.size))
      by_cases hkl : k < fn
      case neg =>
        have hkn : ¬ (k : Int) < (fn : Int) := by omega
        go_wp2_with fail
        refine ⟨⟨i + 1, by go_num, by omega, HBX⟩, ?_⟩
        show n - ((i : Int) + 1).toNat < n - (i : Int).toNat
        omega
      have hkn : (k : Int) < (fn : Int) := by omega
      have hkf : k < fs.length := by have := HFN.out; omega
      obtain ⟨a1, lv, a2, lA, lc, rfl, _, lr⟩ := HFR.out.2.at_ k hkf
      obtain ⟨a1', lv', a2', lA', lc', rfl, _, lr'⟩ := HFR'.out.2.at_ k hkf
      obtain ⟨fg, fo, hfA, hcf⟩ := HFR.out.1.cells (by omega)
      obtain ⟨fg', fo', hfA', hcf'⟩ := HFR'.out.1.cells (by omega)
      have hls := HFF.out.2 _ (List.getElem_mem hkf)
      obtain ⟨nm, hnm⟩ : ∃ nm, nm = fs[k].n := ⟨_, rfl⟩
      obtain ⟨ls, hlse⟩ : ∃ ls, ls = fs[k].ls := ⟨_, rfl⟩
      rw [← hnm] at a1 a1'
      rw [← hlse] at a2 a2' lr lr' hls
      obtain ⟨ln, hln2⟩ : ∃ ln, ln = ls.length := ⟨_, rfl⟩
      rw [← hln2] at a2 a2' lr lr' hls
      have HLR := Lib.hid (And.intro lr lr')
      have HLN := Lib.hid hln2
      have k1 : wx.cell? ⟨fg, fo + k * 2, none⟩ = some (.string nm) := hcf wx HBX.out _ _ a1
      have k2 : wx.cell? ⟨fg, fo + k * 2 + 1, none⟩ = some (.slice lA ln lc) := hcf wx HBX.out _ _ a2
      have HK : Hid (∀ W, Below wx.heap.size wx W → W.cell? ⟨fg', fo' + k * 2, none⟩ = some (.string nm) ∧ W.cell? ⟨fg', fo' + k * 2 + 1, none⟩ = some (.slice lA' ln lc') ∧ W.cell? ⟨b9, 1, none⟩ = some (.slice fA' fn fc')) := Lib.hid (fun W hW => ⟨hcf' W (HBX.out.trans (hW.mono HBX.out.size)) _ _ a1', hcf' W (HBX.out.trans (hW.mono HBX.out.size)) _ _ a2', (HC9.out.below (HX.out.trans (hW.mono HX.out.size)) HC9.out.lt).cell 1⟩)
      clear a1 a2 a1' a2' lr lr' hcf hcf' hnm hlse hln2
      subst hfA hfA'
      go_upto_region 12 with fail
      obtain ⟨b11, hb11⟩ : ∃ b11, b11 = wx.heap.size := ⟨_, rfl⟩
      obtain ⟨wy, hwy⟩ : ∃ wy, wy = wx.alloc (.cells #[.string nm, .slice lA ln lc] 40) := ⟨_, rfl⟩
      have HB11 : Hid (Blk wy b11 40 #[.string nm, .slice lA ln lc]) := Lib.hid (by rw [hwy, hb11]; exact Blk.new wx _ _)
      have HWY : Hid (Below wx.heap.size wx wy) := Lib.hid (by rw [hwy]; exact (Below.refl _ _).alloc (Nat.le_refl _) _)
      rw [← hwy, ← hb11]
      obtain ⟨q1, q2, q3⟩ := HK.out wy HWY.out
      clear hwy hb11 k1 k2 HK
      go_upto_region 13 with fail
      obtain ⟨b12, hb12⟩ : ∃ b12, b12 = wy.heap.size := ⟨_, rfl⟩
      obtain ⟨wz, hwz⟩ : ∃ wz, wz = wy.alloc (.cells #[.string nm, .slice lA' ln lc'] 40) := ⟨_, rfl⟩
      have HB12 : Hid (Blk wz b12 40 #[.string nm, .slice lA' ln lc']) := Lib.hid (by rw [hwz, hb12]; exact Blk.new wy _ _)
      have HB11' : Hid (Blk wz b11 40 #[.string nm, .slice lA ln lc]) := Lib.hid (by rw [hwz]; exact HB11.out.alloc _)
      have HWZ : Hid (Below w9.heap.size w9 wz) := Lib.hid ((HX.out.trans (HWY.out.mono HX.out.size)).trans (by rw [hwz]; exact (Below.refl _ _).alloc (Nat.le_trans HX.out.size HWY.out.size) _))
      rw [← hwz, ← hb12]
      clear hwz hb12 HWY HB11 q1 q2 q3 HX HBX
      have k1 : wz.cell? ⟨b11, 0, none⟩ = some (.string nm) := HB11'.out.cell 0
      have k2 : wz.cell? ⟨b11, 1, none⟩ = some (.slice lA ln lc) := HB11'.out.cell 1
      have k3 : wz.cell? ⟨b12, 0, none⟩ = some (.string nm) := HB12.out.cell 0
      have k4 : wz.cell? ⟨b12, 1, none⟩ = some (.slice lA' ln lc') := HB12.out.cell 1
      go_wp2_with fail
      go_loopw [77] (fun t wv => ∃ j : Nat, t = .int .i64 (j : Int) ∧ j ≤ ln ∧ Hid (Below wz.heap.size wz wv)) (fun t _ => ln - (match t with | .int _ x => x.toNat | _ => 0))
      case atStart => exact ⟨0, rfl, Nat.zero_le _, Lib.hid (Below.refl _ _)⟩
      case round =>
        obtain ⟨j, rfl, hj, HV9⟩ := hrel
        rename World => wv
        by_cases hjl : j < ln
        case neg =>
          have hjn : ¬ (j : Int) < (ln : Int) := by omega
          go_wp2_with fail
          refine ⟨⟨k + 1, by go_num, by omega, Lib.hid (HWZ.out.trans (HV9.out.mono HWZ.out.size))⟩, ?_⟩
          show fn - ((k : Int) + 1).toNat < fn - (k : Int).toNat
          omega
        have hjn : (j : Int) < (ln : Int) := by omega
        obtain ⟨lg, lo, hlA, hcl⟩ := HLR.out.1.cells (by omega)
        obtain ⟨lg', lo', hlA', hcl'⟩ := HLR.out.2.cells (by omega)
        subst hlA hlA'
        have hjj : j < ls.length := by have := HLN.out; omega
        obtain ⟨s, hs⟩ : ∃ s, s = ls[j] := ⟨_, rfl⟩
        have hsx : (ls.map Value.string)[j]? = some (.string s) := by rw [List.getElem?_map, List.getElem?_eq_getElem hjj, hs]; rfl
        have HBV : Hid (Below w.heap.size w wv) := Lib.hid ((HW9.out.trans (HWZ.out.mono HW9.out.size)).trans (HV9.out.mono (Nat.le_trans HW9.out.size HWZ.out.size)))
        have v1 : wv.cell? ⟨lg, lo + j, none⟩ = some (.string s) := hcl wv HBV.out _ _ hsx
        have v2 : wv.cell? ⟨lg', lo' + j, none⟩ = some (.string s) := hcl' wv HBV.out _ _ hsx
        have v3 : wv.cell? ⟨b11, 1, none⟩ = some (.slice (some ⟨lg, lo, none⟩) ln lc) := (HB11'.out.below HV9.out HB11'.out.lt).cell 1
        have v4 : wv.cell? ⟨b12, 1, none⟩ = some (.slice (some ⟨lg', lo', none⟩) ln lc') := (HB12.out.below HV9.out HB12.out.lt).cell 1
        clear hs hsx hcl hcl' k1 k2 k3 k4
        go_wp2_with fail
        go_quiet (fail)
        obtain ⟨wu, hwu⟩ : ∃ wu, wu = wv.drewN nq := ⟨_, rfl⟩
        have HVU : Hid (Below wz.heap.size wz wu) := Lib.hid (by rw [hwu]; exact HV9.out.trans (below_drewB _ _ nq))
        rw [← hwu]
        clear hwu v1 v2 v3 v4
        go_wp2_with fail
        refine ⟨⟨j + 1, by go_num, by omega, HVU⟩, ?_⟩
        show ln - ((j : Int) + 1).toNat < ln - (j : Int).toNat
        omega
theorem SameStanzas_any (b : Bool) (v v' : Value) (L L' : List St) (w : World) (h : StzAt w v L) (h' : StzAt w v' L') (hs : SameL b L L') (hL : L.length ≤ 1000000) (hF : ∀ s ∈ L, s.fs.length ≤ 1000000 ∧ ∀ f ∈ s.fs, f.ls.length ≤ 1000000) :
    Calls Tryd.prog 13 #[v, v', .bool b] w fun e w' => e = .returned (.bool true) ∧ Below w.heap.size w w' := by
  cases b with
  | true => exact SameStanzas_true v v' L L' w h h' hs hL hF
  | false => exact SameStanzas_false v v' L L' w h h' hs hL hF
end Go.Proofs.YtjkaigfpjebfbaaDoor
