/- StanzaGets: the walk, behind the argument. -/
import Derived.Test.YtjkaigfpjebfbaaDoorSt18
import Derived.Test.YtjkaigfpjebfbaaDoorSt16
import Derived.Test.YtjkaigfpjebfbaaDoorMono3
import Derived.Test.YtjkaigfpjebfbaaDoorSt5
import Derived.Deep.CutRange
namespace Go.Proofs.YtjkaigfpjebfbaaDoor
open Go.RowKit
set_option linter.unusedVariables false

theorem gotF_snoc (l : List Fd) (f : Fd) (nm : ByteArray) : gotF (l ++ [f]) nm = if (gotF l nm).2 then gotF l nm else if sameN f.n nm then (foldB f.ls, true) else gotF l nm := by
  unfold gotF
  rw [List.find?_append]
  cases h : l.find? (fun f => sameN f.n nm) with
  | some g => rfl
  | none =>
    by_cases h2 : sameN f.n nm = true
    · simp [h2]
    · simp [h2]
set_option maxRecDepth 100000 in
set_option maxHeartbeats 4000000 in
theorem stanzaGets_any (G : Nat → Prop) (ln : Int) (A : Option Addr) (n c : Nat) (fx : List Value) (l : List Fd) (nm ot : ByteArray) (w : World) (hr : RowG w G 2 A n fx) (hf : FV w G fx l) (hn : n = l.length) (hN : n ≤ 1048576) (hnc : n ≤ c) (hs : ∀ f ∈ l, f.n.size ≤ 1048576 ∧ lsum f.ls ≤ 1073741824) (hm : nm.size ≤ 1048576) (ho : ot.size ≤ 1048576)
    (hT : Lib.Utf8Tabs 0 1 w) (hM : MaxLenAt w) :
    Calls Tryd.prog 4 #[.agg #[.int .i64 ln, .slice A n c], .string nm, .string ot] w fun e w' => e = .returned (.bool true) ∧ Below w.heap.size w w' := by
  have HAW := Lib.hid (fun W (hW : Below w.heap.size w W) => awake_any W (tabs_later hT hW) (hM.later hW))
  have HLT : Hid (∀ W g, Below w.heap.size w W → Blk W g 34 #[.int .i64 ln, .slice A n c] → Calls Tryd.prog 15 #[.slice (some ⟨g, 0, none⟩) 1 1] W fun e w' => e = .returned (.bool (lightB [⟨ln, l⟩])) ∧ Below W.heap.size W w') := Lib.hid (fun W g hW hb => by
    have hu : Upd (fun _ => False) w W := Upd.of_below hW (fun k h1 h2 => by omega)
    refine light_any _ [⟨ln, l⟩] W ⟨fun k => G k ∨ k = g, some ⟨g, 0, none⟩, 1, [.int .i64 ln, .slice A n c], rfl, Nat.le_refl _, ⟨rfl, fun _ => ⟨g, 0, rfl, hb.lt, .inr rfl, fun j u hj => ?_⟩⟩, A, c, fx, [], ?_, ?_, ?_, ?_, rfl⟩ (by simp) (fun s hs' => ?_)
    · match j, hj with
      | 0, hj => injection hj with hj; subst hj; exact hb.cell 0
      | 1, hj => injection hj with hj; subst hj; exact hb.cell 1
    · rw [hn]
    · rw [← hn]; exact hnc
    · rw [← hn]; exact (hr.upd hu (fun _ _ h => h)).mono (fun k hk => .inl hk)
    · exact (hf.upd hu (fun _ _ h => h)).mono (fun k hk => .inl hk)
    · rw [List.mem_singleton] at hs'
      subst hs'
      exact ⟨by show l.length ≤ _; omega, fun f hf' => by have h1 := (hs f hf').2; have h2 := lsum_len f.ls; omega⟩)
  have HG : Hid (∀ W, Below w.heap.size w W → Calls Tryd.prog 16 #[.agg #[.int .i64 ln, .slice A n c], .string nm] W fun e w' => e = .returned (.tuple #[.string (gotF l nm).1, .bool (gotF l nm).2]) ∧ Below W.heap.size W w') := Lib.hid (fun W hW => by
    have hu : Upd (fun _ => False) w W := Upd.of_below hW (fun k h1 h2 => by omega)
    exact Get_any G ln A n c fx l nm W (hr.upd hu (fun _ _ h => h)) (hf.upd hu (fun _ _ h => h)) hn hN hs hm (tabs_later hT hW))
  have HSM : Hid (∀ (x y : ByteArray) (W : World), x.size ≤ 1048576 → y.size ≤ 1048576 → Calls Tryd.prog 17 #[.string x, .string y] W fun e w' => e = .returned (.bool (sameN x y)) ∧ Below W.heap.size W w') := Lib.hid (fun x y W h h2 => RSame_any x y W (by omega) (by omega))
  have HSS : Hid (∀ (x y : ByteArray) (W : World), x.size ≤ 1048576 → y.size ≤ 1048576 → Calls Tryd.prog 20 #[.string x, .string y] W fun e w' => e = .returned (.bool (sameN x y)) ∧ Below W.heap.size W w') := Lib.hid (fun x y W h h2 => SSame_any x y W (by omega) (by omega))
  have HR := Lib.hid hr
  have HF := Lib.hid hf
  have HN := Lib.hid hn
  have HS := Lib.hid hs
  have HT := Lib.hid hT
  clear hr hf hn hs hT hM hnc
  go_enter Tryd.func4, Tryd.ntmps4
  go_upto_region 1 with fail
  obtain ⟨b3, hb3⟩ : ∃ b3, b3 = w.heap.size := ⟨_, rfl⟩
  obtain ⟨w3, hw3⟩ : ∃ w3, w3 = w.alloc (.cells #[.int .i64 ln, .slice A n c] 34) := ⟨_, rfl⟩
  have HB3 : Hid (Blk w3 b3 34 #[.int .i64 ln, .slice A n c]) := Lib.hid (by rw [hw3, hb3]; exact Blk.new w _ _)
  have HW3 : Hid (Below w.heap.size w w3) := Lib.hid (by rw [hw3]; exact (Below.refl _ _).alloc (Nat.le_refl _) _)
  rw [← hw3, ← hb3]
  have HBB := Lib.hid hb3
  clear hw3 hb3
  have k0 : w3.cell? ⟨b3, 0, none⟩ = some (.int .i64 ln) := HB3.out.cell 0
  have k1 : w3.cell? ⟨b3, 1, none⟩ = some (.slice A n c) := HB3.out.cell 1
  have HLT3 : Hid (Calls Tryd.prog 15 #[.slice (some ⟨w3.heap.size, 0, none⟩) 1 1] (w3.alloc (.cells #[.int .i64 ln, .slice A n c] 34)) fun e w' => e = .returned (.bool (lightB [⟨ln, l⟩])) ∧ Below w3.heap.size w3 w') := Lib.hid ((HLT.out _ _ (HW3.out.alloc HW3.out.size _) (Blk.new w3 _ _)).mono fun e w' ⟨he, hb⟩ => ⟨he, ((Below.refl w3.heap.size w3).alloc (Nat.le_refl _) _).trans (hb.mono (by simp))⟩)
  obtain ⟨bb, hbb⟩ : ∃ bb, bb = lightB [⟨ln, l⟩] := ⟨_, rfl⟩
  rw [← hbb] at HLT3
  clear hbb HLT
  cases bb with
  | false =>
    go_wp2_with (first
      | (go_at_call 15; refine HLT3.out.mono ?_; rintro e w4 ⟨rfl, hb4⟩; have HB4 := Lib.hid (HW3.out.trans (hb4.mono HW3.out.size)); clear hb4)
      | (go_at_call 14; refine (HAW.out _ HB4.out).mono ?_; rintro e w5 ⟨rfl, hb5⟩; have HB5 := Lib.hid hb5; clear hb5))
    go_ret
    exact ⟨rfl, HB4.out.trans (HB5.out.mono HB4.out.size)⟩
  | true =>
    go_upto_region 3 with (go_at_call 15; refine HLT3.out.mono ?_; rintro e w4 ⟨rfl, hb4⟩; have HB4 := Lib.hid hb4; clear hb4)
    clear k0 k1
    have HA4 := Lib.hid (HB3.out.below HB4.out HB3.out.lt)
    have HW4 := Lib.hid (HW3.out.trans (HB4.out.mono HW3.out.size))
    have k0 : w4.cell? ⟨b3, 0, none⟩ = some (.int .i64 ln) := HA4.out.cell 0
    have k1 : w4.cell? ⟨b3, 1, none⟩ = some (.slice A n c) := HA4.out.cell 1
    obtain ⟨R, hR⟩ : ∃ R, R = gotF l nm := ⟨_, rfl⟩
    rw [← hR] at HG
    have HRR := Lib.hid hR
    clear hR HB4 HLT3
    go_upto_region 5 with (go_at_call 16; refine (HG.out _ HW4.out).mono ?_; rintro e w5 ⟨rfl, hb5⟩; have HB5 := Lib.hid hb5; clear hb5)
    have HB5W := Lib.hid (HW4.out.trans (HB5.out.mono HW4.out.size))
    have HA5 := Lib.hid (HA4.out.below HB5.out HA4.out.lt)
    clear k0 k1 HB5 HA4 HW4 HG HW3 HB3
    have k1 : w5.cell? ⟨b3, 1, none⟩ = some (.slice A n c) := HA5.out.cell 1
    go_wp2_with fail
    go_loopw [27, 9, 10] (fun t u1 u2 wr => ∃ (i : Nat) (Q : ByteArray × Bool), t = .int .i64 (i : Int) ∧ u1 = .string Q.1 ∧ u2 = .bool Q.2 ∧ i ≤ n ∧ Hid (Q = gotF (l.take i) nm) ∧ Hid (Below w.heap.size w wr)) (fun t _ _ _ => n - (match t with | .int _ x => x.toNat | _ => 0))
    case atStart => exact ⟨0, (⟨#[]⟩, false), rfl, rfl, rfl, Nat.zero_le _, Lib.hid rfl, HB5W⟩
    case round =>
      obtain ⟨i, Q, rfl, rfl, rfl, hi, HQ, HB⟩ := hrel
      obtain ⟨Q1, Q2⟩ := Q
      by_cases hlt : i < n
      case neg =>
        have hln : ¬ (i : Int) < (n : Int) := by omega
        have HE : Hid (R = (Q1, Q2)) := Lib.hid (by rw [HRR.out, HQ.out, List.take_of_length_le (by have := HN.out; omega)])
        obtain ⟨R1, R2⟩ := R
        have he := HE.out
        injection he with he1 he2
        subst he1 he2
        have HS1 := Lib.hid (fun W => HSS.out nm ot W hm ho)
        have HS2 := Lib.hid (fun W => HSM.out nm ot W hm ho)
        go_wp2_with (first
          | (go_at_call 20; refine (HS1.out _).mono ?_; rintro e w6 ⟨rfl, hb6⟩; have HB6 := Lib.hid (HB.out.trans (hb6.mono HB.out.size)); clear hb6)
          | (go_at_call 17; refine (HS2.out _).mono ?_; rintro e w7 ⟨rfl, hb7⟩; have HB7 := Lib.hid (HB6.out.trans (hb7.mono HB6.out.size)); clear hb7)
          | (go_at_call 14; refine (HAW.out _ HB7.out).mono ?_; rintro e w8 ⟨rfl, hb8⟩; have HB8 := Lib.hid (HB7.out.trans (hb8.mono HB7.out.size)); clear hb8))
        go_ret
        exact ⟨rfl, HB8.out⟩
      have hln : (i : Int) < (n : Int) := by omega
      have hil : i < l.length := by have := HN.out; omega
      obtain ⟨g, o, rfl, hcg⟩ := HR.out.cells (by omega)
      obtain ⟨e1, lv, e2, lA, lc, rfl, hlc, lr⟩ := HF.out.at_ i hil
      have hs := HS.out _ (List.getElem_mem hil)
      have HLV : Hid (LV w G (.slice lA l[i].ls.length lc) l[i].ls) := Lib.hid ⟨lA, lc, rfl, hlc, lr⟩
      have hsn := gotF_snoc (l.take i) l[i] nm
      rw [← take_one9 l i hil, ← HQ.out] at hsn
      obtain ⟨ls, hls⟩ : ∃ ls, ls = l[i].ls := ⟨_, rfl⟩
      rw [← hls] at e2 HLV hs hsn
      obtain ⟨lk, hlk⟩ : ∃ lk, lk = ls.length := ⟨_, rfl⟩
      rw [← hlk] at e2 HLV
      have k2 : wr.cell? ⟨g, o + i * 2, none⟩ = some (.string l[i].n) := hcg wr HB.out _ _ e1
      have k3 : wr.cell? ⟨g, o + i * 2 + 1, none⟩ = some (.slice lA lk lc) := hcg wr HB.out _ _ e2
      obtain ⟨x, hx⟩ : ∃ x, x = l[i].n := ⟨_, rfl⟩
      rw [← hx] at k2 hs hsn
      have HSX := Lib.hid (fun W => HSM.out x nm W hs.1 hm)
      obtain ⟨P, hP⟩ : ∃ P, P = gotF (l.take (i + 1)) nm := ⟨_, rfl⟩
      rw [← hP] at hsn
      have HP := Lib.hid hP
      have hs2 := hs.2
      have HFO : Hid (∀ W, Below w.heap.size w W → Calls Tryd.prog 19 #[.slice lA lk lc] W fun e w' => e = .returned (.string (foldB ls)) ∧ Lat W w') := Lib.hid (fun W hW => Fold_any G _ ls W (HLV.out.upd (Upd.of_below hW (T := fun _ => False) (fun k h1 h2 => by omega)) (fun _ _ h => h)) hs2 (tabs_later HT.out hW))
      have HRF : Hid (∀ W, Below w.heap.size w W → Calls Tryd.prog 18 #[.slice lA lk lc] W fun e w' => e = .returned (.string (foldB ls)) ∧ Lat W w') := Lib.hid (fun W hW => RFold_any G _ ls W (HLV.out.upd (Upd.of_below hW (T := fun _ => False) (fun k h1 h2 => by omega)) (fun _ _ h => h)) hs2)
      clear e1 e2 hcg hx hlk hlc lr hls hs hP k1
      go_upto_region 8 with fail
      obtain ⟨b, hb⟩ : ∃ b, b = wr.heap.size := ⟨_, rfl⟩
      obtain ⟨w7, hw7⟩ : ∃ w7, w7 = wr.alloc (.cells #[.string x, .slice lA lk lc] 40) := ⟨_, rfl⟩
      have HBK : Hid (Blk w7 b 40 #[.string x, .slice lA lk lc]) := Lib.hid (by rw [hw7, hb]; exact Blk.new wr _ _)
      have HB7 : Hid (Below w.heap.size w w7) := Lib.hid (by rw [hw7]; exact HB.out.alloc HB.out.size _)
      rw [← hw7, ← hb]
      clear hw7 hb k2 k3 HB
      have kb : w7.cell? ⟨b, 0, none⟩ = some (.string x) := HBK.out.cell 0
      obtain ⟨bb, hbb⟩ : ∃ bb, bb = (!Q2 && sameN x nm) := ⟨_, rfl⟩
      have HPB : Hid (P = if bb then (foldB ls, true) else (Q1, Q2)) := Lib.hid (by
        rw [hsn, hbb]
        cases Q2 <;> simp)
      clear hsn
      go_cut [38] from 31 to 38 (fun v wx => v = .bool bb ∧ Hid (Below w7.heap.size w7 wx))
      case first =>
        cases Q2 with
        | true =>
          have hb1 : bb = false := hbb
          clear hbb
          subst hb1
          go_wp2_with fail
          go_meet
          exact ⟨rfl, Lib.hid (Below.refl _ _)⟩
        | false =>
          have hb1 : bb = sameN x nm := hbb
          clear hbb
          rw [← hb1] at HSX
          clear hb1
          go_wp2_with (go_at_call 17; refine (HSX.out _).mono ?_; rintro e w8 ⟨rfl, hb8⟩; have HB8 := Lib.hid hb8; clear hb8)
          go_meet
          exact ⟨rfl, HB8⟩
      case rest =>
        obtain ⟨rfl, HX⟩ := hcut
        clear hbb kb
        rename World => w8
        have HB8 := Lib.hid (HB7.out.trans (HX.out.mono HB7.out.size))
        have HB8K : Hid (Blk w8 b 40 #[.string x, .slice lA lk lc]) := Lib.hid (HBK.out.below HX.out HBK.out.lt)
        have kc : w8.cell? ⟨b, 1, none⟩ = some (.slice lA lk lc) := HB8K.out.cell 1
        go_upto_if 38 with fail
        go_cut [9, 10] from 39 to 41 (fun v9 v10 wx => v9 = .string P.1 ∧ v10 = .bool P.2 ∧ Hid (Below w8.heap.size w8 wx))
        case first =>
          cases bb with
          | false =>
            have hp1 : P = (Q1, Q2) := HPB.out
            clear HPB
            subst hp1
            go_wp2_with fail
            go_meet
            exact ⟨rfl, rfl, Lib.hid (Below.refl _ _)⟩
          | true =>
            have hp1 : P = (foldB ls, true) := HPB.out
            clear HPB
            subst hp1
            go_wp2_with (go_at_call 18; refine (HRF.out _ HB8.out).mono ?_; rintro e w10 ⟨rfl, hb10⟩; have HB10 : Hid (Below w8.heap.size w8 w10) := Lib.hid hb10; clear hb10)
            go_meet
            exact ⟨rfl, rfl, HB10⟩
        case rest =>
          obtain ⟨rfl, rfl, HY⟩ := hcut
          rename World => w9
          have HB9 := Lib.hid (HB8.out.trans (HY.out.mono HB8.out.size))
          have HB9K : Hid (Blk w9 b 40 #[.string x, .slice lA lk lc]) := Lib.hid (HB8K.out.below HY.out HB8K.out.lt)
          have HKS : Hid (∀ W, Lat w9 W → W.cell? ⟨b, 1, none⟩ = some (.slice lA lk lc) ∧ W.cell? ⟨b, 0, none⟩ = some (.string x)) := Lib.hid (fun W hW => by
            have hW : Below w9.heap.size w9 W := hW
            exact ⟨(HB9K.out.below hW HB9K.out.lt).cell 1, (HB9K.out.below hW HB9K.out.lt).cell 0⟩)
          have HFO9 : Hid (∀ W, Lat w9 W → Calls Tryd.prog 19 #[.slice lA lk lc] W fun e w' => e = .returned (.string (foldB ls)) ∧ Lat W w') := Lib.hid (fun W hW => HFO.out W (HB9.out.trans (Below.mono (show Below w9.heap.size w9 W from hW) HB9.out.size)))
          have HRF9 : Hid (∀ W, Lat w9 W → Calls Tryd.prog 18 #[.slice lA lk lc] W fun e w' => e = .returned (.string (foldB ls)) ∧ Lat W w') := Lib.hid (fun W hW => HRF.out W (HB9.out.trans (Below.mono (show Below w9.heap.size w9 W from hW) HB9.out.size)))
          clear kc HPB HX HY HFO HRF HSX
          go_upto_region 10 with fail
          have HD : Hid (Lat w9 w9.drew) := Lib.hid ⟨rfl, rfl, rfl, Nat.le_refl _, fun _ _ => rfl⟩
          refine regionX (R := Lat) (by kernel_rfl) ?_
          refine takeX (⟨Lat.refl, fun _ _ _ => Lat.trans⟩) 0 rfl (by kernel_rfl) (by kernel_rfl) (by kernel_rfl) (by kernel_rfl) (fun _ _ _ _ _ h => h) (fun K hK => ?_)
          go_simp
          first
            | (refine hK _ ?_; clear hK K)
            | (apply Exists.intro
               refine ⟨fun W9 HW9 => ?_, hK _ ?_⟩
               (first | (go_simp; first | done | exact ⟨rfl, rfl⟩ | rfl))
               clear hK K)
          refine takeX (⟨Lat.refl, fun _ _ _ => Lat.trans⟩) 1 rfl (by kernel_rfl) (by kernel_rfl) (by kernel_rfl) (by kernel_rfl) (fun _ _ _ _ _ h => h) (fun K hK => ?_)
          go_simp
          first
            | (refine hK _ ?_; clear hK K)
            | (apply Exists.intro
               refine ⟨fun W9 HW9 => ?_, hK _ ?_⟩
               (first | (go_simp; first | done | exact ⟨rfl, rfl⟩ | rfl) | (obtain ⟨c1, c2⟩ := HKS.out W9 (HD.out.trans HW9); go_simp; first | done | exact ⟨rfl, rfl⟩ | rfl))
               clear hK K)
          refine takeX (⟨Lat.refl, fun _ _ _ => Lat.trans⟩) 2 rfl (by kernel_rfl) (by kernel_rfl) (by kernel_rfl) (by kernel_rfl) (fun _ _ _ _ _ h => h) (fun K hK => ?_)
          go_simp
          first
            | (refine hK _ ?_; clear hK K)
            | (apply Exists.intro
               refine ⟨fun W9 HW9 => ?_, hK _ ?_⟩
               (first | (go_simp; first | done | exact ⟨rfl, rfl⟩ | rfl) | (go_at_call 19; exact HFO9.out W9 (HD.out.trans HW9)))
               clear hK K)
          refine takeX (⟨Lat.refl, fun _ _ _ => Lat.trans⟩) 3 rfl (by kernel_rfl) (by kernel_rfl) (by kernel_rfl) (by kernel_rfl) (fun _ _ _ _ _ h => h) (fun K hK => ?_)
          go_simp
          first
            | (refine hK _ ?_; clear hK K)
            | (apply Exists.intro
               refine ⟨fun W9 HW9 => ?_, hK _ ?_⟩
               (first | (go_simp; first | done | exact ⟨rfl, rfl⟩ | rfl))
               clear hK K)
          refine takeX (⟨Lat.refl, fun _ _ _ => Lat.trans⟩) 4 rfl (by kernel_rfl) (by kernel_rfl) (by kernel_rfl) (by kernel_rfl) (fun _ _ _ _ _ h => h) (fun K hK => ?_)
          go_simp
          first
            | (refine hK _ ?_; clear hK K)
            | (apply Exists.intro
               refine ⟨fun W9 HW9 => ?_, hK _ ?_⟩
               (first | (go_simp; first | done | exact ⟨rfl, rfl⟩ | rfl) | (obtain ⟨c1, c2⟩ := HKS.out W9 (HD.out.trans HW9); go_simp; first | done | exact ⟨rfl, rfl⟩ | rfl))
               clear hK K)
          refine takeX (⟨Lat.refl, fun _ _ _ => Lat.trans⟩) 5 rfl (by kernel_rfl) (by kernel_rfl) (by kernel_rfl) (by kernel_rfl) (fun _ _ _ _ _ h => h) (fun K hK => ?_)
          go_simp
          first
            | (refine hK _ ?_; clear hK K)
            | (apply Exists.intro
               refine ⟨fun W9 HW9 => ?_, hK _ ?_⟩
               (first | (go_simp; first | done | exact ⟨rfl, rfl⟩ | rfl) | (go_at_call 18; exact HRF9.out W9 (HD.out.trans HW9)))
               clear hK K)
          refine soloX ⟨Lat.refl, fun _ _ _ => Lat.trans⟩ 6 rfl (by kernel_rfl) (fun W9 HW9 K hK => ?_)
          have HB8' := Lib.hid (HD.out.trans HW9)
          go_simp
          refine hK _ _ (Lat.refl _) ?_
          refine doneX (by kernel_rfl) (NoPanic.normal' ?_) _
          clear hK K
          have HBZ := Lib.hid (HB9.out.trans (Below.mono (show Below w9.heap.size w9 W9 from HB8'.out) HB9.out.size))
          go_wp2_with fail
          refine ⟨⟨i + 1, P, by go_num, rfl, rfl, by omega, HP, HBZ⟩, ?_⟩
          show n - ((i : Int) + 1).toNat < n - (i : Int).toNat
          omega
end Go.Proofs.YtjkaigfpjebfbaaDoor
