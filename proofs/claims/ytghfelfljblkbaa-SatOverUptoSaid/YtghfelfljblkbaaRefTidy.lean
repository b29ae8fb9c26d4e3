/- The reference's Tidy, SameLits. -/
import Derived.Test.YtghfelfljblkbaaVar
import Derived.BigQuiet
import Derived.Deep.QuietTactic
import Derived.Deep.DeepCutAuto
import Derived.Deep.CutBlock
import Derived.Deep.RegionLaw
namespace Go.Proofs.Ytghfelfljblkbaa
open Go.RowKit Go.Sort
set_option linter.unusedVariables false

set_option maxRecDepth 100000 in
theorem size_any (x : Int) (hx : Ok x) (w : World) : Calls Try.prog 99 #[.int .i64 x] w fun e w' => e = .returned (.int .u64 (Cf.va x : Int)) ∧ w = w' := by
  obtain ⟨h1, h2⟩ := hx
  by_cases h : x < 0
  · obtain ⟨v, hv⟩ : ∃ v : Nat, v = Cf.va x := ⟨_, rfl⟩
    rw [← hv]
    have hv2 : (v : Int) = -x := by rw [hv]; unfold Cf.va; omega
    have HV := Lib.hid hv2
    clear hv hv2
    go_enter Try.func99, Try.ntmps99
    go_wp2_with fail
    go_ret
    refine ⟨ret_int ?_, rfl⟩
    rw [HV.out]
    omega
  · obtain ⟨v, hv⟩ : ∃ v : Nat, v = Cf.va x := ⟨_, rfl⟩
    rw [← hv]
    have hv2 : (v : Int) = x := by rw [hv]; unfold Cf.va; omega
    have HV := Lib.hid hv2
    clear hv hv2
    go_enter Try.func99, Try.ntmps99
    go_wp2_with fail
    go_ret
    refine ⟨ret_int ?_, rfl⟩
    rw [HV.out]
    try omega
set_option maxRecDepth 100000 in
theorem less_any (x y : Int) (hx : Ok x) (hy : Ok y) (w : World) : Calls Try.prog 70 #[.int .i64 x, .int .i64 y] w fun e w' => e = .returned (.bool (decide (Cf.va x < Cf.va y))) ∧ w = w' := by
  have HX := Lib.hid (fun W => size_any x hx W)
  have HY := Lib.hid (fun W => size_any y hy W)
  obtain ⟨a, ha⟩ : ∃ a, a = Cf.va x := ⟨_, rfl⟩
  obtain ⟨b, hb⟩ : ∃ b, b = Cf.va y := ⟨_, rfl⟩
  rw [← ha] at HX ⊢
  rw [← hb] at HY ⊢
  clear ha hb hx hy
  go_enter Try.func70, Try.ntmps70
  go_wp2_with fail
  go_at_call 99
  refine (HX.out _).mono ?_
  rintro e w' ⟨rfl, rfl⟩
  go_wp2_with fail
  go_at_call 99
  refine (HY.out _).mono ?_
  rintro e w' ⟨rfl, rfl⟩
  go_wp2_with fail
  go_ret
  exact ⟨ret_bool (by first | rfl | simp), rfl⟩
theorem lit_row : (Try.prog.info? 37).map (fun i => (i.zero, i.size, i.bytes)) = some (some (.int .i64 0), 1, 8) := by kernel_rfl
theorem Lits.reads {w : World} {A : Option Addr} {n : Nat} {zs : List Int} (h : Lits w A n zs) : Reads w w.heap.size 1 A n (zs.map (Value.int .i64)) :=
  ⟨by simp [h.1], fun hn => by
    obtain ⟨b, o, e, hb, hc⟩ := h.2.2 hn
    refine ⟨_, e, hb, fun j u hu => ?_⟩
    have hj : j < zs.length := by
      rcases Nat.lt_or_ge j zs.length with h1 | h1
      · exact h1
      · rw [List.getElem?_eq_none (by simpa using h1)] at hu; cases hu
    rw [addL_none, hc j (by have := h.1; omega)]
    rw [List.getElem?_map, List.getElem?_eq_getElem hj] at hu
    rw [List.getD_eq_getElem?_getD, List.getElem?_eq_getElem hj]
    exact hu⟩
theorem Lits.cut {w : World} {g o n : Nat} {zs : List Int} (h : Lits w (some ⟨g, o, none⟩) n zs) (a c : Nat) (hac : a + c ≤ n) : Lits w (some ⟨g, o + a, none⟩) c ((zs.drop a).take c) := by
  obtain ⟨h1, h2, h3⟩ := h
  refine ⟨by rw [List.length_take, List.length_drop]; omega, fun x hx => h2 _ (List.mem_of_mem_drop (List.mem_of_mem_take hx)), fun h0 => ?_⟩
  obtain ⟨b, o', e, hb, hc⟩ := h3 (by omega)
  cases e
  refine ⟨g, o + a, rfl, hb, fun j hj => ?_⟩
  rw [Nat.add_assoc, hc (a + j) (by omega)]
  congr 2
  rw [List.getD_eq_getElem?_getD, List.getD_eq_getElem?_getD, List.getElem?_take, if_pos hj, List.getElem?_drop]
theorem ints_one (zs : List Int) : ∀ u ∈ zs.map (Value.int .i64), u.oneCell' = true := fun u hu => by
  obtain ⟨x, _, rfl⟩ := List.mem_map.1 hu
  rfl
theorem reads_one {w : World} {g t B : Nat} {v : Value} (h : Blk w g t #[v]) (hB : g < B) : Reads w B 1 (some ⟨g, 0, none⟩) 1 [v] :=
  ⟨rfl, fun _ => ⟨_, rfl, hB, fun j u hu => by
    match j, hu with
    | 0, hu => cases hu; rw [addL_none, h.cell]; rfl
    | j + 1, hu => simp at hu⟩⟩
theorem ownL_shape {w : World} {base : Nat} {e : TypeId} {size n : Nat} {v : Value} {xs : List Value} (h : w.ownsRow base e size v n xs) : ∃ A c, v = .slice A n c := by
  rcases h.2 with ⟨rfl, hn⟩ | ⟨g, cap, cur, rfl, _⟩
  · exact ⟨none, 0, by rw [hn]⟩
  · exact ⟨_, _, rfl⟩
theorem ownL_base {w : World} {base base' : Nat} {v : Value} {zs : List Int} (h : OwnL w base v zs) (hb : base' ≤ base) : OwnL w base' v zs := by
  refine ⟨h.1, ?_⟩
  rcases h.2 with h2 | ⟨g, cap, cur, hv, hg, h3⟩
  · exact .inl h2
  · exact .inr ⟨g, cap, cur, hv, Nat.le_trans hb hg, h3⟩
/-- What a Tidy hands back. -/
def TidyRes (w w' : World) (e : Ending) : Option (List Int) → Prop
  | none => e = .returned (.tuple #[.slice none 0 0, .bool false])
  | some r => ∃ v, e = .returned (.tuple #[v, .bool true]) ∧ OwnL w' w.heap.size v r
theorem OwnL.at {w : World} {base m c : Nat} {A : Option Addr} {o : List Int} (h : OwnL w base (.slice A m c) o) (hm : m = o.length) {j : Nat} (hj : j < m) : ∃ g, A = some ⟨g, 0, none⟩ ∧ base ≤ g ∧ g < w.heap.size ∧ w.cell? ⟨g, j, none⟩ = some (.int .i64 (o.getD j 0)) ∧ m ≤ c ∧ c ≤ maxLen := by
  rcases h.2 with ⟨h0, hn⟩ | ⟨g, cap, cur, hv, hbg, hg, hnc, hcm, hcs, htake⟩
  · omega
  · have h1 := World.ownsRow.cellAt (h := by rw [hv] at h; exact h) j (by omega)
    rw [List.getElem?_map, List.getElem?_eq_getElem (by omega)] at h1
    cases hv
    exact ⟨g, rfl, hbg, Blk.lt hg, by rw [h1, List.getD_eq_getElem?_getD, List.getElem?_eq_getElem (by omega)]; rfl, by omega, hcm⟩
set_option maxRecDepth 100000 in
set_option maxHeartbeats 2000000 in
theorem RefTidy_any (A : Option Addr) (n c : Nat) (zs : List Int) (w : World) (h : Lits w A n zs) (hn : n ≤ 1048576) :
    Calls Try.prog 24 #[.slice A n c] w fun e w' => Below w.heap.size w w' ∧ TidyRes w w' e (Cf.tidy zs) := by
  obtain ⟨i0, hi0, hz0, hz1, hz2⟩ := info_parts lit_row
  have HL := Lib.hid h
  obtain ⟨O, hO⟩ : ∃ O, O = Cf.tidy zs := ⟨_, rfl⟩
  rw [← hO]
  have HO : Hid (O = (zs.drop 0).foldl Cf.step (some [])) := Lib.hid hO
  have HZL := Lib.hid h.1
  clear h hO
  go_enter Try.func24, Try.ntmps24
  go_wp2_with fail
  go_loopw [4, 10] (fun a t wr => ∃ (m i : Nat) (A' : Option Addr) (c' : Nat) (o : List Int), a = .slice A' m c' ∧ t = .int .i64 (i : Int) ∧ Hid (OwnL wr w.heap.size (.slice A' m c') o) ∧ Hid (m = o.length) ∧ Hid (∀ z ∈ o, Ok z) ∧ Hid (Below w.heap.size w wr) ∧ i ≤ n ∧ m ≤ i ∧ Hid (O = (zs.drop i).foldl Cf.step (some o))) (fun _ t _ => n - (match t with | .int _ x => x.toNat | _ => 0))
  case atStart => exact ⟨0, 0, none, 0, [], rfl, rfl, Lib.hid (World.ownsRow_nil _ _ _ _), Lib.hid rfl, Lib.hid (by simp), Lib.hid (Below.refl _ _), Nat.zero_le _, Nat.le_refl _, HO⟩
  case round =>
    obtain ⟨m, i, A', c', o, rfl, rfl, HOW, HML, HOK, HB, hi, hm, HG⟩ := hrel
    by_cases hlt : i < n
    · obtain ⟨b, oo, e, hbl, hcell⟩ := HL.out.2.2 (by omega)
      subst e
      obtain ⟨l, hl⟩ : ∃ l, l = zs.getD i 0 := ⟨_, rfl⟩
      have kl : wr.cell? ⟨b, oo + i, none⟩ = some (.int .i64 l) := by rw [hl]; exact (HB.out.cell hbl).trans (hcell i hlt)
      have hok : Ok l := by rw [hl]; exact HL.out.ok i
      have HOKL := Lib.hid hok
      have hl1 : -9223372036854775808 ≤ l := hok.1
      have hl2 : l ≤ 9223372036854775807 := hok.2
      have HG2 : Hid (O = (zs.drop (i + 1)).foldl Cf.step (Cf.step (some o) l)) := Lib.hid (by
        have hiz : i < zs.length := by have := HZL.out; omega
        rw [HG.out, List.drop_eq_getElem_cons hiz, List.foldl_cons, hl, List.getD_eq_getElem?_getD, List.getElem?_eq_getElem hiz]; rfl)
      clear hcell hbl hl HG hok
      by_cases h0 : l = 0
      · subst h0
        have HEQ : Hid (O = none) := Lib.hid (by rw [HG2.out]; exact Cf.step_none _)
        clear HG2
        go_wp2_with fail
        go_ret2
        exact ⟨HB.out, by rw [HEQ.out]; rfl⟩
      · have h0' : (l == 0) = false := by simpa using h0
        have HST : Hid (Cf.step (some o) l = Cf.ins o l) := Lib.hid (by unfold Cf.step; dsimp only; rw [if_neg h0])
        go_upto_block 2 with fail
        go_cut [7] (fun v7 wx => wx = wr ∧ ∃ k : Nat, v7 = .int .i64 (k : Int) ∧ k ≤ m ∧ Hid (∀ j, j < k → Cf.va (o.getD j 0) < Cf.va l) ∧ Hid (k < m → ¬ Cf.va (o.getD k 0) < Cf.va l))
        case first =>
          go_wp2_with fail
          go_loopw [7] (fun t wx => ∃ k : Nat, t = .int .i64 (k : Int) ∧ k ≤ m ∧ Hid (∀ j, j < k → Cf.va (o.getD j 0) < Cf.va l) ∧ wx = wr) (fun t _ => m - (intOf t).toNat)
          case atStart => exact ⟨0, rfl, Nat.zero_le _, Lib.hid (fun j hj => by omega), rfl⟩
          case round =>
            obtain ⟨k, rfl, hk, HK, rfl⟩ := hrel
            by_cases hkm : k < m
            · obtain ⟨g, hA, hg1, hg2, kk, hcc, hcm⟩ := HOW.out.at HML.out hkm
              subst hA
              obtain ⟨y, hy⟩ : ∃ y, y = o.getD k 0 := ⟨_, rfl⟩
              have hyo : Ok y := by
                rw [hy, List.getD_eq_getElem?_getD, List.getElem?_eq_getElem (by have := HML.out; omega)]
                exact HOK.out _ (List.getElem_mem _)
              rw [← hy] at kk
              have hk1 : (k : Int) < (m : Int) := by omega
              have HLS := Lib.hid (fun W => less_any y l hyo HOKL.out W)
              have HY := Lib.hid hy
              obtain ⟨bb, hbb⟩ : ∃ bb, bb = decide (Cf.va y < Cf.va l) := ⟨_, rfl⟩
              rw [← hbb] at HLS
              have HBB := Lib.hid hbb
              clear hy hyo hbb
              cases bb with
              | true =>
                go_wp2_with (go_at_call 70; refine (HLS.out _).mono ?_; rintro e w' ⟨rfl, rfl⟩)
                go_roundw
                case rel => exact ⟨k + 1, by go_num, by omega, Lib.hid (fun j hj => by
                  rcases Nat.lt_or_ge j k with h | h
                  · exact HK.out j h
                  · have e : j = k := by omega
                    rw [e, ← HY.out]
                    exact of_decide_eq_true HBB.out.symm), by first | rfl | trivial⟩
                case measure => simp [intOf]; omega
              | false =>
                go_wp2_with (go_at_call 70; refine (HLS.out _).mono ?_; rintro e w' ⟨rfl, rfl⟩)
                go_meet
                exact ⟨rfl, k, rfl, hk, HK, Lib.hid (fun _ => by rw [← HY.out]; exact of_decide_eq_false HBB.out.symm)⟩
            · have hk1 : ¬ (k : Int) < (m : Int) := by omega
              go_wp2_with fail
              go_meet
              exact ⟨rfl, k, rfl, hk, HK, Lib.hid (fun h => absurd h hkm)⟩
        case rest =>
          obtain ⟨rfl, k, rfl, hk, HK, HNK⟩ := hcut
          obtain ⟨y, hy⟩ : ∃ y, y = o.getD k 0 := ⟨_, rfl⟩
          have HX : Hid (k < m → ∃ g, A' = some ⟨g, 0, none⟩ ∧ wc.cell? ⟨g, k, none⟩ = some (.int .i64 y) ∧ Ok y) := Lib.hid (fun hkm => by
            obtain ⟨g, hA, hg1, hg2, kk, hcc, hcm⟩ := HOW.out.at HML.out hkm
            refine ⟨g, hA, by rw [hy]; exact kk, ?_⟩
            rw [hy, List.getD_eq_getElem?_getD, List.getElem?_eq_getElem (by have := HML.out; omega)]
            exact HOK.out _ (List.getElem_mem _))
          have HY := Lib.hid hy
          clear hy
          go_upto_region 10 with fail
          go_cut [41] (fun v wx => wx = wc ∧ v = .bool (decide (k < m ∧ y = l)))
          case first =>
            by_cases hkm : k < m
            · obtain ⟨g, hA, kk, hy⟩ := HX.out hkm
              subst hA
              have hk1 : (k : Int) < (m : Int) := by omega
              by_cases hyl : y = l
              · subst hyl
                go_wp2_with fail
                go_meet
                exact ⟨rfl, by simp [hkm]⟩
              · have hb : (y == l) = false := by simpa using hyl
                go_wp2_with fail
                go_meet
                exact ⟨rfl, by simp [hyl]⟩
            · have hk1 : ¬ (k : Int) < (m : Int) := by omega
              have hd2 : decide ((k : Int) < (m : Int)) = false := decide_eq_false hk1
              go_wp2_with fail
              go_meet
              exact ⟨rfl, by simp [hkm]⟩
          case rest =>
            obtain ⟨rfl, rfl⟩ := hcut
            by_cases hc1 : k < m ∧ y = l
            · have hd : decide (k < m ∧ y = l) = true := decide_eq_true hc1
              have HIS : Hid (Cf.ins o l = some o) := Lib.hid (Cf.ins_is HK.out (fun h => HNK.out (by rw [HML.out]; exact h)) (by rw [← HML.out]; exact hc1.1) (by rw [← HY.out]; exact hc1.2))
              rw [hd]
              clear hd
              go_wp2_with fail
              refine ⟨⟨m, i + 1, A', c', o, rfl, by go_num, HOW, HML, HOK, HB, by omega, by omega, Lib.hid (by rw [HG2.out, HST.out, HIS.out])⟩, ?_⟩
              show n - ((i : Int) + 1).toNat < n - (i : Int).toNat
              omega
            · have hd : decide (k < m ∧ y = l) = false := decide_eq_false hc1
              have HC1 := Lib.hid hc1
              rw [hd]
              clear hd hc1
              go_upto_region 11 with fail
              go_cut [60] (fun v wx => wx = wc ∧ v = .bool (decide (k < m ∧ Cf.va y = Cf.va l)))
              case first =>
                by_cases hkm : k < m
                · obtain ⟨g, hA, kk, hy⟩ := HX.out hkm
                  subst hA
                  have hk1 : (k : Int) < (m : Int) := by omega
                  have hyl : y ≠ l := fun e => HC1.out ⟨hkm, e⟩
                  obtain ⟨hy1, hy2⟩ := hy
                  by_cases hv : Cf.va y = Cf.va l
                  · have hyn : y = -l := (Cf.va_cases hv).resolve_left hyl
                    have hl3 : -9223372036854775808 ≤ -l := by omega
                    have hl4 : -l ≤ 9223372036854775807 := by omega
                    have hln : (l != -l) = true := by simp; omega
                    subst hyn
                    go_wp2_with fail
                    go_meet
                    exact ⟨rfl, by simp [hkm, hv]⟩
                  · by_cases hmin : l = -9223372036854775808
                    · subst hmin
                      have hb : (y == -9223372036854775808) = false := by simpa using hyl
                      have hw : wrap64 9223372036854775808 = -9223372036854775808 := by first | rfl | (unfold wrap64; omega)
                      go_wp2_with fail
                      go_meet
                      exact ⟨rfl, by simp [hv]⟩
                    · have hl4 : -l ≤ 9223372036854775807 := by omega
                      have hl3 : -9223372036854775808 ≤ -l := by omega
                      have hb : (y == -l) = false := by
                        simp only [beq_eq_false_iff_ne]
                        exact fun e => hv (by rw [e, Cf.va_neg])
                      go_wp2_with fail
                      go_meet
                      exact ⟨rfl, by simp [hv]⟩
                · have hd2 : decide ((k : Int) < (m : Int)) = false := decide_eq_false (by omega)
                  go_wp2_with fail
                  go_meet
                  exact ⟨rfl, by simp [hkm]⟩
              case rest =>
                obtain ⟨rfl, rfl⟩ := hcut
                by_cases hc2 : k < m ∧ Cf.va y = Cf.va l
                · have hd : decide (k < m ∧ Cf.va y = Cf.va l) = true := decide_eq_true hc2
                  have HEQ : Hid (O = none) := Lib.hid (by
                    rw [HG2.out, HST.out, Cf.ins_bad HK.out (fun h => HNK.out (by rw [HML.out]; exact h)) (by rw [← HML.out]; exact hc2.1) (by rw [← HY.out]; exact fun e => HC1.out ⟨hc2.1, e⟩) (by rw [← HY.out]; exact hc2.2)]
                    exact Cf.step_none _)
                  rw [hd]
                  clear hd hc2 HG2
                  go_wp2_with fail
                  go_ret2
                  exact ⟨HB.out, by rw [HEQ.out]; rfl⟩
                · have hd : decide (k < m ∧ Cf.va y = Cf.va l) = false := decide_eq_false hc2
                  have HEND : Hid (Cf.ins o l = some (o.take k ++ l :: o.drop k)) := Lib.hid (Cf.ins_end (by rw [← HML.out]; exact hk) HK.out (fun h => HNK.out (by rw [HML.out]; exact h)) (by rw [← HML.out, ← HY.out]; exact HC1.out) (by rw [← HML.out, ← HY.out]; exact hc2))
                  rw [hd]
                  clear hd hc2
                  go_upto_region 13 with fail
                  have hlits : Lits wc A' m o := by
                    obtain ⟨A2, c2, hv, h1, _⟩ := OwnL.lits HOW.out HOK.out
                    rw [← HML.out] at hv h1
                    cases hv
                    exact h1
                  have HLO := Lib.hid hlits
                  have HNEW : Hid (O = (zs.drop (i + 1)).foldl Cf.step (some (o.take k ++ l :: o.drop k))) := Lib.hid (by rw [HG2.out, HST.out, HEND.out])
                  have HOK2 : Hid (∀ z ∈ o.take k ++ l :: o.drop k, Ok z) := Lib.hid (fun z hz => by
                    rcases List.mem_append.1 hz with h | h
                    · exact HOK.out z (List.mem_of_mem_take h)
                    · rcases List.mem_cons.1 h with h | h
                      · rw [h]; exact HOKL.out
                      · exact HOK.out z (List.mem_of_mem_drop h))
                  have hb0 : Below wc.heap.size wc wc.drew := ⟨rfl, rfl, rfl, Nat.le_refl _, fun _ _ => rfl⟩
                  have hb1 : Below wc.heap.size wc (wc.drew.alloc (.cells #[.int .i64 l] 37)) := hb0.alloc (Nat.le_refl _) _
                  have hmb : m ≤ 1048576 := by omega
                  have HBs := Lib.hid HB.out.size
                  clear hlits HG2 HST HEND HK HNK HX HY HC1
                  obtain ⟨X1, hX1⟩ : ∃ X1, X1 = (o.take k).map (Value.int .i64) := ⟨_, rfl⟩
                  obtain ⟨X3, hX3⟩ : ∃ X3, X3 = (o.drop k).map (Value.int .i64) := ⟨_, rfl⟩
                  have HE1 := Lib.hid hX1
                  have HE3 := Lib.hid hX3
                  have HI1 : Hid (∀ u ∈ X1, u.oneCell' = true) := Lib.hid (by rw [hX1]; exact ints_one _)
                  have HI3 : Hid (∀ u ∈ X3, u.oneCell' = true) := Lib.hid (by rw [hX3]; exact ints_one _)
                  cases A' with
                  | none =>
                    have hz : m = 0 ∧ c' = 0 := by
                      rcases HOW.out.2 with ⟨h0, _⟩ | ⟨g, cap, cur, h0, _⟩
                      · cases h0; exact ⟨rfl, rfl⟩
                      · cases h0
                    obtain ⟨rfl, rfl⟩ := hz
                    obtain rfl : k = 0 := by omega
                    have ho : o = [] := List.eq_nil_of_length_eq_zero HML.out.symm
                    have HX1 : Hid (∀ W, Below wc.heap.size wc W → Reads W wc.heap.size 1 none 0 X1) := Lib.hid (fun W hW => by rw [hX1]; exact Reads.none_)
                    have HX3 : Hid (∀ W, Below wc.heap.size wc W → Reads W wc.heap.size 1 none 0 X3) := Lib.hid (fun W hW => by rw [hX3, ho]; exact Reads.none_)
                    clear hX1 hX3 ho
                    go_region_law (first
                      | (refine step_append_any _ (by rfl) (.const (.slice none 0 0)) (.tmp 63) 22 (by rfl) wc.heap.size 37 i0 _ 1 8 Try.underlying22 hi0 hz0 hz1 hz2 rfl (by omega) (.slice none 0 0) 0 [] (by rfl) (World.ownsRow_nil _ _ _ _) wc.heap.size none 0 0 X1 (by simp [Act.eval, Act.put]) ?_ HI1.out (by unfold maxLen; omega) (by omega) ?_ ?_
                         · exact HX1.out _ (by assumption)
                         · exact (show Below wc.heap.size wc _ from by assumption).size
                         intro v1 wa1 hown hgr hat
                         have hbw1 : Below wc.heap.size wc wa1 := (show Below wc.heap.size wc _ from by assumption).grown hgr (show Below wc.heap.size wc _ from by assumption).size (fun k hk => by cases hk)
                         have hbw2 : Below wc.heap.size wc (wa1.alloc (.cells #[.int .i64 l] 37)) := hbw1.alloc hbw1.size _
                         have HBK : Hid (Blk (wc.drew.alloc (.cells #[.int .i64 l] 37)) wc.heap.size 37 #[.int .i64 l]) := Lib.hid (Blk.new _ _ _)
                         first
                           | (have HBK1 : Hid (Blk wa1 wc.heap.size 37 #[.int .i64 l]) := Lib.hid (HBK.out.grown hgr (fun e => by cases e)))
                           | skip
                         rw [Nat.zero_add, List.nil_append] at hown
                         obtain ⟨A5, c5, rfl⟩ := ownL_shape hown
                         have HO1 := Lib.hid hown
                         clear hown hgr hat)
                      | (refine step_append_any _ (by rfl) (.tmp 64) (.tmp 66) 22 (by rfl) wc.heap.size 37 i0 _ 1 8 Try.underlying22 hi0 hz0 hz1 hz2 rfl (by omega) (.slice A5 0 c5) 0 X1 (by simp [Act.eval]) (HO1.out.alloc _) (wa1.heap.size + 1) (some ⟨wa1.heap.size, 0, none⟩) 1 1 [.int .i64 l] (by simp [Act.eval]) (reads_one (Blk.new _ _ _) (by omega)) (by simp [Value.oneCell']) (by unfold maxLen; omega) (by omega) ?_ ?_
                         · exact hbw2.size
                         intro v2 wa2 hown hgr hat
                         have hbw3 : Below wc.heap.size wc wa2 := hbw2.grown hgr hbw2.size (fun q hq => (HO1.out.lt q hq).1)
                         obtain ⟨A6, c6, rfl⟩ := ownL_shape hown
                         have HO2 := Lib.hid hown
                         clear hown hgr hat)
                      | (refine step_append_any _ (by rfl) (.tmp 64) (.tmp 66) 22 (by rfl) wc.heap.size 37 i0 _ 1 8 Try.underlying22 hi0 hz0 hz1 hz2 rfl (by omega) (.slice A5 0 c5) 0 X1 (by simp [Act.eval]) HO1.out (wc.heap.size + 1) (some ⟨wc.heap.size, 0, none⟩) 1 1 [.int .i64 l] (by simp [Act.eval]) (reads_one HBK1.out (by omega)) (by simp [Value.oneCell']) (by unfold maxLen; omega) (by omega) ?_ ?_
                         · exact hbw1.size
                         intro v2 wa2 hown hgr hat
                         have hbw3 : Below wc.heap.size wc wa2 := hbw1.grown hgr hbw1.size (fun q hq => (HO1.out.lt q hq).1)
                         obtain ⟨A6, c6, rfl⟩ := ownL_shape hown
                         have HO2 := Lib.hid hown
                         clear hown hgr hat)
                      | (refine step_append_any _ (by rfl) (.tmp 67) (.tmp 70) 22 (by rfl) wc.heap.size 37 i0 _ 1 8 Try.underlying22 hi0 hz0 hz1 hz2 rfl (by omega) (.slice A6 (0 + 1) c6) (0 + 1) (X1 ++ [.int .i64 l]) (by simp [Act.eval]) HO2.out wc.heap.size none 0 0 X3 (by simp [Act.eval]) ?_ HI3.out (by unfold maxLen; omega) (by omega) ?_ ?_
                         · exact HX3.out _ hbw3
                         · exact hbw3.size
                         intro v3 wa3 hown hgr hat
                         have hbw4 : Below wc.heap.size wc wa3 := hbw3.grown hgr hbw3.size (fun q hq => (HO2.out.lt q hq).1)
                         obtain ⟨A7, c7, rfl⟩ := ownL_shape hown
                         have HO3 := Lib.hid hown
                         clear hown hgr hat))
                    all_goals
                      go_wp2_with fail
                      have hown3 : wa3.ownsRow wc.heap.size 37 1 (.slice A7 (0 + 1 + 0) c7) (0 + 1 + 0) ((o.take 0 ++ l :: o.drop 0).map (Value.int .i64)) := by
                        have e : (o.take 0 ++ l :: o.drop 0).map (Value.int .i64) = X1 ++ [.int .i64 l] ++ X3 := by rw [HE1.out, HE3.out]; simp
                        rw [e]; exact HO3.out
                      have hlen3 : 0 + 1 + 0 = (o.take 0 ++ l :: o.drop 0).length := by
                        have h9 := hown3.1
                        rw [List.length_map] at h9; omega
                      have hol : 0 = o.length := HML.out
                      have hl4 : (o.take 0 ++ l :: o.drop 0).length = 0 + 1 := by rw [List.length_append, List.length_cons, List.length_take, List.length_drop]; omega
                      refine ⟨⟨0 + 1 + 0, i + 1, A7, c7, _, rfl, by go_num, Lib.hid (ownL_base (show OwnL wa3 wc.heap.size _ _ from by unfold OwnL; rw [← hlen3]; exact hown3) HBs.out), Lib.hid hlen3, HOK2, Lib.hid (HB.out.trans (hbw4.mono HBs.out)), by omega, by omega, HNEW⟩, ?_⟩
                      show n - ((i : Int) + 1).toNat < n - (i : Int).toNat
                      omega
                  | some a1 =>
                    have hz : ∃ g, a1 = ⟨g, 0, none⟩ ∧ m ≤ c' ∧ c' ≤ maxLen := by
                      rcases HOW.out.2 with ⟨h0, _⟩ | ⟨g, cap, cur, h0, _, _, h1, h2, _⟩
                      · cases h0
                      · cases h0; exact ⟨g, rfl, by have := HML.out; omega, h2⟩
                    obtain ⟨g, rfl, hmc, hcx⟩ := hz
                    have HCX := Lib.hid hcx
                    have HX1 : Hid (∀ W, Below wc.heap.size wc W → Reads W wc.heap.size 1 (some ⟨g, 0, none⟩) k X1) := Lib.hid (fun W hW => by
                      rw [hX1]
                      have := (HLO.out.cut 0 k (by omega)).reads.below hW
                      rw [List.drop_zero] at this
                      exact this)
                    have hkc : (k : Int) ≤ (c' : Int) := by omega
                    rcases (show k < m ∨ (k = m ∧ m = c') ∨ (k = m ∧ m < c') by omega) with hkm | ⟨hkm, hmc2⟩ | ⟨hkm, hmc2⟩
                    · have HX3 : Hid (∀ W, Below wc.heap.size wc W → Reads W wc.heap.size 1 (some ⟨g, k, none⟩) (m - k) X3) := Lib.hid (fun W hW => by
                        rw [hX3]
                        have := (HLO.out.cut k (m - k) (by omega)).reads.below hW
                        rw [Nat.zero_add, List.take_of_length_le (by rw [List.length_drop]; have := HML.out; omega)] at this
                        exact this)
                      have hkm' : (k : Int) ≤ (m : Int) := by omega
                      have hne : ¬ c' = k := by omega
                      clear hX1 hX3 hcx
                      go_region_law (first
                        | (refine step_append_any _ (by rfl) (.const (.slice none 0 0)) (.tmp 63) 22 (by rfl) wc.heap.size 37 i0 _ 1 8 Try.underlying22 hi0 hz0 hz1 hz2 rfl (by omega) (.slice none 0 0) 0 [] (by rfl) (World.ownsRow_nil _ _ _ _) wc.heap.size (some ⟨g, 0, none⟩) k c' X1 (by simp [Act.eval, Act.put]) ?_ HI1.out (by unfold maxLen; omega) (by omega) ?_ ?_
                           · exact HX1.out _ (by assumption)
                           · exact (show Below wc.heap.size wc _ from by assumption).size
                           intro v1 wa1 hown hgr hat
                           have hbw1 : Below wc.heap.size wc wa1 := (show Below wc.heap.size wc _ from by assumption).grown hgr (show Below wc.heap.size wc _ from by assumption).size (fun k hk => by cases hk)
                           have hbw2 : Below wc.heap.size wc (wa1.alloc (.cells #[.int .i64 l] 37)) := hbw1.alloc hbw1.size _
                           have HBK : Hid (Blk (wc.drew.alloc (.cells #[.int .i64 l] 37)) wc.heap.size 37 #[.int .i64 l]) := Lib.hid (Blk.new _ _ _)
                           first
                             | (have HBK1 : Hid (Blk wa1 wc.heap.size 37 #[.int .i64 l]) := Lib.hid (HBK.out.grown hgr (fun e => by cases e)))
                             | skip
                           rw [Nat.zero_add, List.nil_append] at hown
                           obtain ⟨A5, c5, rfl⟩ := ownL_shape hown
                           have HO1 := Lib.hid hown
                           clear hown hgr hat)
                        | (refine step_append_any _ (by rfl) (.tmp 64) (.tmp 66) 22 (by rfl) wc.heap.size 37 i0 _ 1 8 Try.underlying22 hi0 hz0 hz1 hz2 rfl (by omega) (.slice A5 k c5) k X1 (by simp [Act.eval]) (HO1.out.alloc _) (wa1.heap.size + 1) (some ⟨wa1.heap.size, 0, none⟩) 1 1 [.int .i64 l] (by simp [Act.eval]) (reads_one (Blk.new _ _ _) (by omega)) (by simp [Value.oneCell']) (by unfold maxLen; omega) (by omega) ?_ ?_
                           · exact hbw2.size
                           intro v2 wa2 hown hgr hat
                           have hbw3 : Below wc.heap.size wc wa2 := hbw2.grown hgr hbw2.size (fun q hq => (HO1.out.lt q hq).1)
                           obtain ⟨A6, c6, rfl⟩ := ownL_shape hown
                           have HO2 := Lib.hid hown
                           clear hown hgr hat)
                        | (refine step_append_any _ (by rfl) (.tmp 64) (.tmp 66) 22 (by rfl) wc.heap.size 37 i0 _ 1 8 Try.underlying22 hi0 hz0 hz1 hz2 rfl (by omega) (.slice A5 k c5) k X1 (by simp [Act.eval]) HO1.out (wc.heap.size + 1) (some ⟨wc.heap.size, 0, none⟩) 1 1 [.int .i64 l] (by simp [Act.eval]) (reads_one HBK1.out (by omega)) (by simp [Value.oneCell']) (by unfold maxLen; omega) (by omega) ?_ ?_
                           · exact hbw1.size
                           intro v2 wa2 hown hgr hat
                           have hbw3 : Below wc.heap.size wc wa2 := hbw1.grown hgr hbw1.size (fun q hq => (HO1.out.lt q hq).1)
                           obtain ⟨A6, c6, rfl⟩ := ownL_shape hown
                           have HO2 := Lib.hid hown
                           clear hown hgr hat)
                        | (refine step_append_any _ (by rfl) (.tmp 67) (.tmp 70) 22 (by rfl) wc.heap.size 37 i0 _ 1 8 Try.underlying22 hi0 hz0 hz1 hz2 rfl (by omega) (.slice A6 (k + 1) c6) (k + 1) (X1 ++ [.int .i64 l]) (by simp [Act.eval]) HO2.out wc.heap.size (some ⟨g, k, none⟩) (m - k) (c' - k) X3 (by simp [Act.eval]) ?_ HI3.out (by unfold maxLen; omega) (by omega) ?_ ?_
                           · exact HX3.out _ hbw3
                           · exact hbw3.size
                           intro v3 wa3 hown hgr hat
                           have hbw4 : Below wc.heap.size wc wa3 := hbw3.grown hgr hbw3.size (fun q hq => (HO2.out.lt q hq).1)
                           obtain ⟨A7, c7, rfl⟩ := ownL_shape hown
                           have HO3 := Lib.hid hown
                           clear hown hgr hat))
                      all_goals
                        go_wp2_with fail
                        have hown3 : wa3.ownsRow wc.heap.size 37 1 (.slice A7 (k + 1 + (m - k)) c7) (k + 1 + (m - k)) ((o.take k ++ l :: o.drop k).map (Value.int .i64)) := by
                          have e : (o.take k ++ l :: o.drop k).map (Value.int .i64) = X1 ++ [.int .i64 l] ++ X3 := by rw [HE1.out, HE3.out]; simp
                          rw [e]; exact HO3.out
                        have hlen3 : k + 1 + (m - k) = (o.take k ++ l :: o.drop k).length := by
                          have h9 := hown3.1
                          rw [List.length_map] at h9; omega
                        have hol : m = o.length := HML.out
                        have hl4 : (o.take k ++ l :: o.drop k).length = m + 1 := by rw [List.length_append, List.length_cons, List.length_take, List.length_drop]; omega
                        refine ⟨⟨k + 1 + (m - k), i + 1, A7, c7, _, rfl, by go_num, Lib.hid (ownL_base (show OwnL wa3 wc.heap.size _ _ from by unfold OwnL; rw [← hlen3]; exact hown3) HBs.out), Lib.hid hlen3, HOK2, Lib.hid (HB.out.trans (hbw4.mono HBs.out)), by omega, by omega, HNEW⟩, ?_⟩
                        show n - ((i : Int) + 1).toNat < n - (i : Int).toNat
                        omega
                    · subst hkm
                      subst hmc2
                      have hnil : X3 = [] := by rw [hX3, List.drop_of_length_le (by have := HML.out; omega)]; rfl
                      have HX3 : Hid (∀ W, Below wc.heap.size wc W → Reads W wc.heap.size 1 (some ⟨g, 0, none⟩) 0 X3) := Lib.hid (fun W hW => by rw [hnil]; exact Reads.none_)
                      clear hX1 hX3 hcx hnil
                      go_region_law (first
                        | (refine step_append_any _ (by rfl) (.const (.slice none 0 0)) (.tmp 63) 22 (by rfl) wc.heap.size 37 i0 _ 1 8 Try.underlying22 hi0 hz0 hz1 hz2 rfl (by omega) (.slice none 0 0) 0 [] (by rfl) (World.ownsRow_nil _ _ _ _) wc.heap.size (some ⟨g, 0, none⟩) k k X1 (by simp [Act.eval, Act.put]) ?_ HI1.out (by unfold maxLen; omega) (by omega) ?_ ?_
                           · exact HX1.out _ (by assumption)
                           · exact (show Below wc.heap.size wc _ from by assumption).size
                           intro v1 wa1 hown hgr hat
                           have hbw1 : Below wc.heap.size wc wa1 := (show Below wc.heap.size wc _ from by assumption).grown hgr (show Below wc.heap.size wc _ from by assumption).size (fun k hk => by cases hk)
                           have hbw2 : Below wc.heap.size wc (wa1.alloc (.cells #[.int .i64 l] 37)) := hbw1.alloc hbw1.size _
                           have HBK : Hid (Blk (wc.drew.alloc (.cells #[.int .i64 l] 37)) wc.heap.size 37 #[.int .i64 l]) := Lib.hid (Blk.new _ _ _)
                           first
                             | (have HBK1 : Hid (Blk wa1 wc.heap.size 37 #[.int .i64 l]) := Lib.hid (HBK.out.grown hgr (fun e => by cases e)))
                             | skip
                           rw [Nat.zero_add, List.nil_append] at hown
                           obtain ⟨A5, c5, rfl⟩ := ownL_shape hown
                           have HO1 := Lib.hid hown
                           clear hown hgr hat)
                        | (refine step_append_any _ (by rfl) (.tmp 64) (.tmp 66) 22 (by rfl) wc.heap.size 37 i0 _ 1 8 Try.underlying22 hi0 hz0 hz1 hz2 rfl (by omega) (.slice A5 k c5) k X1 (by simp [Act.eval]) (HO1.out.alloc _) (wa1.heap.size + 1) (some ⟨wa1.heap.size, 0, none⟩) 1 1 [.int .i64 l] (by simp [Act.eval]) (reads_one (Blk.new _ _ _) (by omega)) (by simp [Value.oneCell']) (by unfold maxLen; omega) (by omega) ?_ ?_
                           · exact hbw2.size
                           intro v2 wa2 hown hgr hat
                           have hbw3 : Below wc.heap.size wc wa2 := hbw2.grown hgr hbw2.size (fun q hq => (HO1.out.lt q hq).1)
                           obtain ⟨A6, c6, rfl⟩ := ownL_shape hown
                           have HO2 := Lib.hid hown
                           clear hown hgr hat)
                        | (refine step_append_any _ (by rfl) (.tmp 64) (.tmp 66) 22 (by rfl) wc.heap.size 37 i0 _ 1 8 Try.underlying22 hi0 hz0 hz1 hz2 rfl (by omega) (.slice A5 k c5) k X1 (by simp [Act.eval]) HO1.out (wc.heap.size + 1) (some ⟨wc.heap.size, 0, none⟩) 1 1 [.int .i64 l] (by simp [Act.eval]) (reads_one HBK1.out (by omega)) (by simp [Value.oneCell']) (by unfold maxLen; omega) (by omega) ?_ ?_
                           · exact hbw1.size
                           intro v2 wa2 hown hgr hat
                           have hbw3 : Below wc.heap.size wc wa2 := hbw1.grown hgr hbw1.size (fun q hq => (HO1.out.lt q hq).1)
                           obtain ⟨A6, c6, rfl⟩ := ownL_shape hown
                           have HO2 := Lib.hid hown
                           clear hown hgr hat)
                        | (refine step_append_any _ (by rfl) (.tmp 67) (.tmp 70) 22 (by rfl) wc.heap.size 37 i0 _ 1 8 Try.underlying22 hi0 hz0 hz1 hz2 rfl (by omega) (.slice A6 (k + 1) c6) (k + 1) (X1 ++ [.int .i64 l]) (by simp [Act.eval]) HO2.out wc.heap.size (some ⟨g, 0, none⟩) 0 0 X3 (by simp [Act.eval]) ?_ HI3.out (by unfold maxLen; omega) (by omega) ?_ ?_
                           · exact HX3.out _ hbw3
                           · exact hbw3.size
                           intro v3 wa3 hown hgr hat
                           have hbw4 : Below wc.heap.size wc wa3 := hbw3.grown hgr hbw3.size (fun q hq => (HO2.out.lt q hq).1)
                           obtain ⟨A7, c7, rfl⟩ := ownL_shape hown
                           have HO3 := Lib.hid hown
                           clear hown hgr hat))
                      all_goals
                        go_wp2_with fail
                        have hown3 : wa3.ownsRow wc.heap.size 37 1 (.slice A7 (k + 1 + 0) c7) (k + 1 + 0) ((o.take k ++ l :: o.drop k).map (Value.int .i64)) := by
                          have e : (o.take k ++ l :: o.drop k).map (Value.int .i64) = X1 ++ [.int .i64 l] ++ X3 := by rw [HE1.out, HE3.out]; simp
                          rw [e]; exact HO3.out
                        have hlen3 : k + 1 + 0 = (o.take k ++ l :: o.drop k).length := by
                          have h9 := hown3.1
                          rw [List.length_map] at h9; omega
                        have hol : k = o.length := HML.out
                        have hl4 : (o.take k ++ l :: o.drop k).length = k + 1 := by rw [List.length_append, List.length_cons, List.length_take, List.length_drop]; omega
                        refine ⟨⟨k + 1 + 0, i + 1, A7, c7, _, rfl, by go_num, Lib.hid (ownL_base (show OwnL wa3 wc.heap.size _ _ from by unfold OwnL; rw [← hlen3]; exact hown3) HBs.out), Lib.hid hlen3, HOK2, Lib.hid (HB.out.trans (hbw4.mono HBs.out)), by omega, by omega, HNEW⟩, ?_⟩
                        show n - ((i : Int) + 1).toNat < n - (i : Int).toNat
                        omega
                    · subst hkm
                      have hnil : X3 = [] := by rw [hX3, List.drop_of_length_le (by have := HML.out; omega)]; rfl
                      have HX3 : Hid (∀ W, Below wc.heap.size wc W → Reads W wc.heap.size 1 (some ⟨g, k, none⟩) 0 X3) := Lib.hid (fun W hW => by rw [hnil]; exact Reads.none_)
                      have hne : ¬ c' = k := by omega
                      clear hX1 hX3 hcx hnil
                      go_region_law (first
                        | (refine step_append_any _ (by rfl) (.const (.slice none 0 0)) (.tmp 63) 22 (by rfl) wc.heap.size 37 i0 _ 1 8 Try.underlying22 hi0 hz0 hz1 hz2 rfl (by omega) (.slice none 0 0) 0 [] (by rfl) (World.ownsRow_nil _ _ _ _) wc.heap.size (some ⟨g, 0, none⟩) k c' X1 (by simp [Act.eval, Act.put]) ?_ HI1.out (by unfold maxLen; omega) (by omega) ?_ ?_
                           · exact HX1.out _ (by assumption)
                           · exact (show Below wc.heap.size wc _ from by assumption).size
                           intro v1 wa1 hown hgr hat
                           have hbw1 : Below wc.heap.size wc wa1 := (show Below wc.heap.size wc _ from by assumption).grown hgr (show Below wc.heap.size wc _ from by assumption).size (fun k hk => by cases hk)
                           have hbw2 : Below wc.heap.size wc (wa1.alloc (.cells #[.int .i64 l] 37)) := hbw1.alloc hbw1.size _
                           have HBK : Hid (Blk (wc.drew.alloc (.cells #[.int .i64 l] 37)) wc.heap.size 37 #[.int .i64 l]) := Lib.hid (Blk.new _ _ _)
                           first
                             | (have HBK1 : Hid (Blk wa1 wc.heap.size 37 #[.int .i64 l]) := Lib.hid (HBK.out.grown hgr (fun e => by cases e)))
                             | skip
                           rw [Nat.zero_add, List.nil_append] at hown
                           obtain ⟨A5, c5, rfl⟩ := ownL_shape hown
                           have HO1 := Lib.hid hown
                           clear hown hgr hat)
                        | (refine step_append_any _ (by rfl) (.tmp 64) (.tmp 66) 22 (by rfl) wc.heap.size 37 i0 _ 1 8 Try.underlying22 hi0 hz0 hz1 hz2 rfl (by omega) (.slice A5 k c5) k X1 (by simp [Act.eval]) (HO1.out.alloc _) (wa1.heap.size + 1) (some ⟨wa1.heap.size, 0, none⟩) 1 1 [.int .i64 l] (by simp [Act.eval]) (reads_one (Blk.new _ _ _) (by omega)) (by simp [Value.oneCell']) (by unfold maxLen; omega) (by omega) ?_ ?_
                           · exact hbw2.size
                           intro v2 wa2 hown hgr hat
                           have hbw3 : Below wc.heap.size wc wa2 := hbw2.grown hgr hbw2.size (fun q hq => (HO1.out.lt q hq).1)
                           obtain ⟨A6, c6, rfl⟩ := ownL_shape hown
                           have HO2 := Lib.hid hown
                           clear hown hgr hat)
                        | (refine step_append_any _ (by rfl) (.tmp 64) (.tmp 66) 22 (by rfl) wc.heap.size 37 i0 _ 1 8 Try.underlying22 hi0 hz0 hz1 hz2 rfl (by omega) (.slice A5 k c5) k X1 (by simp [Act.eval]) HO1.out (wc.heap.size + 1) (some ⟨wc.heap.size, 0, none⟩) 1 1 [.int .i64 l] (by simp [Act.eval]) (reads_one HBK1.out (by omega)) (by simp [Value.oneCell']) (by unfold maxLen; omega) (by omega) ?_ ?_
                           · exact hbw1.size
                           intro v2 wa2 hown hgr hat
                           have hbw3 : Below wc.heap.size wc wa2 := hbw1.grown hgr hbw1.size (fun q hq => (HO1.out.lt q hq).1)
                           obtain ⟨A6, c6, rfl⟩ := ownL_shape hown
                           have HO2 := Lib.hid hown
                           clear hown hgr hat)
                        | (refine step_append_any _ (by rfl) (.tmp 67) (.tmp 70) 22 (by rfl) wc.heap.size 37 i0 _ 1 8 Try.underlying22 hi0 hz0 hz1 hz2 rfl (by omega) (.slice A6 (k + 1) c6) (k + 1) (X1 ++ [.int .i64 l]) (by simp [Act.eval]) HO2.out wc.heap.size (some ⟨g, k, none⟩) 0 (c' - k) X3 (by simp [Act.eval]) ?_ HI3.out (by unfold maxLen; omega) (by omega) ?_ ?_
                           · exact HX3.out _ hbw3
                           · exact hbw3.size
                           intro v3 wa3 hown hgr hat
                           have hbw4 : Below wc.heap.size wc wa3 := hbw3.grown hgr hbw3.size (fun q hq => (HO2.out.lt q hq).1)
                           obtain ⟨A7, c7, rfl⟩ := ownL_shape hown
                           have HO3 := Lib.hid hown
                           clear hown hgr hat))
                      all_goals
                        go_wp2_with fail
                        have hown3 : wa3.ownsRow wc.heap.size 37 1 (.slice A7 (k + 1 + 0) c7) (k + 1 + 0) ((o.take k ++ l :: o.drop k).map (Value.int .i64)) := by
                          have e : (o.take k ++ l :: o.drop k).map (Value.int .i64) = X1 ++ [.int .i64 l] ++ X3 := by rw [HE1.out, HE3.out]; simp
                          rw [e]; exact HO3.out
                        have hlen3 : k + 1 + 0 = (o.take k ++ l :: o.drop k).length := by
                          have h9 := hown3.1
                          rw [List.length_map] at h9; omega
                        have hol : k = o.length := HML.out
                        have hl4 : (o.take k ++ l :: o.drop k).length = k + 1 := by rw [List.length_append, List.length_cons, List.length_take, List.length_drop]; omega
                        refine ⟨⟨k + 1 + 0, i + 1, A7, c7, _, rfl, by go_num, Lib.hid (ownL_base (show OwnL wa3 wc.heap.size _ _ from by unfold OwnL; rw [← hlen3]; exact hown3) HBs.out), Lib.hid hlen3, HOK2, Lib.hid (HB.out.trans (hbw4.mono HBs.out)), by omega, by omega, HNEW⟩, ?_⟩
                        show n - ((i : Int) + 1).toNat < n - (i : Int).toNat
                        omega
    · obtain rfl : i = n := by omega
      have HEQ : Hid (O = some o) := Lib.hid (by rw [HG.out, List.drop_of_length_le (by have := HZL.out; omega)]; rfl)
      clear HG
      go_wp2_with fail
      go_ret2
      exact ⟨HB.out, by rw [HEQ.out]; exact ⟨_, rfl, HOW.out⟩⟩
end Go.Proofs.Ytghfelfljblkbaa
