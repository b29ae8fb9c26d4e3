/- The reference's trail: Clash, Push, Pop, Start. -/
import Derived.Test.YtghfelfljblkbaaRFol
import Derived.Test.YtghfelfljblkbaaPop
namespace Go.Proofs.Ytghfelfljblkbaa
open Go.RowKit Go.Sort
set_option linter.unusedVariables false

theorem clash_at {L : List (List Int)} {T : List Int} {i : Nat} (h : ∀ j, j < i → Pr.bad T (L.getD j []) = false) (hi : i < L.length) (hb : Pr.bad T (L.getD i []) = true) : Pr.clash L T = (i : Int) := by
  have hg : ∀ j (hj : j < L.length), L.getD j [] = L[j] := fun j hj => by rw [List.getD_eq_getElem?_getD, List.getElem?_eq_getElem hj]; rfl
  unfold Pr.clash
  have : L.findIdx? (Pr.bad T) = some i := by
    rw [List.findIdx?_eq_some_iff_getElem]
    refine ⟨hi, by rw [← hg i hi]; exact hb, fun j hj => ?_⟩
    rw [← hg j (by omega), h j hj]
    decide
  rw [this]
theorem clash_not {L : List (List Int)} {T : List Int} (h : ∀ j, j < L.length → Pr.bad T (L.getD j []) = false) : Pr.clash L T = -1 := by
  unfold Pr.clash
  have : L.findIdx? (Pr.bad T) = none := by
    rw [List.findIdx?_eq_none_iff]
    intro c hc
    obtain ⟨j, hj, rfl⟩ := List.mem_iff_getElem.1 hc
    have := h j hj
    rw [List.getD_eq_getElem?_getD, List.getElem?_eq_getElem hj] at this
    exact this
  rw [this]
theorem bad_take {T c : List Int} {k : Nat} (hk : k < c.length) : Pr.bad T (c.take (k + 1)) = (Pr.bad T (c.take k) && decide (Pr.ofT T (c.getD k 0) < 0)) := by
  unfold Pr.bad
  rw [take_one hk, List.all_append, List.all_cons, List.all_nil, Bool.and_true]
section
variable (q qs cb ct cm n : Nat) (B Bt Bm : Option Addr) (K : Nat → Prop) (L : List (List Int)) (T : List Int) (M : List Nat)
set_option maxRecDepth 100000 in
set_option maxHeartbeats 1000000 in
theorem RClash_any (w : World) (h : RTrAt w q qs B Bt Bm cb ct cm n K L T M) :
    Calls Try.prog 85 #[.pointer (some ⟨q, 0, none⟩)] w fun e w' => e = .returned (.int .i64 (Pr.clash L T)) ∧ w = w' := by
  have k0 : w.cell? ⟨q, 0, none⟩ = some (.pointer (some ⟨qs, 0, none⟩)) := h.blk.cell 0
  have k1 : w.cell? ⟨qs, 1, none⟩ = some (.slice B L.length cb) := h.sblk.cell 1
  have hlen := h.len
  have hn := h.n
  have HCV := Lib.hid h.cl
  have HSH := Lib.hid h.sh
  have HCC := Lib.hid h.cls
  have HRV : Hid (∀ y, -100000 ≤ y ∧ y ≤ 100000 → Calls Try.prog 86 #[.pointer (some ⟨q, 0, none⟩), .int .i64 y] w fun e w' => e = .returned (.int .i64 (Pr.ofT T y)) ∧ w = w') := Lib.hid (fun y hy => RValue_any q qs cb ct cm n B Bt Bm K L T M y w h hy)
  clear h
  go_enter Try.func85, Try.ntmps85
  go_wp2_with fail
  go_loopw [16] (fun t wx => ∃ i : Nat, t = .int .i64 (i : Int) ∧ i ≤ L.length ∧ Hid (∀ j, j < i → Pr.bad T (L.getD j []) = false) ∧ wx = w) (fun t _ => L.length - (match t with | .int _ x => x.toNat | _ => 0))
  case atStart => exact ⟨0, rfl, Nat.zero_le _, Lib.hid (fun j hj => by omega), rfl⟩
  case round =>
    obtain ⟨i, rfl, hi, HN, hwr⟩ := hrel
    subst hwr
    by_cases hlt : i < L.length
    · obtain ⟨b, hA, _, hcell⟩ := HCC.out.2 (by omega)
      obtain ⟨Aj, cj, kc, hlj, _⟩ := hcell i hlt
      obtain ⟨c, hc⟩ : ∃ c, c = L[i] := ⟨_, rfl⟩
      have hcm : c ∈ L := by rw [hc]; exact List.getElem_mem hlt
      rw [← hc] at kc hlj
      have hcv := HCV.out c hcm
      have HCB := Lib.hid hcv
      obtain ⟨d, hd⟩ : ∃ d, d = c.length := ⟨_, rfl⟩
      have hsh := HSH.out c hcm
      rw [← hd] at kc hlj hsh
      have HD := Lib.hid hd
      have HLJ := Lib.hid hlj
      have HG : Hid (L.getD i [] = c) := Lib.hid (by rw [hc, List.getD_eq_getElem?_getD, List.getElem?_eq_getElem hlt]; rfl)
      have i1 : (i : Int) < (L.length : Int) := by omega
      subst hA
      clear hcell hlj hcm hcv hc hd
      go_wp2_with fail
      go_loopw [5, 23] (fun f t wx => ∃ (k : Nat) (bi : Bool), f = .bool bi ∧ t = .int .i64 (k : Int) ∧ k ≤ d ∧ Hid (bi = Pr.bad T (c.take k)) ∧ wx = wr) (fun _ t _ => d - (match t with | .int _ x => x.toNat | _ => 0))
      case atStart => exact ⟨0, true, rfl, rfl, Nat.zero_le _, Lib.hid rfl, rfl⟩
      case round =>
        obtain ⟨k, bi, rfl, rfl, hk, HBI, hwx⟩ := hrel
        subst hwx
        by_cases hlt2 : k < d
        · obtain ⟨b2, o2, hAj, _, hcell⟩ := HLJ.out.2.2 (by omega)
          obtain ⟨y, hy⟩ : ∃ y, y = c.getD k 0 := ⟨_, rfl⟩
          have ky := hcell k hlt2
          rw [← hy] at ky
          have hil : k < c.length := by have := HD.out; omega
          have hyv := HCB.out y (by
            rw [hy, List.getD_eq_getElem?_getD, List.getElem?_eq_getElem hil]
            exact List.getElem_mem _)
          have HV := Lib.hid (HRV.out y (by unfold Cf.va at hyv; omega))
          have hst := bad_take (T := T) hil
          rw [← HBI.out, ← hy] at hst
          have hbd := ofT_bd T y
          obtain ⟨v, hv⟩ : ∃ v, v = Pr.ofT T y := ⟨_, rfl⟩
          rw [← hv] at HV hst hbd
          have HS := Lib.hid hst
          have i2 : (k : Int) < (d : Int) := by omega
          subst hAj
          clear hcell hy hil hyv hst hv HBI
          cases bi with
          | false =>
            have HS2 : Hid (false = Pr.bad T (c.take (k + 1))) := Lib.hid (by rw [HS.out]; rfl)
            clear HS hbd
            go_wp2_with fail
            refine ⟨⟨k + 1, false, rfl, by go_num, by omega, HS2, trivial⟩, ?_⟩
            show d - ((k : Int) + 1).toNat < d - (k : Int).toNat
            omega
          | true =>
            rcases (show v = -1 ∨ v = 0 ∨ v = 1 by omega) with rfl | rfl | rfl
            · have HS2 : Hid (true = Pr.bad T (c.take (k + 1))) := Lib.hid (by rw [HS.out]; rfl)
              clear HS hbd
              go_wp2_with (go_at_call 86; refine HV.out.mono ?_; rintro e w2 ⟨rfl, rfl⟩)
              refine ⟨⟨k + 1, true, rfl, by go_num, by omega, HS2, trivial⟩, ?_⟩
              show d - ((k : Int) + 1).toNat < d - (k : Int).toNat
              omega
            · have HS2 : Hid (false = Pr.bad T (c.take (k + 1))) := Lib.hid (by rw [HS.out]; rfl)
              clear HS hbd
              go_wp2_with (go_at_call 86; refine HV.out.mono ?_; rintro e w2 ⟨rfl, rfl⟩)
              refine ⟨⟨k + 1, false, rfl, by go_num, by omega, HS2, trivial⟩, ?_⟩
              show d - ((k : Int) + 1).toNat < d - (k : Int).toNat
              omega
            · have HS2 : Hid (false = Pr.bad T (c.take (k + 1))) := Lib.hid (by rw [HS.out]; rfl)
              clear HS hbd
              go_wp2_with (go_at_call 86; refine HV.out.mono ?_; rintro e w2 ⟨rfl, rfl⟩)
              refine ⟨⟨k + 1, false, rfl, by go_num, by omega, HS2, trivial⟩, ?_⟩
              show d - ((k : Int) + 1).toNat < d - (k : Int).toNat
              omega
        · have hkd : (k : Int) = (d : Int) := by omega
          have HB2 : Hid (bi = Pr.bad T (L.getD i [])) := Lib.hid (by rw [HBI.out, HG.out, List.take_of_length_le (by have := HD.out; omega)])
          clear HBI
          cases bi with
          | true =>
            have HE : Hid (Pr.clash L T = (i : Int)) := Lib.hid (clash_at HN.out hlt HB2.out.symm)
            clear HB2
            go_wp2_with fail
            go_ret
            exact ⟨ret_int HE.out.symm, rfl⟩
          | false =>
            have HN2 : Hid (∀ j, j < i + 1 → Pr.bad T (L.getD j []) = false) := Lib.hid (fun j hj => by
              rcases Nat.lt_or_ge j i with h | h
              · exact HN.out j h
              · have e : j = i := by omega
                rw [e]; exact HB2.out.symm)
            clear HB2
            go_wp2_with fail
            refine ⟨⟨i + 1, by go_num, by omega, HN2, trivial⟩, ?_⟩
            show L.length - ((i : Int) + 1).toNat < L.length - (i : Int).toNat
            omega
    · have hil : (i : Int) = (L.length : Int) := by omega
      have HE : Hid (Pr.clash L T = -1) := Lib.hid (clash_not (fun j hj => HN.out j (by omega)))
      go_wp2_with fail
      go_ret
      exact ⟨ret_int HE.out.symm, rfl⟩
end
theorem r_lev {w w5 w6 : World} {q qs cb ct cm n c5 : Nat} {B Bt Bm A5 : Option Addr} {K : Nat → Prop} {L : List (List Int)} {T : List Int} {M : List Nat} (h : RTrAt w q qs B Bt Bm cb ct cm n K L T M)
    (ho5 : w5.ownsRow 0 3 1 (.slice A5 (M.length + 1) c5) (M.length + 1) ((M.map fun (k : Nat) => Value.int .i64 (k : Int)) ++ [.int .i64 (T.length : Int)])) (hu5 : Upd (fun k => (Value.slice Bm 0 0).ownBlock = some k) w w5)
    (hA5 : ∀ i, (Value.slice A5 0 0).ownBlock = some i → (Value.slice Bm 0 0).ownBlock = some i ∨ w.heap.size ≤ i) (hw6 : w6 = w5.setCell ⟨q, 2, none⟩ (.slice A5 (M.length + 1) c5)) :
    RTrRes w w6 q qs B Bt Bm Bt A5 cb ct c5 n K L T (M ++ [T.length]) := by
  have hb5 : Blk w5 q 92 _ := h.blk.upd hu5 (fun e => rtr_ne h.lev h.blk (by decide) (by rw [← e]; exact ownB))
  have hl5 : w5.ownsRow 0 37 1 (.slice Bt T.length ct) T.length (T.map (Value.int .i64)) := own_upd h.lits hu5 (fun i hi e => own_two h.lev h.lits (by decide) i (by rw [← e]; exact ownB) hi)
  have hk5 : ∀ i, K i → ¬ (Value.slice Bm 0 0).ownBlock = some i := fun i hi e => (h.k i hi).2.2 e
  have hu6 : Upd (fun i => i = q) w5 w6 := by
    rw [hw6]
    exact (Upd.refl (fun i => i = q) w5).setCell (p := ⟨q, 2, none⟩) (.inl rfl) _
  have hml : (M ++ [T.length]).length = M.length + 1 := by rw [List.length_append]; rfl
  refine ⟨⟨?_, ?_, ?_, h.ks, ?_, ?_, h.un, h.cl, h.n, h.len, h.sh, ?_⟩, ?_, ?_⟩
  · rw [hw6, hml]
    exact (hb5.set_ 2 (.slice A5 (M.length + 1) c5)).cast (by simp)
  · exact (h.sblk.upd hu5 (hk5 qs h.ks)).upd hu6 (fun e => (h.k qs h.ks).1 e)
  · exact (h.cls.upd hu5 hk5).upd hu6 (fun i hi e => (h.k i hi).1 e)
  · exact own_upd hl5 hu6 (fun i hi e => by subst e; exact rtr_ne hl5 hb5 (by decide) hi)
  · rw [hml, List.map_append]
    exact own_upd ho5 hu6 (fun i hi e => by subst e; exact rtr_ne ho5 hb5 (by decide) hi)
  · intro i hi
    have h9 := h.k i hi
    refine ⟨h9.1, h9.2.1, fun e => ?_⟩
    rcases hA5 i e with h8 | h8
    · exact h9.2.2 h8
    · have := h.cls.1 i hi; omega
  · exact (hu5.mono (fun i _ hi => .inr (.inr hi))).trans (hu6.mono (fun i _ hi => .inl hi))
  · rintro i (hi | hi | hi)
    · exact .inl (.inl hi)
    · exact .inl (.inr (.inl hi))
    · rcases hA5 i hi with h8 | h8
      · exact .inl (.inr (.inr h8))
      · exact .inr h8
section
variable (q qs cb ct cm n : Nat) (B Bt Bm : Option Addr) (K : Nat → Prop) (L : List (List Int)) (T : List Int) (M : List Nat)
theorem off_may {n : Nat} {x : Int} (hx : Ok x) : (!offL n x) = (decide (1 ≤ Cf.va x) && decide (Cf.va x ≤ n)) := by
  unfold offL
  rw [vw_ok hx, Bool.not_or]
  congr 1
  · rw [← decide_not, decide_eq_decide]; unfold Cf.va; omega
  · rw [← decide_not, decide_eq_decide]; omega
set_option maxRecDepth 100000 in
set_option maxHeartbeats 1000000 in
theorem RPush_no (x : Int) (hx : Ok x) (w : World) (h : RTrAt w q qs B Bt Bm cb ct cm n K L T M) (hm : mayP n L T x = false) :
    Calls Try.prog 50 #[.pointer (some ⟨q, 0, none⟩), .int .i64 x] w fun e w' => e = .returned (.bool false) ∧ ∃ k, w' = w.drewN k := by
  have k0 : w.cell? ⟨q, 0, none⟩ = some (.pointer (some ⟨qs, 0, none⟩)) := h.blk.cell 0
  have hn := h.n
  have HMY := RMayC_any qs n x w (h.sblk.cell 0) hn hx
  rw [off_may hx] at HMY
  obtain ⟨mb, hmb⟩ : ∃ mb, mb = (decide (1 ≤ Cf.va x) && decide (Cf.va x ≤ n)) := ⟨_, rfl⟩
  rw [← hmb] at HMY
  have HMB := Lib.hid HMY
  clear HMY
  cases mb with
  | false =>
    clear h hm hmb hx
    go_enter Try.func50, Try.ntmps50
    go_wp2_with (go_at_call 77; refine HMB.out.mono ?_; rintro e w1 ⟨rfl, k, rfl⟩)
    go_ret
    exact ⟨rfl, _, rfl⟩
  | true =>
    have hv := (Bool.and_eq_true _ _).mp hmb.symm
    have hv1 := of_decide_eq_true hv.1
    have hv2 := of_decide_eq_true hv.2
    have HOF : Hid (∀ k, Calls Try.prog 86 #[.pointer (some ⟨q, 0, none⟩), .int .i64 x] (w.drewN k) fun e w' => e = .returned (.int .i64 (Pr.ofT T x)) ∧ w.drewN k = w') := Lib.hid (fun k => RValue_any q qs cb ct cm n B Bt Bm K L T M x _ (h.drewN k) (by unfold Cf.va at hv2; omega))
    obtain ⟨y, hy⟩ : ∃ y, y = Pr.ofT T x := ⟨_, rfl⟩
    rw [← hy] at HOF
    by_cases h3 : y = 0
    · have hc : 0 ≤ Pr.clash L T := by
        unfold mayP at hm
        rw [hv.1, hv.2, decide_eq_true (show Pr.ofT T x = 0 by rw [← hy]; exact h3)] at hm
        simp at hm
        exact hm
      have HCL : Hid (∀ k, Calls Try.prog 85 #[.pointer (some ⟨q, 0, none⟩)] (w.drewN k) fun e w' => e = .returned (.int .i64 (Pr.clash L T)) ∧ w.drewN k = w') := Lib.hid (fun k => RClash_any q qs cb ct cm n B Bt Bm K L T M _ (h.drewN k))
      obtain ⟨z, hz⟩ : ∃ z, z = Pr.clash L T := ⟨_, rfl⟩
      rw [← hz] at HCL hc
      have hd : decide (0 ≤ z) = true := decide_eq_true hc
      subst h3
      clear h hm hmb hx hv hv1 hv2 hy hz hc
      go_enter Try.func50, Try.ntmps50
      go_wp2_with (first
        | (go_at_call 77; refine HMB.out.mono ?_; rintro e w1 ⟨rfl, k, rfl⟩)
        | (go_at_call 86; refine (HOF.out _).mono ?_; rintro e w1 ⟨rfl, rfl⟩)
        | (go_at_call 85; refine (HCL.out _).mono ?_; rintro e w1 ⟨rfl, rfl⟩))
      go_ret
      exact ⟨rfl, _, rfl⟩
    · have h3' : (y != 0) = true := by rw [bne_iff_ne]; exact h3
      clear h hm hmb hx hv hv1 hv2 hy h3
      go_enter Try.func50, Try.ntmps50
      go_wp2_with (first
        | (go_at_call 77; refine HMB.out.mono ?_; rintro e w1 ⟨rfl, k, rfl⟩)
        | (go_at_call 86; refine (HOF.out _).mono ?_; rintro e w1 ⟨rfl, rfl⟩))
      go_ret
      exact ⟨rfl, _, rfl⟩
set_option maxRecDepth 100000 in
set_option maxHeartbeats 2000000 in
theorem RPush_yes (x : Int) (w : World) (h : RTrAt w q qs B Bt Bm cb ct cm n K L T M) (hm : mayP n L T x = true) (hM : M.length ≤ 100000) :
    Calls Try.prog 50 #[.pointer (some ⟨q, 0, none⟩), .int .i64 x] w fun e w' => e = .returned (.bool true) ∧ ∃ R Bt' ct' Bm' cm', Pr.Fol L (T ++ [x]) R ∧ RTrRes w w' q qs B Bt Bm Bt' Bm' cb ct' cm' n K L R (M ++ [T.length]) := by
  obtain ⟨i0, hi0, hz0, hz1, hz2⟩ := info_parts int_row
  obtain ⟨j0, hj0, hy0, hy1, hy2⟩ := info_parts lit_row
  have k0 : w.cell? ⟨q, 0, none⟩ = some (.pointer (some ⟨qs, 0, none⟩)) := h.blk.cell 0
  have hn := h.n
  have hmm : 1 ≤ Cf.va x ∧ Cf.va x ≤ n ∧ Pr.ofT T x = 0 ∧ Pr.clash L T < 0 := by
    unfold mayP at hm
    simp at hm
    exact hm
  obtain ⟨hv1, hv, hof, hcl⟩ := hmm
  have x1 : -200 ≤ x := by unfold Cf.va at hv; omega
  have x2 : x ≤ 200 := by unfold Cf.va at hv; omega
  have hxo : Ok x := ⟨by omega, by omega⟩
  have HMY := RMayC_any qs n x w (h.sblk.cell 0) hn hxo
  rw [off_may hxo, decide_eq_true hv1, decide_eq_true hv, show (true && true) = true from rfl] at HMY
  have HMB := Lib.hid HMY
  have HOF : Hid (∀ k, Calls Try.prog 86 #[.pointer (some ⟨q, 0, none⟩), .int .i64 x] (w.drewN k) fun e w' => e = .returned (.int .i64 0) ∧ w.drewN k = w') := Lib.hid (fun k => by
    have := RValue_any q qs cb ct cm n B Bt Bm K L T M x _ (h.drewN k) (by omega)
    rw [hof] at this
    exact this)
  have HCL : Hid (∀ k, Calls Try.prog 85 #[.pointer (some ⟨q, 0, none⟩)] (w.drewN k) fun e w' => e = .returned (.int .i64 (Pr.clash L T)) ∧ w.drewN k = w') := Lib.hid (fun k => RClash_any q qs cb ct cm n B Bt Bm K L T M _ (h.drewN k))
  obtain ⟨z, hz⟩ : ∃ z, z = Pr.clash L T := ⟨_, rfl⟩
  rw [← hz] at HCL hcl
  have hd3 : decide (0 ≤ z) = false := decide_eq_false (by omega)
  have HT := Lib.hid h
  have HUNX := Lib.hid (Pr.un_snoc h.un ⟨hv1, hv⟩ hof)
  have htl := h.tlen
  obtain ⟨t, ht⟩ : ∃ t, t = T.length := ⟨_, rfl⟩
  obtain ⟨m, hm9⟩ : ∃ m, m = M.length := ⟨_, rfl⟩
  have HTE := Lib.hid ht
  have HME := Lib.hid hm9
  rw [← ht] at htl
  rw [← hm9] at hM
  clear h hm hv1 hv hof hz hm9 ht hxo HMY
  go_enter Try.func50, Try.ntmps50
  go_upto_region 3 with (first
    | (go_at_call 77; refine HMB.out.mono ?_; rintro e w1 ⟨rfl, k, rfl⟩)
    | (go_at_call 86; refine (HOF.out _).mono ?_; rintro e w1 ⟨rfl, rfl⟩)
    | (go_at_call 85; refine (HCL.out _).mono ?_; rintro e w1 ⟨rfl, rfl⟩))
  obtain ⟨w1, hw1⟩ : ∃ w1, w1 = w.drewN k := ⟨_, rfl⟩
  rw [← hw1]
  have HT1 : Hid (RTrAt w1 q qs B Bt Bm cb ct cm n K L T M) := Lib.hid (by rw [hw1]; exact HT.out.drewN k)
  have HR1 : Hid (RTrRes w w1 q qs B Bt Bm Bt Bm cb ct cm n K L T M) := Lib.hid (by rw [hw1]; exact (RTrRes.refl HT.out).bel ⟨rfl, rfl, rfl, Nat.le_refl _, fun _ _ => rfl⟩)
  have HBK : Hid (Blk w1 q 92 #[.pointer (some ⟨qs, 0, none⟩), .slice Bt t ct, .slice Bm m cm]) := Lib.hid (by have := HT1.out.blk; rw [← HTE.out, ← HME.out] at this; exact this)
  have HLV : Hid (w1.ownsRow 0 3 1 (.slice Bm m cm) m (M.map fun (k : Nat) => Value.int .i64 (k : Int))) := Lib.hid (by have := HT1.out.lev; rw [← HME.out] at this; exact this)
  have hlp := HBK.out.lt
  have c2 : w1.cell? ⟨q, 1, none⟩ = some (.slice Bt t ct) := HBK.out.cell 1
  have c3 : w1.cell? ⟨q, 2, none⟩ = some (.slice Bm m cm) := HBK.out.cell 2
  have c2' : ∀ o, (w1.drew.alloc o).cell? ⟨q, 1, none⟩ = some (.slice Bt t ct) := fun o => (HBK.out.drew.alloc o).cell 1
  have c3' : ∀ o, (w1.drew.alloc o).cell? ⟨q, 2, none⟩ = some (.slice Bm m cm) := fun o => (HBK.out.drew.alloc o).cell 2
  clear HT HCL HOF HMB k0 hw1
  go_cut [] (fun wx => ∃ (A5 : Option Addr) (c5 : Nat), Hid (RTrRes w wx q qs B Bt Bm Bt A5 cb ct c5 n K L T (M ++ [T.length])))
  case first =>
    go_region_law ((refine step_append_any _ (by rfl) (.tmp 27) (.tmp 33) 85 (by rfl) 0 3 i0 (.int .i64 0) 1 8 Try.underlying85 hi0 hz0 hz1 hz2 rfl (by decide) (.slice Bm m cm) m _ (by simp [Act.eval]) ((HLV.out.drew).alloc _) (w1.heap.size + 1) (some ⟨w1.heap.size, 0, none⟩) 1 1 [.int .i64 (t : Int)] (by simp [Act.eval]) (reads_one (Blk.new w1.drew _ _) (by simp)) (ints_one [(t : Int)]) (by unfold maxLen; omega) (by omega) (Nat.zero_le _) ?_; intro v5 w5 hown5 hg5 hat5; have HOW5 := Lib.hid hown5; have HU5 : Hid (Upd (fun k => (Value.slice Bm 0 0).ownBlock = some k) w1 w5) := Lib.hid (((Upd.refl _ w1).drew.alloc _).grown hg5 (fun j hj => .inl (by rw [← hj]; exact ownB))); have HB5 : Hid (Blk w5 q 92 #[.pointer (some ⟨qs, 0, none⟩), .slice Bt t ct, .slice Bm m cm]) := Lib.hid (HBK.out.upd HU5.out (fun h => rtr_ne HLV.out HBK.out (by decide) (by rw [← h]; exact ownB))); have f5 : w5.frozen? ⟨q, 2, none⟩ = false := HB5.out.frozen 2; have k5 : w5.cell? ⟨q, 2, none⟩ = some (.slice Bm m cm) := HB5.out.cell 2; have HO5 : Hid (∀ j, v5.ownBlock = some j → (Value.slice Bm 0 0).ownBlock = some j ∨ w1.heap.size ≤ j) := Lib.hid (fun j hj => own_or Bm m cm v5.ownBlock w1.heap.size j hj (by rcases hat5 with h | h; (· exact .inl h); (· exact .inr (h.trans (by simp))))); obtain ⟨A5, c5, rfl⟩ := ownL_shape hown5; clear hown5 hg5 hat5))
    all_goals
      have hres : RTrRes w1 (w5.setCell ⟨q, 2, none⟩ (.slice A5 (m + 1) c5)) q qs B Bt Bm Bt A5 cb ct c5 n K L T (M ++ [T.length]) := r_lev HT1.out (by rw [← HME.out, ← HTE.out]; exact HOW5.out) HU5.out (fun i hi => HO5.out i (by rw [← hi]; exact ownB)) (by rw [← HME.out])
      have HRES := Lib.hid (HR1.out.trans hres)
      clear hres
      go_wp2_with fail
      go_meet
      exact ⟨A5, c5, Lib.hid (HRES.out.bel ⟨rfl, rfl, rfl, Nat.le_refl _, fun _ _ => rfl⟩)⟩
  case rest =>
    obtain ⟨A5, c5, HR5⟩ := hcut
    have HB5 : Hid (Blk wc q 92 #[.pointer (some ⟨qs, 0, none⟩), .slice Bt t ct, .slice A5 (M ++ [T.length]).length c5]) := Lib.hid (by have := HR5.out.tr.blk; rw [← HTE.out] at this ⊢; exact this)
    have HOL : Hid (wc.ownsRow 0 37 1 (.slice Bt t ct) t (T.map (Value.int .i64))) := Lib.hid (by rw [HTE.out]; exact HR5.out.tr.lits)
    have d1 : wc.cell? ⟨q, 1, none⟩ = some (.slice Bt t ct) := HB5.out.cell 1
    have hlq := HB5.out.lt
    clear HBK HLV HT1 HR1 c2 c3 c2' c3' hlp
    go_wp2_with (at_builtin; refine wpList_append_any _ rfl (.tmp 41) (.tmp 43) 22 rfl 0 37 j0 _ 1 8 Try.underlying22 hj0 hy0 hy1 hy2 rfl (by decide) _ t _ rfl (HOL.out.alloc _) (wc.heap.size + 1) (some ⟨wc.heap.size, 0, none⟩) 1 1 [.int .i64 x] rfl (reads_one (Blk.new _ _ _) (by omega)) (ints_one [x]) (by unfold maxLen; omega) (by omega) (Nat.zero_le _) ?_; intro v7 w7 hown7 hg7 hat7; have HOW7 := Lib.hid hown7; have HU7 : Hid (Upd (fun k => (Value.slice Bt 0 0).ownBlock = some k) wc w7) := Lib.hid (((Upd.refl _ wc).alloc _).grown hg7 (fun j hj => .inl (by rw [← hj]; exact ownB))); have HB7 := Lib.hid (HB5.out.upd HU7.out (fun h => rtr_ne HOL.out HB5.out (by decide) (by rw [← h]; exact ownB))); have f7 : w7.frozen? ⟨q, 1, none⟩ = false := HB7.out.frozen 1; have k7 : w7.cell? ⟨q, 1, none⟩ = some (.slice Bt t ct) := HB7.out.cell 1; have HO7 : Hid (∀ j, v7.ownBlock = some j → (Value.slice Bt 0 0).ownBlock = some j ∨ wc.heap.size ≤ j) := Lib.hid (fun j hj => own_or Bt t ct v7.ownBlock wc.heap.size j hj (by rcases hat7 with h | h; (· exact .inl h); (· exact .inr (h.trans (by rw [World.size_alloc]))))); obtain ⟨A7, c7, rfl⟩ := ownL_shape hown7; clear hown7 hg7 hat7)
    have hres := r_take (w6 := w7.setCell ⟨q, 1, none⟩ (.slice A7 (t + 1) c7)) HR5.out.tr HUNX.out (by rw [← HTE.out]; exact HOW7.out) HU7.out (fun i hi => HO7.out i (by rw [← hi]; exact ownB)) (by rw [← HTE.out])
    have HR7 := Lib.hid (HR5.out.trans hres)
    have HFW := Lib.hid (RFollow_any q qs cb c7 c5 n B A7 A5 K L (T ++ [x]) (M ++ [T.length]) _ hres.tr)
    clear hres d1
    go_at_call 84
    refine HFW.out.mono ?_
    rintro e w8 ⟨rfl, R, Bt8, ct8, hf8, hr8⟩
    have HF8 := Lib.hid hf8
    have HR8 := Lib.hid (HR7.out.trans hr8)
    clear hf8 hr8 HFW HR7
    go_wp2_with fail
    go_ret
    exact ⟨rfl, R, Bt8, ct8, A5, c5, HF8.out, HR8.out⟩
set_option maxRecDepth 100000 in
theorem RPop_no (w : World) (h : RTrAt w q qs B Bt Bm cb ct cm n K L T []) :
    Calls Try.prog 49 #[.pointer (some ⟨q, 0, none⟩)] w fun e w' => e = .returned (.bool false) ∧ w = w' := by
  have k2 : w.cell? ⟨q, 2, none⟩ = some (.slice Bm 0 cm) := h.blk.cell 2
  clear h
  go_enter Try.func49, Try.ntmps49
  go_wp2_with fail
  go_ret
  exact ⟨rfl, rfl⟩
set_option maxRecDepth 100000 in
theorem Start_any (w : World) (hsb : Blk w qs 42 #[.int .i64 (n : Int), .slice B L.length cb]) (hK : ClsK w K B L) (hks : K qs) (hn : n ≤ 200) (hl : L.length ≤ 5000) (hsh : ∀ c ∈ L, c.length ≤ 1048576) (hcl : Pr.Cl n L) :
    Calls Try.prog 46 #[.pointer (some ⟨qs, 0, none⟩)] w fun e w' => ∃ q Bt ct R, e = .returned (.pointer (some ⟨q, 0, none⟩)) ∧ RTrAt w' q qs B Bt none cb ct 0 n K L R [] ∧ Pr.Fol L [] R ∧ Below w.heap.size w w' ∧ ∀ i, rF q Bt none i → w.heap.size ≤ i := by
  obtain ⟨W1, hW1⟩ : ∃ W1, W1 = w.alloc (.cells #[.pointer (some ⟨qs, 0, none⟩), .slice none 0 0, .slice none 0 0] 92) := ⟨_, rfl⟩
  have hb1 : Below w.heap.size w W1 := by rw [hW1]; exact (Below.refl _ _).alloc (Nat.le_refl _) _
  have htr : RTrAt W1 w.heap.size qs B none none cb 0 0 n K L [] [] := by
    refine ⟨by rw [hW1]; exact Blk.new _ _ _, hsb.below hb1 hsb.lt, hK.below hb1, hks, World.ownsRow_nil _ _ _ _, World.ownsRow_nil _ _ _ _, Un.nil n, hcl, hn, hl, hsh, fun i hi => ⟨?_, (by intro e; cases e), (by intro e; cases e)⟩⟩
    have := hK.1 i hi
    omega
  have HFW := Lib.hid (RFollow_any w.heap.size qs cb 0 0 n B none none K L [] [] W1 htr)
  have HB1 := Lib.hid hb1
  clear hsb hK hb1 htr
  subst hW1
  go_enter Try.func46, Try.ntmps46
  go_wp2_with (go_at_call 84; refine HFW.out.mono ?_; rintro e w8 ⟨rfl, R, Bt8, ct8, hf8, hr8⟩; have HF8 := Lib.hid hf8; have HR8 := Lib.hid hr8; clear hf8 hr8)
  go_ret
  refine ⟨w.heap.size, Bt8, ct8, R, rfl, HR8.out.tr, HF8.out, HB1.out.trans (HR8.out.upd.below (fun i hi => ?_) HB1.out.size), fun i hi => ?_⟩
  · rcases hi with rfl | hi | hi
    · exact Nat.le_refl _
    · cases hi
    · cases hi
  · rcases HR8.out.own i hi with (rfl | h9 | h9) | h9
    · exact Nat.le_refl _
    · cases h9
    · cases h9
    · exact Nat.le_trans HB1.out.size h9
end
end Go.Proofs.Ytghfelfljblkbaa
