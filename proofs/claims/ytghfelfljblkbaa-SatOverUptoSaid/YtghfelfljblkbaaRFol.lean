/- The reference's follow. -/
import Derived.Test.YtghfelfljblkbaaRTr
namespace Go.Proofs.Ytghfelfljblkbaa
open Go.RowKit Go.Sort
set_option linter.unusedVariables false

/-- The reference's count of a clause: the last free literal, how many there are (2: one is true). -/
def rfr (T : List Int) : List Int → Int → Nat → Int × Nat
  | [], f, k => (f, k)
  | x :: r, f, k => if Pr.ofT T x = 1 then rfr T r f 2 else if Pr.ofT T x = 0 then rfr T r x (k + 1) else rfr T r f k
theorem rfr_two (T : List Int) : ∀ (c : List Int) (f : Int) (k : Nat), 2 ≤ k → 2 ≤ (rfr T c f k).2
  | [], f, k, h => h
  | x :: r, f, k, h => by
    unfold rfr
    split
    · exact rfr_two T r f 2 (by omega)
    · split
      · exact rfr_two T r x (k + 1) (by omega)
      · exact rfr_two T r f k h
theorem frc_true {T r : List Int} {x f : Int} (a : Pr.ofT T x = 1) : Pr.frc T (x :: r) f = 0 := if_pos (.inl (by omega))
theorem frc_false {T r : List Int} {x f : Int} (a : Pr.ofT T x = -1) : Pr.frc T (x :: r) f = Pr.frc T r f := (if_neg (by omega)).trans (if_neg (by omega))
theorem frc_free {T r : List Int} {x : Int} (a : Pr.ofT T x = 0) : Pr.frc T (x :: r) 0 = Pr.frc T r x := (if_neg (by omega)).trans (if_pos a)
theorem frc_more {T r : List Int} {x f : Int} (a : Pr.ofT T x = 0) (h : f ≠ 0) : Pr.frc T (x :: r) f = 0 := if_pos (.inr ⟨a, h⟩)
theorem rfr_true {T r : List Int} {x f : Int} {k : Nat} (a : Pr.ofT T x = 1) : rfr T (x :: r) f k = rfr T r f 2 := if_pos a
theorem rfr_free {T r : List Int} {x f : Int} {k : Nat} (a : Pr.ofT T x = 0) : rfr T (x :: r) f k = rfr T r x (k + 1) := (if_neg (by omega)).trans (if_pos a)
theorem rfr_false {T r : List Int} {x f : Int} {k : Nat} (a : Pr.ofT T x = -1) : rfr T (x :: r) f k = rfr T r f k := (if_neg (by omega)).trans (if_neg (by omega))
theorem rfr_one (T : List Int) : ∀ (c : List Int) (f : Int), f ≠ 0 → Pr.frc T c f = if (rfr T c f 1).2 = 1 then (rfr T c f 1).1 else 0
  | [], f, h => by simp [Pr.frc, rfr]
  | x :: r, f, h => by
    rcases Pr.ofT_cases T x with ⟨a, _⟩ | ⟨a, _⟩ | ⟨a, _⟩
    · rw [frc_true a, rfr_true a, if_neg (by have := rfr_two T r f 2 (by omega); omega)]
    · rw [frc_false a, rfr_false a]
      exact rfr_one T r f h
    · rw [frc_more a h, rfr_free a, if_neg (by have := rfr_two T r x (1 + 1) (by omega); omega)]
theorem rfr_none (T : List Int) : ∀ (c : List Int) (f : Int), (∀ y ∈ c, y ≠ 0) → Pr.frc T c 0 = if (rfr T c f 0).2 = 1 then (rfr T c f 0).1 else 0
  | [], f, _ => by simp [Pr.frc, rfr]
  | x :: r, f, h => by
    have hr : ∀ y ∈ r, y ≠ 0 := fun y hy => h y (List.mem_cons_of_mem _ hy)
    rcases Pr.ofT_cases T x with ⟨a, _⟩ | ⟨a, _⟩ | ⟨a, _⟩
    · rw [frc_true a, rfr_true a, if_neg (by have := rfr_two T r f 2 (by omega); omega)]
    · rw [frc_false a, rfr_false a]
      exact rfr_none T r f hr
    · rw [frc_free a, rfr_free a]
      exact rfr_one T r x (h x (by simp))
theorem rfr_step (T c : List Int) (j : Nat) (hj : j < c.length) (f : Int) (k : Nat) : rfr T (c.drop j) f k = if Pr.ofT T (c.getD j 0) = 1 then rfr T (c.drop (j + 1)) f 2 else if Pr.ofT T (c.getD j 0) = 0 then rfr T (c.drop (j + 1)) (c.getD j 0) (k + 1) else rfr T (c.drop (j + 1)) f k := by
  rw [List.drop_eq_getElem_cons hj, List.getD_eq_getElem?_getD, List.getElem?_eq_getElem hj]; rfl
/-- What a call on the reference's trail leaves. -/
structure RTrRes (w w' : World) (q qs : Nat) (B Bt Bm Bt' Bm' : Option Addr) (cb ct cm n : Nat) (K : Nat → Prop) (L : List (List Int)) (T : List Int) (M : List Nat) : Prop where
  tr : RTrAt w' q qs B Bt' Bm' cb ct cm n K L T M
  upd : Upd (rF q Bt Bm) w w'
  own : ∀ i, rF q Bt' Bm' i → rF q Bt Bm i ∨ w.heap.size ≤ i
section
variable {w w' w1 w2 : World} {q qs cb ct cm ct1 cm1 n : Nat} {B Bt Bm Bt1 Bm1 Bt2 Bm2 : Option Addr} {K : Nat → Prop} {L : List (List Int)} {T T1 : List Int} {M M1 : List Nat}
theorem RTrRes.refl (h : RTrAt w q qs B Bt Bm cb ct cm n K L T M) : RTrRes w w q qs B Bt Bm Bt Bm cb ct cm n K L T M := ⟨h, Upd.refl _ _, fun i hi => .inl hi⟩
theorem RTrRes.trans (h : RTrRes w w1 q qs B Bt Bm Bt1 Bm1 cb ct cm n K L T M) (h' : RTrRes w1 w2 q qs B Bt1 Bm1 Bt2 Bm2 cb ct1 cm1 n K L T1 M1) : RTrRes w w2 q qs B Bt Bm Bt2 Bm2 cb ct1 cm1 n K L T1 M1 :=
  ⟨h'.tr, h.upd.comp h'.upd h.own, fun i hi => by
    rcases h'.own i hi with h9 | h9
    · exact h.own i h9
    · exact .inr (Nat.le_trans h.upd.size h9)⟩
theorem RTrRes.bel (h : RTrRes w w1 q qs B Bt Bm Bt1 Bm1 cb ct cm n K L T M) (hb : Below w1.heap.size w1 w2) : RTrRes w w2 q qs B Bt Bm Bt1 Bm1 cb ct cm n K L T M :=
  ⟨h.tr.below hb, h.upd.comp (Upd.of_quiet (T := fun _ => False) hb) (fun k h => h.elim), h.own⟩
end
theorem rtr_ne {w : World} {g base n : Nat} {v : Value} {xs : List Value} {C : Array Value} {e : TypeId} (ho : w.ownsRow base e 1 v n xs) (hb : Blk w g 92 C) (he : e ≠ 92) : ¬ v.ownBlock = some g := own_blk_ne ho hb he
theorem r_take {w w5 w6 : World} {q qs cb ct cm n c5 : Nat} {B Bt Bm A5 : Option Addr} {K : Nat → Prop} {L : List (List Int)} {T : List Int} {M : List Nat} {x : Int} (h : RTrAt w q qs B Bt Bm cb ct cm n K L T M)
    (hun : Un n (T ++ [x])) (ho5 : w5.ownsRow 0 37 1 (.slice A5 (T.length + 1) c5) (T.length + 1) (T.map (Value.int .i64) ++ [.int .i64 x])) (hu5 : Upd (fun k => (Value.slice Bt 0 0).ownBlock = some k) w w5)
    (hA5 : ∀ i, (Value.slice A5 0 0).ownBlock = some i → (Value.slice Bt 0 0).ownBlock = some i ∨ w.heap.size ≤ i) (hw6 : w6 = w5.setCell ⟨q, 1, none⟩ (.slice A5 (T.length + 1) c5)) :
    RTrRes w w6 q qs B Bt Bm A5 Bm cb c5 cm n K L (T ++ [x]) M := by
  have hb5 : Blk w5 q 92 _ := h.blk.upd hu5 (fun e => rtr_ne h.lits h.blk (by decide) (by rw [← e]; exact ownB))
  have hl5 : w5.ownsRow 0 3 1 (.slice Bm M.length cm) M.length (M.map fun (k : Nat) => Value.int .i64 (k : Int)) := own_upd h.lev hu5 (fun i hi e => own_two h.lits h.lev (by decide) i (by rw [← e]; exact ownB) hi)
  have hk5 : ∀ i, K i → ¬ (Value.slice Bt 0 0).ownBlock = some i := fun i hi e => (h.k i hi).2.1 e
  have hu6 : Upd (fun i => i = q) w5 w6 := by
    rw [hw6]
    exact (Upd.refl (fun i => i = q) w5).setCell (p := ⟨q, 1, none⟩) (.inl rfl) _
  have hml : (T ++ [x]).length = T.length + 1 := by rw [List.length_append]; rfl
  refine ⟨⟨?_, ?_, ?_, h.ks, ?_, ?_, hun, h.cl, h.n, h.len, h.sh, ?_⟩, ?_, ?_⟩
  · rw [hw6, hml]
    exact (hb5.set_ 1 (.slice A5 (T.length + 1) c5)).cast (by simp)
  · exact (h.sblk.upd hu5 (hk5 qs h.ks)).upd hu6 (fun e => (h.k qs h.ks).1 e)
  · exact (h.cls.upd hu5 hk5).upd hu6 (fun i hi e => (h.k i hi).1 e)
  · rw [hml, List.map_append]
    exact own_upd ho5 hu6 (fun i hi e => by subst e; exact rtr_ne ho5 hb5 (by decide) hi)
  · exact own_upd hl5 hu6 (fun i hi e => by subst e; exact rtr_ne hl5 hb5 (by decide) hi)
  · intro i hi
    have h9 := h.k i hi
    refine ⟨h9.1, fun e => ?_, h9.2.2⟩
    rcases hA5 i e with h8 | h8
    · exact h9.2.1 h8
    · have := h.cls.1 i hi; omega
  · exact (hu5.mono (fun i _ hi => .inr (.inl hi))).trans (hu6.mono (fun i _ hi => .inl hi))
  · rintro i (hi | hi | hi)
    · exact .inl (.inl hi)
    · rcases hA5 i hi with h8 | h8
      · exact .inl (.inr (.inl h8))
      · exact .inr h8
    · exact .inl (.inr (.inr hi))
section
variable (q qs cb ct cm n : Nat) (B Bt Bm : Option Addr) (K : Nat → Prop) (L : List (List Int)) (T : List Int) (M : List Nat)
set_option maxRecDepth 100000 in
set_option maxHeartbeats 4000000 in
theorem RFollow_any (w : World) (h : RTrAt w q qs B Bt Bm cb ct cm n K L T M) :
    Calls Try.prog 84 #[.pointer (some ⟨q, 0, none⟩)] w fun e w' => e = .returned (.tuple #[]) ∧ ∃ R Bt' ct', Pr.Fol L T R ∧ RTrRes w w' q qs B Bt Bm Bt' Bm cb ct' cm n K L R M := by
  obtain ⟨i0, hi0, hz0, hz1, hz2⟩ := info_parts lit_row
  have hnn := h.n
  have HT0 := Lib.hid (RTrRes.refl h)
  have HTL : Hid (T.length ≤ n) := Lib.hid (Pr.un_len h.un)
  have HCL := Lib.hid h.cl
  have HSH := Lib.hid h.sh
  have hlen := h.len
  clear h
  go_enter Try.func84, Try.ntmps84
  go_wp2_with fail
  go_loopg [2] (2 * n + 1) (fun k mo wr => ∃ (m : Bool) (T1 : List Int) (At1 : Option Addr) (ct1 : Nat), mo = .bool m ∧ (if m then 1 else 0) + 2 * (n - T1.length) ≤ k ∧ Hid (FolSt L T T1 m) ∧ Hid (RTrRes w wr q qs B Bt Bm At1 Bm cb ct1 cm n K L T1 M))
  case atStart => exact ⟨true, T, Bt, ct, rfl, by simp; omega, Lib.hid (fun R h => h), HT0⟩
  case round =>
    obtain ⟨m, T1, At1, ct1, rfl, hk, HF, HT⟩ := hrel
    clear HT0
    cases m with
    | false =>
      go_wp2_with fail
      go_end0
      exact ⟨rfl, T1, At1, ct1, HF.out, HT.out⟩
    | true =>
      have hk' : 1 + 2 * (n - T1.length) ≤ gk := by simpa using hk
      have k0 : wr.cell? ⟨q, 0, none⟩ = some (.pointer (some ⟨qs, 0, none⟩)) := HT.out.tr.blk.cell 0
      have k1 : wr.cell? ⟨qs, 1, none⟩ = some (.slice B L.length cb) := HT.out.tr.sblk.cell 1
      have HUN := Lib.hid HT.out.tr.un
      clear hk
      go_wp2_with fail
      go_loopw [2, 19] (fun mo t wx => ∃ (j : Nat) (mi : Bool) (T2 : List Int) (At2 : Option Addr) (ct2 : Nat), mo = .bool mi ∧ t = .int .i64 (j : Int) ∧ j ≤ L.length ∧ Hid (Pr.pass (L.drop j) T2 mi = Pr.pass L T1 false) ∧ Hid (RTrRes w wx q qs B Bt Bm At2 Bm cb ct2 cm n K L T2 M)) (fun _ t _ => L.length - (match t with | .int _ x => x.toNat | _ => 0))
      case atStart => exact ⟨0, false, T1, At1, ct1, rfl, rfl, Nat.zero_le _, Lib.hid rfl, HT⟩
      case round =>
        obtain ⟨j, mi, T2, At2, ct2, rfl, rfl, hj, HP, HT2⟩ := hrel
        clear HT k0 k1
        by_cases hlt : j < L.length
        · obtain ⟨b, hA, hKb, hcell⟩ := HT2.out.tr.cls.2 (by omega)
          obtain ⟨Aj, cj, kc, hlj, _⟩ := hcell j hlt
          have hst := pass_step L T2 mi j hlt
          rw [HP.out] at hst
          obtain ⟨c, hc⟩ : ∃ c, c = L[j] := ⟨_, rfl⟩
          have hcm : c ∈ L := by rw [hc]; exact List.getElem_mem hlt
          rw [← hc] at kc hlj hst
          have hsh := HSH.out c hcm
          have hcv := HCL.out c hcm
          have HCV := Lib.hid hcv
          obtain ⟨x, hx⟩ : ∃ x, x = Pr.forced T2 c := ⟨_, rfl⟩
          have hxr := rfr_none T2 c 0 (fun y hy h9 => by
              have := (hcv y hy).1
              rw [h9] at this
              unfold Cf.va at this
              omega)
          have hxr2 : x = if (rfr T2 c 0 0).2 = 1 then (rfr T2 c 0 0).1 else 0 := by rw [hx]; exact hxr
          have HXR := Lib.hid hxr2
          have HXF := Lib.hid hx
          rw [← hx] at hst
          have HST := Lib.hid hst
          obtain ⟨d, hd⟩ : ∃ d, d = c.length := ⟨_, rfl⟩
          rw [← hd] at kc hlj hsh
          have HD := Lib.hid hd
          have HLJ := Lib.hid hlj
          have HRV : Hid (∀ y, -100000 ≤ y ∧ y ≤ 100000 → Calls Try.prog 86 #[.pointer (some ⟨q, 0, none⟩), .int .i64 y] wr fun e w' => e = .returned (.int .i64 (Pr.ofT T2 y)) ∧ wr = w') := Lib.hid (fun y hy => RValue_any q qs cb ct2 cm n B At2 Bm K L T2 M y wr HT2.out.tr hy)
          have i1 : (j : Int) < (L.length : Int) := by omega
          subst hA
          clear hst hx hxr hxr2 hcell hlj hcm hcv hc hd
          go_wp2_with fail
          go_loopw [5, 6, 25] (fun f k t wx => ∃ (i : Nat) (fi : Int) (ki : Nat), f = .int .i64 fi ∧ k = .int .i64 (ki : Int) ∧ t = .int .i64 (i : Int) ∧ i ≤ d ∧ ki ≤ i + 2 ∧ Hid (rfr T2 (c.drop i) fi ki = rfr T2 c 0 0) ∧ wx = wr) (fun _ _ t _ => d - (match t with | .int _ x => x.toNat | _ => 0))
          case atStart => exact ⟨0, 0, 0, rfl, rfl, rfl, Nat.zero_le _, by omega, Lib.hid rfl, rfl⟩
          case round =>
            obtain ⟨i, fi, ki, rfl, rfl, rfl, hi, hki, HR, hwx⟩ := hrel
            subst hwx
            by_cases hlt2 : i < d
            · obtain ⟨b2, o2, hAj, _, hcell⟩ := HLJ.out.2.2 (by omega)
              obtain ⟨y, hy⟩ : ∃ y, y = c.getD i 0 := ⟨_, rfl⟩
              have ky := hcell i hlt2
              rw [← hy] at ky
              have hil : i < c.length := by have := HD.out; omega
              have hyv := HCV.out y (by
                rw [hy, List.getD_eq_getElem?_getD, List.getElem?_eq_getElem hil]
                exact List.getElem_mem _)
              have HV := Lib.hid (HRV.out y (by unfold Cf.va at hyv; omega))
              have hst := rfr_step T2 c i hil fi ki
              rw [HR.out, ← hy] at hst
              have hbd := ofT_bd T2 y
              obtain ⟨v, hv⟩ : ∃ v, v = Pr.ofT T2 y := ⟨_, rfl⟩
              rw [← hv] at HV hst hbd
              have HS := Lib.hid hst
              have i2 : (i : Int) < (d : Int) := by omega
              subst hAj
              clear hcell hy hil hyv hst hv
              rcases (show v = -1 ∨ v = 0 ∨ v = 1 by omega) with rfl | rfl | rfl
              · have HS2 : Hid (rfr T2 (c.drop (i + 1)) fi ki = rfr T2 c 0 0) := Lib.hid (by have := HS.out; rw [if_neg (by omega), if_neg (by omega)] at this; exact this.symm)
                clear hbd HS
                go_wp2_with (go_at_call 86; refine HV.out.mono ?_; rintro e w2 ⟨rfl, rfl⟩)
                refine ⟨⟨i + 1, fi, ki, rfl, rfl, by go_num, by omega, by omega, HS2, trivial⟩, ?_⟩
                show d - ((i : Int) + 1).toNat < d - (i : Int).toNat
                omega
              · have HS2 : Hid (rfr T2 (c.drop (i + 1)) y (ki + 1) = rfr T2 c 0 0) := Lib.hid (by have := HS.out; rw [if_neg (by omega), if_pos rfl] at this; exact this.symm)
                clear hbd HS
                go_wp2_with (go_at_call 86; refine HV.out.mono ?_; rintro e w2 ⟨rfl, rfl⟩)
                refine ⟨⟨i + 1, y, ki + 1, rfl, by go_num, by go_num, by omega, by omega, HS2, trivial⟩, ?_⟩
                show d - ((i : Int) + 1).toNat < d - (i : Int).toNat
                omega
              · have HS2 : Hid (rfr T2 (c.drop (i + 1)) fi 2 = rfr T2 c 0 0) := Lib.hid (by have := HS.out; rw [if_pos rfl] at this; exact this.symm)
                clear hbd HS
                go_wp2_with (go_at_call 86; refine HV.out.mono ?_; rintro e w2 ⟨rfl, rfl⟩)
                refine ⟨⟨i + 1, fi, 2, rfl, rfl, by go_num, by omega, by omega, HS2, trivial⟩, ?_⟩
                show d - ((i : Int) + 1).toNat < d - (i : Int).toNat
                omega
            · have hid' : (i : Int) = (d : Int) := by omega
              have HE : Hid (rfr T2 c 0 0 = (fi, ki)) := Lib.hid (by rw [← HR.out, List.drop_of_length_le (by have := HD.out; omega)]; rfl)
              have hxe : x = if ki = 1 then fi else 0 := by rw [HXR.out, HE.out]
              have HXE := Lib.hid hxe
              clear hxe HR HE HXR
              by_cases h0 : x = 0
              · have hst2 := HST.out
                rw [if_pos h0] at hst2
                have HP2 := Lib.hid hst2.symm
                have hno : ¬ (ki = 1 ∧ fi ≠ 0) := fun h9 => by
                  have := HXE.out
                  rw [if_pos h9.1] at this
                  exact h9.2 (by omega)
                by_cases hk1 : ki = 1
                · have hf0 : fi = 0 := Classical.byContradiction fun h9 => hno ⟨hk1, h9⟩
                  subst hk1
                  subst hf0
                  clear hst2 HST h0 hno
                  go_wp2_with fail
                  refine ⟨⟨j + 1, mi, T2, At2, ct2, rfl, by go_num, by omega, HP2, HT2⟩, ?_⟩
                  show L.length - ((j : Int) + 1).toNat < L.length - (j : Int).toNat
                  omega
                · have hd1 : ((ki : Int) == 1) = false := by rw [beq_eq_false_iff_ne]; omega
                  clear hst2 HST h0 hno
                  go_wp2_with fail
                  refine ⟨⟨j + 1, mi, T2, At2, ct2, rfl, by go_num, by omega, HP2, HT2⟩, ?_⟩
                  show L.length - ((j : Int) + 1).toNat < L.length - (j : Int).toNat
                  omega
              · have hst2 := HST.out
                rw [if_neg h0] at hst2
                have HP2 := Lib.hid hst2.symm
                have hk1 : ki = 1 := Classical.byContradiction fun h9 => by
                  have := HXE.out
                  rw [if_neg h9] at this
                  exact h0 this
                have hfx : fi = x := by have := HXE.out; rw [if_pos hk1] at this; exact this.symm
                subst hk1
                subst hfx
                have h0' : (fi != 0) = true := by rw [bne_iff_ne]; exact h0
                have hfg := Pr.forced_good (T := T2) (c := c) (fun y hy h9 => by
                  have := (HCV.out y hy).1
                  rw [h9] at this
                  unfold Cf.va at this
                  omega) (by rw [← HXF.out]; exact h0)
                rw [← HXF.out] at hfg
                have HUNX := Lib.hid (Pr.un_snoc HT2.out.tr.un (HCV.out fi hfg.1) hfg.2.1)
                obtain ⟨t, ht⟩ : ∃ t, t = T2.length := ⟨_, rfl⟩
                have htl := HT2.out.tr.tlen
                have HBK : Hid (Blk wr q 92 #[.pointer (some ⟨qs, 0, none⟩), .slice At2 t ct2, .slice Bm M.length cm]) := Lib.hid (by rw [ht]; exact HT2.out.tr.blk)
                have HOL : Hid (wr.ownsRow 0 37 1 (.slice At2 t ct2) t (T2.map (Value.int .i64))) := Lib.hid (by rw [ht]; exact HT2.out.tr.lits)
                have c1 : wr.cell? ⟨q, 1, none⟩ = some (.slice At2 t ct2) := HBK.out.cell 1
                have hlq := HBK.out.lt
                rw [← ht] at htl
                have HTE := Lib.hid ht
                clear hst2 HST h0 hfg ht
                go_wp2_with (at_builtin; refine wpList_append_any _ rfl (.tmp 50) (.tmp 52) 22 rfl 0 37 i0 _ 1 8 Try.underlying22 hi0 hz0 hz1 hz2 rfl (by decide) _ t _ rfl (HOL.out.alloc _) (wr.heap.size + 1) (some ⟨wr.heap.size, 0, none⟩) 1 1 [.int .i64 fi] rfl (reads_one (Blk.new _ _ _) (by omega)) (ints_one [fi]) (by unfold maxLen; omega) (by omega) (Nat.zero_le _) ?_; intro v5 w5 hown5 hg5 hat5; have HOW5 := Lib.hid hown5; have HU5 : Hid (Upd (fun k => (Value.slice At2 0 0).ownBlock = some k) wr w5) := Lib.hid (((Upd.refl _ wr).alloc _).grown hg5 (fun j hj => .inl (by rw [← hj]; exact ownB))); have HB5 := Lib.hid (HBK.out.upd HU5.out (fun h => rtr_ne HOL.out HBK.out (by decide) (by rw [← h]; exact ownB))); have f5 : w5.frozen? ⟨q, 1, none⟩ = false := HB5.out.frozen 1; have k5 : w5.cell? ⟨q, 1, none⟩ = some (.slice At2 t ct2) := HB5.out.cell 1; have HO5 : Hid (∀ j, v5.ownBlock = some j → (Value.slice At2 0 0).ownBlock = some j ∨ wr.heap.size ≤ j) := Lib.hid (fun j hj => own_or At2 t ct2 v5.ownBlock wr.heap.size j hj (by rcases hat5 with h | h; (· exact .inl h); (· exact .inr (h.trans (by rw [World.size_alloc]))))); obtain ⟨A5, c5, rfl⟩ := ownL_shape hown5; clear hown5 hg5 hat5)
                have hres := r_take (w6 := w5.setCell ⟨q, 1, none⟩ (.slice A5 (t + 1) c5)) HT2.out.tr HUNX.out (by rw [← HTE.out]; exact HOW5.out) HU5.out (fun i hi => HO5.out i (by rw [← hi]; exact ownB)) (by rw [← HTE.out])
                refine ⟨⟨j + 1, true, T2 ++ [fi], A5, c5, rfl, by go_num, by omega, HP2, Lib.hid (HT2.out.trans hres)⟩, ?_⟩
                show L.length - ((j : Int) + 1).toNat < L.length - (j : Int).toNat
                omega
        · have hjl : (j : Int) = (L.length : Int) := by omega
          have hpe : Pr.pass L T1 false = (T2, mi) := by rw [← HP.out, List.drop_of_length_le (by omega)]; rfl
          have HF2 := Lib.hid (HF.out.next hpe)
          have hun := Pr.pass_un (m := false) HUN.out HCL.out
          rw [hpe] at hun
          have hln : T2.length ≤ n := Pr.un_len hun.1
          have hl1 : T1.length ≤ T2.length := hun.2.1.length_le
          have hl2 : mi = true → T1.length < T2.length := fun e => by
            rcases hun.2.2.1 e with h | h
            · cases h
            · exact h
          have HME : Hid ((if mi then 1 else 0) + 2 * (n - T2.length) < gk) := Lib.hid (by
            cases mi with
            | true => have := hl2 rfl; simp; omega
            | false => simp; omega)
          clear hpe hun hln hl1 hl2 hk' HP HF
          go_wp2_with fail
          go_roundg ((if mi then 1 else 0) + 2 * (n - T2.length))
          case measure => exact HME.out
          case rel => exact ⟨mi, T2, At2, ct2, rfl, Nat.le_refl _, HF2, HT2⟩
end
end Go.Proofs.Ytghfelfljblkbaa
