/- prop: follow. -/
import Derived.Test.YtghfelfljblkbaaTr
import Derived.Deep.LoopGhost
namespace Go.Proofs.Ytghfelfljblkbaa
open Go.RowKit Go.Sort
set_option linter.unusedVariables false

/-- What has been followed so far. -/
def FolSt (L : List (List Int)) (T T1 : List Int) : Bool → Prop
  | true => ∀ R, Pr.Fol L T1 R → Pr.Fol L T R
  | false => Pr.Fol L T T1
theorem FolSt.next {L : List (List Int)} {T T1 T2 : List Int} {m : Bool} (h : FolSt L T T1 true) (e : Pr.pass L T1 false = (T2, m)) : FolSt L T T2 m := by
  cases m with
  | true => exact fun R hR => h R (.more e hR)
  | false => exact h T2 (.stop e)
theorem pass_step (L : List (List Int)) (T : List Int) (m : Bool) (j : Nat) (hj : j < L.length) : Pr.pass (L.drop j) T m = if Pr.forced T L[j] = 0 then Pr.pass (L.drop (j + 1)) T m else Pr.pass (L.drop (j + 1)) (T ++ [Pr.forced T L[j]]) true := by
  rw [List.drop_eq_getElem_cons hj]; rfl
/-- What a call on a trail leaves. -/
structure TrRes (w w' : World) (p gv : Nat) (Al At Am At' Am' : Option Addr) (cl ct cm n : Nat) (K : Nat → Prop) (L : List (List Int)) (T : List Int) (M : List Nat) : Prop where
  tr : TrAt w' p gv Al At' Am' cl ct cm n K L T M
  upd : Upd (tF p gv At Am) w w'
  own : ∀ i, tF p gv At' Am' i → tF p gv At Am i ∨ w.heap.size ≤ i
theorem TrRes.refl {w : World} {p gv cl ct cm n : Nat} {Al At Am : Option Addr} {K : Nat → Prop} {L : List (List Int)} {T : List Int} {M : List Nat} (h : TrAt w p gv Al At Am cl ct cm n K L T M) : TrRes w w p gv Al At Am At Am cl ct cm n K L T M := ⟨h, Upd.refl _ _, fun i hi => .inl hi⟩
theorem TrRes.trans {w w1 w2 : World} {p gv cl ct cm ct1 cm1 n : Nat} {Al At Am At1 Am1 At2 Am2 : Option Addr} {K : Nat → Prop} {L : List (List Int)} {T T1 : List Int} {M M1 : List Nat} (h : TrRes w w1 p gv Al At Am At1 Am1 cl ct cm n K L T M) (h' : TrRes w1 w2 p gv Al At1 Am1 At2 Am2 cl ct1 cm1 n K L T1 M1) : TrRes w w2 p gv Al At Am At2 Am2 cl ct1 cm1 n K L T1 M1 :=
  ⟨h'.tr, h.upd.comp h'.upd h.own, fun i hi => by
    rcases h'.own i hi with h9 | h9
    · exact h.own i h9
    · exact .inr (Nat.le_trans h.upd.size h9)⟩
theorem TrRes.bel {w w' : World} {p gv cl ct cm n : Nat} {Al At Am At' Am' : Option Addr} {K : Nat → Prop} {L : List (List Int)} {T : List Int} {M : List Nat} (h : TrRes w w' p gv Al At Am At' Am' cl ct cm n K L T M) {w2 : World} (hb : Below w'.heap.size w' w2) : TrRes w w2 p gv Al At Am At' Am' cl ct cm n K L T M :=
  ⟨h.tr.below hb, h.upd.comp (Upd.of_quiet (T := fun _ => False) hb) (fun k h => h.elim), h.own⟩
/-- A take's leavings. -/
theorem TrRes.take {w w' : World} {p gv cl ct' cm n : Nat} {Al At Am At' : Option Addr} {K : Nat → Prop} {L : List (List Int)} {T : List Int} {M : List Nat} (h : TrAt w' p gv Al At' Am cl ct' cm n K L T M) (hu : Upd (tF p gv At Am) w w') (ho : ∀ i, (Value.slice At' 0 0).ownBlock = some i → (Value.slice At 0 0).ownBlock = some i ∨ w.heap.size ≤ i) : TrRes w w' p gv Al At Am At' Am cl ct' cm n K L T M :=
  ⟨h, hu, fun i hi => by
    rcases hi with hi | hi | hi | hi
    · exact .inl (.inl hi)
    · exact .inl (.inr (.inl hi))
    · rcases ho i hi with h9 | h9
      · exact .inl (.inr (.inr (.inl h9)))
      · exact .inr h9
    · exact .inl (.inr (.inr (.inr hi)))⟩
set_option maxRecDepth 100000 in
set_option maxHeartbeats 2000000 in
theorem follow_any (p gv cl ct cm n : Nat) (Al At Am : Option Addr) (K : Nat → Prop) (L : List (List Int)) (T : List Int) (M : List Nat) (w : World) (h : TrAt w p gv Al At Am cl ct cm n K L T M) :
    Calls Try.prog 78 #[.pointer (some ⟨p, 0, none⟩)] w fun e w' => e = .returned (.tuple #[]) ∧ ∃ R At' ct', Pr.Fol L T R ∧ TrRes w w' p gv Al At Am At' Am cl ct' cm n K L R M := by
  have hnn := h.n
  have HT0 := Lib.hid (TrRes.refl h)
  have HTL : Hid (T.length ≤ n) := Lib.hid (Pr.un_len h.un)
  have HCL := Lib.hid h.cl
  have HSH := Lib.hid h.sh
  clear h
  go_enter Try.func78, Try.ntmps78
  go_wp2_with fail
  go_loopg [2] (2 * n + 1) (fun k mo wr => ∃ (m : Bool) (T1 : List Int) (At1 : Option Addr) (ct1 : Nat), mo = .bool m ∧ (if m then 1 else 0) + 2 * (n - T1.length) ≤ k ∧ Hid (FolSt L T T1 m) ∧ Hid (TrRes w wr p gv Al At Am At1 Am cl ct1 cm n K L T1 M))
  case atStart => exact ⟨true, T, At, ct, rfl, by simp; omega, Lib.hid (fun R h => h), HT0⟩
  case round =>
    obtain ⟨m, T1, At1, ct1, rfl, hk, HF, HT⟩ := hrel
    clear HT0
    cases m with
    | false =>
      go_wp2_with fail
      go_end0
      exact ⟨rfl, T1, At1, ct1, HF.out, HT.out⟩
    | true =>
      have hk' : 1 + 2 * (n - T1.length) ≤ gk := by simpa using hk
      have k0 : wr.cell? ⟨p, 0, none⟩ = some (.slice Al L.length cl) := HT.out.tr.blk.cell 0
      have hlen := HT.out.tr.len
      have HUN := Lib.hid HT.out.tr.un
      clear hk
      go_wp2_with fail
      go_loopw [2, 12] (fun mo t wx => ∃ (j : Nat) (mi : Bool) (T2 : List Int) (At2 : Option Addr) (ct2 : Nat), mo = .bool mi ∧ t = .int .i64 (j : Int) ∧ j ≤ L.length ∧ Hid (Pr.pass (L.drop j) T2 mi = Pr.pass L T1 false) ∧ Hid (TrRes w wx p gv Al At Am At2 Am cl ct2 cm n K L T2 M)) (fun _ t _ => L.length - (match t with | .int _ x => x.toNat | _ => 0))
      case atStart => exact ⟨0, false, T1, At1, ct1, rfl, rfl, Nat.zero_le _, Lib.hid rfl, HT⟩
      case round =>
        obtain ⟨j, mi, T2, At2, ct2, rfl, rfl, hj, HP, HT2⟩ := hrel
        clear HT k0
        by_cases hlt : j < L.length
        · obtain ⟨b, hA, hKb, hcell⟩ := HT2.out.tr.cls.2 (by omega)
          obtain ⟨Aj, cj, kc, hlj, _⟩ := hcell j hlt
          have hst := pass_step L T2 mi j hlt
          rw [HP.out] at hst
          obtain ⟨c, hc⟩ : ∃ c, c = L[j] := ⟨_, rfl⟩
          have hcm : c ∈ L := by rw [hc]; exact List.getElem_mem hlt
          rw [← hc] at kc hlj hst
          have hsh := HSH.out c hcm
          have hcv := HCL.out c hcm
          have HFC := Lib.hid (forced_any p gv cl ct2 cm n Al At2 Am K L T2 M Aj c.length cj c wr HT2.out.tr hlj hsh (fun y hy => (hcv y hy).2))
          obtain ⟨x, hx⟩ : ∃ x, x = Pr.forced T2 c := ⟨_, rfl⟩
          rw [← hx] at HFC hst
          have HST := Lib.hid hst
          have i1 : (j : Int) < (L.length : Int) := by omega
          subst hA
          by_cases h0 : x = 0
          · have hst2 := HST.out
            rw [if_pos h0] at hst2
            have HP2 := Lib.hid hst2.symm
            have h0' : (x != 0) = false := by rw [h0]; rfl
            clear hst hst2 hx hcell hlj hcm hsh hcv hc HST h0
            go_wp2_with (go_at_call 102; refine HFC.out.mono ?_; rintro e w2 ⟨rfl, rfl⟩)
            refine ⟨⟨j + 1, mi, T2, At2, ct2, rfl, by go_num, by omega, HP2, HT2⟩, ?_⟩
            show L.length - ((j : Int) + 1).toNat < L.length - (j : Int).toNat
            omega
          · have hst2 := HST.out
            rw [if_neg h0] at hst2
            have HP2 := Lib.hid hst2.symm
            have h0' : (x != 0) = true := by rw [bne_iff_ne]; exact h0
            have hfg := Pr.forced_good (T := T2) (c := c) (fun y hy h9 => by
              have := (hcv y hy).1
              rw [h9] at this
              unfold Cf.va at this
              omega) (by rw [← hx]; exact h0)
            rw [← hx] at hfg
            have HTK := Lib.hid (take_any p gv cl ct2 cm n (some ⟨b, 0, none⟩) At2 Am K L T2 M x wr HT2.out.tr (hcv x hfg.1) hfg.2.1)
            clear hst hst2 hx hcell hlj hcm hsh hcv hc HST h0 hfg
            go_wp2_with fail
            go_at_call 102
            refine HFC.out.mono ?_
            rintro e w2 ⟨rfl, rfl⟩
            go_wp2_with fail
            go_at_call 80
            refine HTK.out.mono ?_
            rintro e w3 ⟨rfl, hu3, At3, ct3, ht3, ho3⟩
            have HT3 := Lib.hid (HT2.out.trans (TrRes.take ht3 hu3 ho3))
            clear hu3 ht3 ho3
            go_wp2_with fail
            refine ⟨⟨j + 1, true, T2 ++ [x], At3, ct3, rfl, by go_num, by omega, HP2, HT3⟩, ?_⟩
            show L.length - ((j : Int) + 1).toNat < L.length - (j : Int).toNat
            omega
        · have hjl : (j : Int) = (L.length : Int) := by omega
          have hpe : Pr.pass L T1 false = (T2, mi) := by rw [← HP.out, List.drop_of_length_le (by omega)]; rfl
          have HF2 := Lib.hid (HF.out.next hpe)
          have hun := Pr.pass_un (m := false) HUN.out HCL.out
          rw [hpe] at hun
          have hln : T2.length ≤ n := Pr.un_len hun.1
          have hl1 : T1.length ≤ T2.length := hun.2.1.length_le
          have hl2 : mi = true → T1.length < T2.length := fun e => by
            rcases hun.2.2.1 e with h | h
            · cases h
            · exact h
          have HME : Hid ((if mi then 1 else 0) + 2 * (n - T2.length) < gk) := Lib.hid (by
            cases mi with
            | true => have := hl2 rfl; simp; omega
            | false => simp; omega)
          clear hpe hun hln hl1 hl2 hk' HP HF
          go_wp2_with fail
          go_roundg ((if mi then 1 else 0) + 2 * (n - T2.length))
          case measure => exact HME.out
          case rel => exact ⟨mi, T2, At2, ct2, rfl, Nat.le_refl _, HF2, HT2⟩
end Go.Proofs.Ytghfelfljblkbaa
