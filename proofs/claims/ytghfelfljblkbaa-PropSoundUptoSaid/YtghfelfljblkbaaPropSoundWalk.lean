/- PropSound: the walk. -/
import Derived.Test.YtghfelfljblkbaaWas
import Derived.Test.YtghfelfljblkbaaFirst
namespace Go.Proofs.Ytghfelfljblkbaa
open Go.RowKit Go.Sort
set_option linter.unusedVariables false

/-- What is on the trail holds in every model with what was pushed. -/
def Snd (L : List (List Int)) (us T : List Int) : Prop := ∀ bs, holdsL bs L = true → (∀ x ∈ us, hv bs x = true) → ∀ x ∈ T, hv bs x = true
theorem Snd.start {n : Nat} {L : List (List Int)} {R : List Int} (hn : n ≤ 200) (hf : Pr.Fol L [] R) (hL : Pr.Cl n L) : Snd L [] R := fun bs h1 _ => Pr.fol_sound hn hf hL h1 (fun x hx => by cases hx)
theorem Snd.push {n : Nat} {L : List (List Int)} {us T R : List Int} {x : Int} (h : Snd L us T) (hn : n ≤ 200) (hf : Pr.Fol L (T ++ [x]) R) (hL : Pr.Cl n L) : Snd L (us ++ [x]) R := fun bs h1 h2 => by
  refine Pr.fol_sound hn hf hL h1 fun y hy => ?_
  rcases List.mem_append.1 hy with h9 | h9
  · exact h bs h1 (fun z hz => h2 z (by simp [hz])) y h9
  · rw [List.mem_singleton.1 h9]; exact h2 x (by simp)
theorem mod_all {L : List (List Int)} {A : List Int} {bs : List Bool} (h : mod L A bs = true) : holdsL bs L = true ∧ ∀ x ∈ A, hv bs x = true := by
  unfold mod at h
  have h2 := (Bool.and_eq_true _ _).mp h
  exact ⟨h2.1, fun x hx => List.all_eq_true.1 h2.2 x hx⟩
theorem snd_clash {n : Nat} {L : List (List Int)} {us T : List Int} {r : Option (List Bool)} (hn : n ≤ 200) (h : Snd L us T) (hL : Pr.Cl n L) (hc : 0 ≤ Pr.clash L T) (hr : FirstIs n L us r) : r = none := by
  cases r with
  | none => rfl
  | some bs =>
    obtain ⟨_, k, _, _, hm, _⟩ := hr
    obtain ⟨a, b⟩ := mod_all hm
    have := Pr.clash_sound hn hL hc (h bs a b)
    rw [a] at this
    cases this
theorem snd_not {n : Nat} {L : List (List Int)} {us T : List Int} {x : Int} {r : Option (List Bool)} (h : Snd L us T) (hx : x ∈ T) (hv1 : 1 ≤ Cf.va x) (hv2 : Cf.va x ≤ 200) (hr : FirstIs n L (us ++ [-x]) r) : r = none := by
  cases r with
  | none => rfl
  | some bs =>
    obtain ⟨_, k, _, _, hm, _⟩ := hr
    obtain ⟨a, b⟩ := mod_all hm
    have h1 := h bs a (fun z hz => b z (by simp [hz])) x hx
    have h2 := b (-x) (by simp)
    rw [hv_neg hv1 hv2, h1] at h2
    cases h2
/-- A trail, and what was pushed, kept beside it. -/
structure PS (w1 w3 w : World) (p gv : Nat) (Al At Am U : Option Addr) (cl ct cm cu n k : Nat) (K : Nat → Prop) (L : List (List Int)) (T : List Int) (M : List Nat) (us : List Int) : Prop where
  tr : TrAt w p gv Al At Am cl ct cm n K L T M
  row : w.ownsRow w3.heap.size 37 1 (.slice U k cu) k (us.map (Value.int .i64))
  len : us.length = k
  no : ∀ i, (Value.slice U 0 0).ownBlock = some i → ¬ tF p gv At Am i
  snd : Snd L us T
  ok : ∀ z ∈ us, Ok z
  ml : M.length ≤ k
  b1 : Below w1.heap.size w1 w
  b3 : w3.heap.size ≤ w.heap.size
  b13 : w1.heap.size ≤ w3.heap.size
  lo : ∀ i, tF p gv At Am i → w1.heap.size ≤ i
  kk : ∀ i, K i → i < w3.heap.size
section
variable {w1 w3 w w' w5 : World} {p gv : Nat} {Al At Am U At' Am' A5 : Option Addr} {cl ct cm cu ct' cm' c5 n k : Nat} {K : Nat → Prop} {L : List (List Int)} {T R : List Int} {M M' : List Nat} {us : List Int} {x : Int}
theorem PS.below (h : PS w1 w3 w p gv Al At Am U cl ct cm cu n k K L T M us) (hb : Below w.heap.size w w') : PS w1 w3 w' p gv Al At Am U cl ct cm cu n k K L T M us :=
  ⟨h.tr.below hb, ownL_later h.row hb, h.len, h.no, h.snd, h.ok, h.ml, h.b1.trans (hb.mono h.b1.size), Nat.le_trans h.b3 hb.size, h.b13, h.lo, h.kk⟩
theorem PS.row' (h : PS w1 w3 w p gv Al At Am U cl ct cm cu n k K L T M us) (hr : TrRes w w' p gv Al At Am At' Am' cl ct' cm' n K L R M') : w'.ownsRow w3.heap.size 37 1 (.slice U k cu) k (us.map (Value.int .i64)) :=
  own_upd h.row hr.upd (fun i hi => h.no i (by rw [← hi]; exact ownB))
theorem PS.step (h : PS w1 w3 w p gv Al At Am U cl ct cm cu n k K L T M us) (hr : TrRes w w' p gv Al At Am At' Am' cl ct' cm' n K L R M') (hm : M'.length = M.length + 1) (hn : n ≤ 200) (hf : Pr.Fol L (T ++ [x]) R) (hL : Pr.Cl n L) (hx : Ok x)
    (ho5 : w5.ownsRow w3.heap.size 37 1 (.slice A5 (k + 1) c5) (k + 1) (us.map (Value.int .i64) ++ [.int .i64 x])) (hu5 : Upd (fun i => (Value.slice U 0 0).ownBlock = some i) w' w5)
    (hA5 : ∀ i, (Value.slice A5 0 0).ownBlock = some i → (Value.slice U 0 0).ownBlock = some i ∨ w'.heap.size ≤ i) : PS w1 w3 w5 p gv Al At' Am' A5 cl ct' cm' c5 n (k + 1) K L R M' (us ++ [x]) := by
  have hoU : ∀ i, (Value.slice U 0 0).ownBlock = some i → w3.heap.size ≤ i ∧ i < w.heap.size := fun i hi => h.row.lt i (by rw [← hi]; exact ownB)
  have hno : ∀ i, tF p gv At' Am' i → ¬ (Value.slice U 0 0).ownBlock = some i := fun i hi e => by
    rcases hr.own i hi with h9 | h9
    · exact h.no i e h9
    · have := (hoU i e).2; omega
  have hsz : w3.heap.size ≤ w'.heap.size := Nat.le_trans h.b3 hr.upd.size
  have hb' : Below w1.heap.size w1 w' := h.b1.trans (hr.upd.below h.lo h.b1.size)
  refine ⟨hr.tr.upd hu5 hno (fun i hi e => by have := h.kk i hi; have := (hoU i e).1; omega), by rw [List.map_append]; exact ho5, by rw [List.length_append, h.len]; rfl, fun i hi hf => ?_, h.snd.push hn hf hL, fun z hz => ?_, by rw [hm]; have := h.ml; omega, hb'.trans (hu5.below (fun i hi => Nat.le_trans h.b13 (hoU i hi).1) hb'.size), Nat.le_trans hsz hu5.size, h.b13, fun i hi => ?_, h.kk⟩
  · rcases hA5 i hi with h9 | h9
    · exact hno i hf h9
    · have := hr.tr.lt i hf; omega
  · rcases List.mem_append.1 hz with h9 | h9
    · exact h.ok z h9
    · rw [List.mem_singleton.1 h9]; exact hx
  · rcases hr.own i hi with h9 | h9
    · exact h.lo i h9
    · exact Nat.le_trans h.b1.size h9
theorem PS.lits (h : PS w1 w3 w p gv Al At Am U cl ct cm cu n k K L T M us) : Lits w U k us := by
  have ho : OwnL w w3.heap.size (.slice U k cu) us := by unfold OwnL; rw [h.len]; exact h.row
  obtain ⟨A, c, hv, hl, _⟩ := OwnL.lits ho h.ok
  rw [h.len] at hv hl
  cases hv
  exact hl
end
set_option maxRecDepth 100000 in
set_option maxHeartbeats 8000000 in
theorem propSound_any (x : Int) (v : Value) (Z : List (List Int)) (C : Option Addr) (lc cc : Nat) (cs : List Int) (w : World) (hz : ClsAt w v Z) (hZ : Z.length ≤ 4294967296) (hc : Lits w C lc cs) (hlc : lc ≤ 1048576) :
    Calls Try.prog 10 #[.int .i64 x, v, .slice C lc cc] w fun e w' => e = .returned (.bool true) ∧ Below w.heap.size w w' := by
  obtain ⟨i0, hi0, hz0, hz1, hz2⟩ := info_parts lit_row
  have HBO := Lib.hid (bothP_any x v Z w hz hZ)
  obtain ⟨AZ, cZ, rfl, _⟩ := hz
  have HC := Lib.hid hc
  clear hc
  go_enter Try.func10, Try.ntmps10
  go_wp2_with fail
  go_at_call 39
  refine HBO.out.mono ?_
  rintro e w1 ⟨n, s, q0, A, B, ca, cb, rfl, hn, htw, hcl⟩
  obtain ⟨L, hL⟩ : ∃ L, L = bothQ 30 10 n Z 0 [] := ⟨_, rfl⟩
  rw [← hL] at htw hcl
  have HTW := Lib.hid htw
  have HCL := Lib.hid hcl
  have HSH : Hid (∀ c ∈ L, c.length ≤ 1048576) := Lib.hid (fun c hc => by have := htw.short c hc; omega)
  have HNT := Lib.hid (NewT_any s ca n A L w1 htw.s HSH.out hcl)
  clear htw hcl hL HBO
  go_wp2_with fail
  go_at_call 40
  refine HNT.out.mono ?_
  rintro e w3 ⟨p, gv, Al, cl, At, ct, K, R, rfl, htr, hf, hb2, hlo⟩
  have HP0 : Hid (PS w1 w3 w3 p gv Al At none none cl ct 0 0 n 0 K L R [] []) := Lib.hid ⟨htr, World.ownsRow_nil _ _ _ _, rfl, (fun i hi => by cases hi), Snd.start (by omega) hf HCL.out, by simp, by simp, hb2, Nat.le_refl _, hb2.size, fun i hi => hlo i (.inl hi), htr.klt⟩
  have HFI : Hid (∀ W, Below w1.heap.size w1 W → ∀ (U : Option Addr) (k c : Nat) (us : List Int), Lits W U k us → k ≤ 1048576 → Calls Try.prog 44 #[.pointer (some ⟨q0, 0, none⟩), .slice U k c] W fun e w' => Below W.heap.size W w' ∧ ∃ r, FirstIs n L us r ∧ FirstRes W w' n e r) := Lib.hid (fun W hW U k c us hu hk => First_any q0 cb n B (fun i => i < w1.heap.size) L U k c us W (HTW.out.r.blk.below hW HTW.out.r.blk.lt) (HTW.out.r.clsK.below hW) HTW.out.r.len HSH.out (by omega) hu hk)
  have HBW : Hid (Below w.heap.size w w1) := Lib.hid HTW.out.bel
  clear htr hf hb2 hlo HNT HTW
  go_wp2_with fail
  go_loopw [10, 11] (fun u t wr => ∃ (i k cu : Nat) (T us : List Int) (M : List Nat) (At Am U : Option Addr) (ct cm : Nat), u = .slice U k cu ∧ t = .int .i64 (i : Int) ∧ i ≤ 8 ∧ k ≤ i ∧ Hid (PS w1 w3 wr p gv Al At Am U cl ct cm cu n k K L T M us)) (fun _ t _ => 8 - (match t with | .int _ x => x.toNat | _ => 0))
  case atStart => exact ⟨0, 0, 0, R, [], [], At, none, none, ct, 0, rfl, rfl, by omega, by omega, HP0⟩
  case round =>
    obtain ⟨i, k, cu, T, us, M, At, Am, U, ct, cm, rfl, rfl, hi, hk, HP⟩ := hrel
    clear HP0
    by_cases h1 : i < lc ∧ i < 8
    · obtain ⟨h1, h2⟩ := h1
      have i1 : (i : Int) < (lc : Int) := by omega
      have i2 : (i : Int) < 8 := by omega
      obtain ⟨b, o, hC, hbl, hcell⟩ := HC.out.2.2 (by omega)
      obtain ⟨y, hy⟩ : ∃ y, y = cs.getD i 0 := ⟨_, rfl⟩
      have HKY : Hid (∀ W, Below w1.heap.size w1 W → W.cell? ⟨b, o + i, none⟩ = some (.int .i64 y)) := Lib.hid (fun W hW => by rw [hy]; exact (HBW.out.trans (hW.mono HBW.out.size)).cell hbl |>.trans (hcell i h1))
      have hyo : Ok y := by rw [hy]; exact HC.out.ok i
      have HYO := Lib.hid hyo
      have ky := HKY.out wr HP.out.b1
      subst hC
      clear hcell hy hyo hbl
      cases hmp : mayP n L T y with
      | false =>
        have HPU := Lib.hid (Push_no p gv cl ct cm n Al At Am K L T M y HYO.out wr HP.out.tr hmp)
        clear hmp
        go_wp2_with fail
        go_at_call 41
        refine HPU.out.mono ?_
        rintro e w5 ⟨rfl, hb5⟩
        have HP5 := Lib.hid (HP.out.below hb5)
        clear hb5 HPU HP
        go_wp2_with fail
        refine ⟨⟨i + 1, k, cu, T, us, M, At, Am, U, ct, cm, rfl, by go_num, by omega, by omega, HP5⟩, ?_⟩
        show 8 - ((i : Int) + 1).toNat < 8 - (i : Int).toNat
        omega
      | true =>
        have HPU := Lib.hid (Push_yes p gv cl ct cm n Al At Am K L T M y wr HP.out.tr hmp (by have := HP.out.ml; omega))
        clear hmp
        go_wp2_with fail
        go_at_call 41
        refine HPU.out.mono ?_
        rintro e w5 ⟨rfl, R2, At5, ct5, Am5, cm5, hf5, hr5⟩
        have HROW := Lib.hid (HP.out.row' hr5)
        have HR5 := Lib.hid hr5
        have HF5 := Lib.hid hf5
        have HBS : Hid (w3.heap.size ≤ w5.heap.size) := Lib.hid (Nat.le_trans HP.out.b3 hr5.upd.size)
        have ky5 := HKY.out w5 (HP.out.b1.trans (hr5.upd.below HP.out.lo HP.out.b1.size))
        clear hf5 hr5 HPU
        go_wp2_with (at_builtin; refine wpList_append_any _ rfl (.tmp 43) (.tmp 48) 22 rfl w3.heap.size 37 i0 _ 1 8 Try.underlying22 hi0 hz0 hz1 hz2 rfl (by decide) _ k _ rfl (HROW.out.alloc _) (w5.heap.size + 1) (some ⟨w5.heap.size, 0, none⟩) 1 1 [.int .i64 y] rfl (reads_one (Blk.new _ _ _) (by omega)) (ints_one [y]) (by unfold maxLen; omega) (by omega) (Nat.le_trans HBS.out (by simp)) ?_; intro v6 w6 hown6 hg6 hat6; have HU6 : Hid (Upd (fun j => (Value.slice U 0 0).ownBlock = some j) w5 w6) := Lib.hid (((Upd.refl _ w5).alloc _).grown hg6 (fun j hj => .inl (by rw [← hj]; exact ownB))); have HO6 : Hid (∀ j, v6.ownBlock = some j → (Value.slice U 0 0).ownBlock = some j ∨ w5.heap.size ≤ j) := Lib.hid (fun j hj => own_or U k cu v6.ownBlock w5.heap.size j hj (by rcases hat6 with h | h; (· exact .inl h); (· exact .inr (h.trans (by rw [World.size_alloc]))))); have HOW6 := Lib.hid hown6; obtain ⟨A6, c6, rfl⟩ := ownL_shape hown6; clear hown6 hg6 hat6)
        have HP6 := Lib.hid (HP.out.step HR5.out (by rw [List.length_append]; rfl) (by omega) HF5.out HCL.out HYO.out HOW6.out HU6.out (fun i hi => HO6.out i (by rw [← hi]; exact ownB)))
        clear HROW HOW6 HU6 HO6 HR5 HF5 HP
        refine ⟨⟨i + 1, k + 1, c6, R2, us ++ [y], M ++ [T.length], At5, Am5, A6, ct5, cm5, rfl, by go_num, by omega, by omega, HP6⟩, ?_⟩
        show 8 - ((i : Int) + 1).toNat < 8 - (i : Int).toNat
        omega
    · have hg : ¬ (i < lc) ∨ (i < lc ∧ ¬ (i < 8)) := by omega
      have hk8 : k ≤ 8 := by omega
      clear h1
      go_upto_region 5 with fail
      go_cut [34] (fun v wx => wx = wr ∧ v = .bool false)
      case first =>
        rcases hg with hd | ⟨hd, hd2⟩
        · go_wp2_with fail
          go_meet
          exact ⟨rfl, rfl⟩
        · have hd3 : decide ((i : Int) < 8) = false := decide_eq_false (by omega)
          go_wp2_with fail
          go_meet
          exact ⟨rfl, by first | rfl | rw [hd3]⟩
      case rest =>
        obtain ⟨rfl, rfl⟩ := hcut
        have HLT := Lib.hid (TLits_any p gv cl ct cm n Al At Am K L T M wc HP.out.tr)
        have htl := HP.out.tr.tlen
        obtain ⟨t, ht⟩ : ∃ t, t = T.length := ⟨_, rfl⟩
        rw [← ht] at htl
        have HTE := Lib.hid ht
        have HOK := Lib.hid HP.out.tr.ok
        clear hg HC hi hk ht
        go_wp2_with fail
        go_at_call 42
        refine HLT.out.mono ?_
        rintro e w4 ⟨v4, rfl, ho4, hb4⟩
        obtain ⟨Ab, cb4, rfl, hl4, _⟩ := ho4.lits HOK.out
        rw [← HTE.out] at hl4 ⊢
        have HP4 := Lib.hid (HP.out.below hb4)
        have HCH := Lib.hid (Clash_any p gv cl ct cm n Al At Am K L T M w4 HP4.out.tr)
        have HL4 := Lib.hid hl4
        obtain ⟨z, hz⟩ : ∃ z, z = Pr.clash L T := ⟨_, rfl⟩
        rw [← hz] at HCH
        have HZ := Lib.hid hz
        clear ho4 hb4 hl4 HLT HP hz
        go_wp2_with fail
        go_at_call 43
        refine HCH.out.mono ?_
        rintro e w5 ⟨rfl, hb5⟩
        have HP5 := Lib.hid (HP4.out.below hb5)
        have HL5 := Lib.hid (HL4.out.below hb5)
        have HUB : Hid (∀ z ∈ T, 1 ≤ Cf.va z ∧ Cf.va z ≤ n) := Lib.hid HP5.out.tr.un.in_
        clear hb5 HP4 HL4 HCH
        by_cases hc0 : 0 ≤ z
        · have HF5 := Lib.hid (HFI.out w5 HP5.out.b1 U k cu us HP5.out.lits (by omega))
          have HSC : Hid (∀ r, FirstIs n L us r → r = none) := Lib.hid (fun r hr => snd_clash (n := n) (by omega) HP5.out.snd HCL.out (by rw [← HZ.out]; exact hc0) hr)
          go_wp2_with fail
          go_at_call 44
          refine HF5.out.mono ?_
          rintro e w6 ⟨hb6, r, hr, hres⟩
          obtain rfl := HSC.out r hr
          obtain rfl : e = .returned (.tuple #[.slice none 0 0, .bool false]) := hres
          clear hr
          have HB6 := Lib.hid (HP5.out.b1.trans (hb6.mono HP5.out.b1.size))
          have HAW := Lib.hid (awakeP_any w6)
          clear hb6 HF5 HSC
          go_wp2_with (go_at_call 45; refine HAW.out.mono ?_; rintro e w7 ⟨rfl, hb7⟩)
          go_ret
          have hb9 := HB6.out.trans (hb7.mono HB6.out.size)
          exact ⟨rfl, HBW.out.trans (hb9.mono HBW.out.size)⟩
        · have hd0 : decide (0 ≤ z) = false := decide_eq_false hc0
          go_wp2_with fail
          go_loopw [68] (fun s wx => ∃ j : Nat, s = .int .i64 (j : Int) ∧ j ≤ t ∧ Hid (PS w1 w3 wx p gv Al At Am U cl ct cm cu n k K L T M us) ∧ Hid (Lits wx Ab t T)) (fun s _ => t - (match s with | .int _ x => x.toNat | _ => 0))
          case atStart => exact ⟨0, rfl, Nat.zero_le _, HP5, HL5⟩
          case round =>
            obtain ⟨j, rfl, hj, HPJ, HLJ⟩ := hrel
            clear HP5 HL5
            by_cases hlt : j < t
            · have j1 : (j : Int) < (t : Int) := by omega
              obtain ⟨b2, o2, hAb, _, hcell⟩ := HLJ.out.2.2 (by omega)
              obtain ⟨y, hy⟩ : ∃ y, y = T.getD j 0 := ⟨_, rfl⟩
              have ky := hcell j hlt
              rw [← hy] at ky
              have hyT : y ∈ T := by
                rw [hy, List.getD_eq_getElem?_getD, List.getElem?_eq_getElem (by have := HTE.out; omega)]
                exact List.getElem_mem _
              have HYT := Lib.hid hyT
              have hyb := HUB.out y hyT
              have y1 : -200 ≤ y := by unfold Cf.va at hyb; omega
              have y2 : y ≤ 200 := by unfold Cf.va at hyb; omega
              subst hAb
              clear hcell hy hyT hyb
              by_cases h20 : j ≤ 20
              · have HSRC := Lib.hid HPJ.out.lits
                have HBS : Hid (wr.heap.size ≤ wr.heap.size) := Lib.hid (Nat.le_refl _)
                go_wp2_with (first
                  | (at_builtin; refine wpList_append_any _ rfl (.const (.slice none 0 0)) (.tmp 77) 22 rfl wr.heap.size 37 i0 _ 1 8 Try.underlying22 hi0 hz0 hz1 hz2 rfl (by decide) _ 0 [] rfl (World.ownsRow_nil _ _ _ _) wr.heap.size U k cu (us.map (Value.int .i64)) rfl HSRC.out.reads (ints_one us) (by unfold maxLen; omega) (by omega) (Nat.le_refl _) ?_; intro v6 w6 hown6 hg6 hat6; have HU6 : Hid (Upd (fun j => False) wr w6) := Lib.hid ((Upd.refl _ wr).grown hg6 (fun j hj => by cases hj)); rw [List.nil_append, Nat.zero_add] at hown6; have HOW6 := Lib.hid hown6; obtain ⟨A6, c6, rfl⟩ := ownL_shape hown6; clear hown6 hg6 hat6)
                  | (at_builtin; refine wpList_append_any _ rfl (.tmp 78) (.tmp 81) 22 rfl wr.heap.size 37 i0 _ 1 8 Try.underlying22 hi0 hz0 hz1 hz2 rfl (by decide) _ k _ rfl (HOW6.out.alloc _) (w6.heap.size + 1) (some ⟨w6.heap.size, 0, none⟩) 1 1 [.int .i64 (-y)] rfl (reads_one (Blk.new _ _ _) (by omega)) (ints_one [-y]) (by unfold maxLen; omega) (by omega) (Nat.le_trans HU6.out.size (by simp)) ?_; intro v7 w7 hown7 hg7 hat7; have HU7 : Hid (Upd (fun j => (Value.slice A6 0 0).ownBlock = some j) w6 w7) := Lib.hid (((Upd.refl _ w6).alloc _).grown hg7 (fun j hj => .inl (by rw [← hj]; exact ownB))); have HOW7 := Lib.hid hown7; obtain ⟨A7, c7, rfl⟩ := ownL_shape hown7; clear hown7 hg7 hat7))
                have hb6 : Below wr.heap.size wr w6 := HU6.out.below (fun i hi => hi.elim) (Nat.le_refl _)
                have hb7 : Below wr.heap.size wr w7 := hb6.trans (HU7.out.below (fun i hi => (HOW6.out.lt i (by rw [← hi]; exact ownB)).1) hb6.size)
                have HP7 := Lib.hid (HPJ.out.below hb7)
                have HL7 := Lib.hid (HLJ.out.below hb7)
                have hown : OwnL w7 wr.heap.size (.slice A7 (k + 1) c7) (us ++ [-y]) := by
                  unfold OwnL
                  rw [List.length_append, HPJ.out.len, List.map_append]
                  exact HOW7.out
                obtain ⟨A7', c7', hv, hl7, _⟩ := OwnL.lits hown (fun z hz => by
                  rcases List.mem_append.1 hz with h | h
                  · exact HPJ.out.ok z h
                  · rw [List.mem_singleton.1 h]; exact ⟨by omega, by omega⟩)
                rw [List.length_append, HPJ.out.len] at hv hl7
                cases hv
                have HF7 := Lib.hid (HFI.out w7 HP7.out.b1 A7 (k + 1) c7 (us ++ [-y]) hl7 (by omega))
                have HSN : Hid (∀ r, FirstIs n L (us ++ [-y]) r → r = none) := Lib.hid (fun r hr => by
                  have hyb := HUB.out y HYT.out
                  exact snd_not (n := n) HP7.out.snd HYT.out hyb.1 (by omega) hr)
                clear hb6 hb7 hown hl7 HOW6 HOW7 HU6 HU7 HPJ HLJ HSRC
                refine HF7.out.mono ?_
                rintro e w8 ⟨hb8, r, hr, hres⟩
                obtain rfl := HSN.out r hr
                obtain rfl : e = .returned (.tuple #[.slice none 0 0, .bool false]) := hres
                have HP8 := Lib.hid (HP7.out.below hb8)
                have HL8 := Lib.hid (HL7.out.below hb8)
                clear hb8 hr HF7 HSN HP7 HL7
                go_wp2_with fail
                refine ⟨⟨j + 1, by go_num, by omega, HP8, HL8⟩, ?_⟩
                show t - ((j : Int) + 1).toNat < t - (j : Int).toNat
                omega
              · have h20' : (20 : Int) < (j : Int) := by omega
                have HB6 := Lib.hid HPJ.out.b1
                have HAW := Lib.hid (awakeP_any wr)
                go_wp2_with (go_at_call 45; refine HAW.out.mono ?_; rintro e w7 ⟨rfl, hb7⟩)
                go_ret
                have hb9 := HB6.out.trans (hb7.mono HB6.out.size)
                exact ⟨rfl, HBW.out.trans (hb9.mono HBW.out.size)⟩
            · have hjt : ¬ (j : Int) < (t : Int) := by omega
              have HB6 := Lib.hid HPJ.out.b1
              have HAW := Lib.hid (awakeP_any wr)
              go_wp2_with (go_at_call 45; refine HAW.out.mono ?_; rintro e w7 ⟨rfl, hb7⟩)
              go_ret
              have hb9 := HB6.out.trans (hb7.mono HB6.out.size)
              exact ⟨rfl, HBW.out.trans (hb9.mono HBW.out.size)⟩
open Go.ChangeShapes Go.WideShapes Go.ChangeAt in
set_option maxRecDepth 100000 in
theorem propSound_walk {H : Type} {enc : TypeId × Value → H} (W : World) {base : Nat} (v0 v1 v2 : Value) {d0 d1 d2 : DataW H} {p0 p1 p2 : List MemPlace}
    (h0 : DataW.Trod enc Try.prog W 0 (fun _ => true) true 3 v0 d0 p0) (o0 : Value.okWide Try.prog W .any base 3 v0)
    (h1 : DataW.Trod enc Try.prog W 0 (fun _ => true) true 28 v1 d1 p1) (o1 : Value.okWide Try.prog W .any base 28 v1)
    (h2 : DataW.Trod enc Try.prog W 0 (fun _ => true) true 22 v2 d2 p2) (o2 : Value.okWide Try.prog W .any base 22 v2)
    (hk : Rows.uptoBulkAll [d0, d1, d2] ≤ 1048576) :
    Calls Try.prog 10 #[v0, v1, v2] W fun e w' => e = .returned (.bool true) ∧ Below W.heap.size W w' := by
  obtain ⟨x, rfl, rfl, rfl, wx⟩ := open_int Try.underlying3 o0 h0
  obtain ⟨Z, hz, hZ, _⟩ := open_cls h1 o1
  obtain ⟨C, lc, cc, cs, rfl, hc, hcc, _, hlc⟩ := open_lits h2 o2
  simp only [Rows.uptoBulkAll] at hk
  exact propSound_any x v1 Z C lc cc cs W hz (by omega) hc (by omega)
end Go.Proofs.Ytghfelfljblkbaa
