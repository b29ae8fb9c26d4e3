/- sat: back, next. -/
import Derived.Test.YtghfelfljblkbaaSc
import Derived.Deep.LoopGhost
namespace Go.Proofs.Ytghfelfljblkbaa
open Go.RowKit Go.Sort
set_option linter.unusedVariables false

/-- A search at a stack. -/
structure SrS (w0 w : World) (x p gv : Nat) (Al At Am Ch : Option Addr) (cl ct cm cc n : Nat) (K : Nat → Prop) (L : List (List Int)) (T : List Int) (M0 : List Nat) (S : Sr.Stk) (s : Nat) : Prop where
  sr : SrAt w0 w x p gv Al At Am Ch cl ct cm cc n K L T (mks M0 S) (chs S) s
  pre : Sr.Pre T S
  ent : Sr.Ent L n S
  mko : MkOk (mks M0 S) T
theorem SrS.below {w0 w w' : World} {x p gv : Nat} {Al At Am Ch : Option Addr} {cl ct cm cc n : Nat} {K : Nat → Prop} {L : List (List Int)} {T : List Int} {M0 : List Nat} {S : Sr.Stk} {s : Nat} (h : SrS w0 w x p gv Al At Am Ch cl ct cm cc n K L T M0 S s) (hb : Below w.heap.size w w') : SrS w0 w' x p gv Al At Am Ch cl ct cm cc n K L T M0 S s := ⟨h.sr.below hb, h.pre, h.ent, h.mko⟩
/-- What back leaves. -/
def BackRes (w0 w' : World) (x p gv : Nat) (Al : Option Addr) (cl n : Nat) (K : Nat → Prop) (L : List (List Int)) (M0 : List Nat) (s : Nat) (e : Ending) : Option (Int × List Int × Sr.Stk) → Prop
  | none => e = .returned (.bool false) ∧ Below w0.heap.size w0 w'
  | some (v, Tp, S2) => e = .returned (.bool true) ∧ ∃ T' At Am Ch ct cm cc, Pr.Fol L (Tp ++ [v]) T' ∧ SrS w0 w' x p gv Al At Am Ch cl ct cm cc n K L T' M0 ((-v, Tp) :: S2) s
theorem open_may {n : Nat} {L : List (List Int)} {T : List Int} (h : Sr.openV n T ≠ 0) (hc : Pr.clash L T < 0) (hu : Un n T) : mayP n L T (Sr.openV n T : Int) = true ∧ mayP n L T (-(Sr.openV n T : Int)) = true := by
  obtain ⟨a, b, _⟩ := Sr.openV_some rfl h
  have h1 : Cf.va (Sr.openV n T : Int) = Sr.openV n T := by unfold Cf.va; omega
  have h2 : Cf.va (-(Sr.openV n T : Int)) = Sr.openV n T := by unfold Cf.va; omega
  constructor
  · unfold mayP
    rw [h1, decide_eq_true (by omega), decide_eq_true a, decide_eq_true b, decide_eq_true hc]; rfl
  · unfold mayP
    rw [h2, Pr.ofT_neg hu, b, decide_eq_true (by omega), decide_eq_true a, decide_eq_true hc]; rfl
set_option maxRecDepth 100000 in
set_option maxHeartbeats 4000000 in
theorem back_any (w0 w : World) (x p gv : Nat) (Al At Am Ch : Option Addr) (cl ct cm cc n : Nat) (K : Nat → Prop) (L : List (List Int)) (T : List Int) (M0 : List Nat) (S : Sr.Stk) (s : Nat) (h : SrS w0 w x p gv Al At Am Ch cl ct cm cc n K L T M0 S s) (hL : Pr.Cl n L) :
    Calls Try.prog 103 #[.pointer (some ⟨x, 0, none⟩)] w fun e w' => BackRes w0 w' x p gv Al cl n K L M0 s e (Sr.back S) := by
  obtain ⟨i0, hi0, hz0, hz1, hz2⟩ := info_parts int_row
  have hn := h.sr.tr.n
  have HS0 := Lib.hid h
  have HCL := Lib.hid hL
  clear h hL
  go_enter Try.func103, Try.ntmps103
  go_wp2_with fail
  go_loopg [] S.length (fun k wr => ∃ (S1 : Sr.Stk) (T1 : List Int) (At1 Am1 : Option Addr) (ct1 cm1 : Nat), S1.length = k ∧ Hid (Sr.back S1 = Sr.back S) ∧ Hid (SrS w0 wr x p gv Al At1 Am1 Ch cl ct1 cm1 cc n K L T1 M0 S1 s))
  case atStart => exact ⟨S, T, At, Am, ct, cm, rfl, Lib.hid rfl, HS0⟩
  case round =>
    obtain ⟨S1, T1, At1, Am1, ct1, cm1, hk, HBK, HS⟩ := hrel
    clear HS0
    have hml : (mks M0 S1).length ≤ 200 := Nat.le_trans (mk_len HS.out.mko) HS.out.sr.tr.tlen
    cases S1 with
    | nil =>
      have HE : Hid (Sr.back S = none) := Lib.hid (HBK.out.symm)
      have k2 : wr.cell? ⟨x, 2, none⟩ = some (.slice Ch 0 cc) := HS.out.sr.blk.cell 2
      have HBL := Lib.hid HS.out.sr.bel
      clear HBK hk hml
      go_wp2_with fail
      go_ret
      rw [HE.out]
      exact ⟨rfl, HBL.out⟩
    | cons e S2 =>
      obtain ⟨c, Tp⟩ := e
      have hs := HS.out.sr
      rw [chs_cons, mks_cons] at hs
      have hmk := HS.out.mko
      rw [mks_cons] at hmk hml
      rw [List.length_append, List.length_singleton] at hml
      have hpre := HS.out.pre
      have hent := HS.out.ent
      have htk : T1.take Tp.length = Tp := by
        obtain ⟨r, hr⟩ := hpre.1
        rw [← hr, List.take_append_of_le_length (Nat.le_refl _), List.take_length]
      obtain ⟨q, hq⟩ : ∃ q, q = (chs S2).length := ⟨_, rfl⟩
      have hql : (chs S2 ++ [c]).length = q + 1 := by rw [List.length_append, hq]; rfl
      have hq200 : q ≤ 200 := by rw [hq, chs_len]; have := hpre.2.2.len; have := hpre.2.1; have := HS.out.sr.tr.tlen; omega
      have HBLK : Hid (Blk wr x 99 #[.pointer (some ⟨p, 0, none⟩), .int .i64 (n : Int), .slice Ch (q + 1) cc, .int .i64 (s : Int)]) := Lib.hid (by have := hs.blk; rw [hql] at this; exact this)
      have k0 : wr.cell? ⟨x, 0, none⟩ = some (.pointer (some ⟨p, 0, none⟩)) := HBLK.out.cell 0
      have k2 : wr.cell? ⟨x, 2, none⟩ = some (.slice Ch (q + 1) cc) := HBLK.out.cell 2
      have hrow := hs.row
      rw [hql] at hrow
      have hCh : ∃ g, Ch = some ⟨g, 0, none⟩ ∧ wr.cell? ⟨g, q, none⟩ = some (.int .i64 c) ∧ q + 1 ≤ cc := by
        rcases hrow.2 with ⟨_, h0⟩ | ⟨g, cap, cur, h0, _, _, hle, _⟩
        · omega
        · cases h0
          refine ⟨g, rfl, ?_, hle⟩
          rw [hrow.cellAt q (by omega), List.map_append, List.getElem?_append_right (by rw [List.length_map, hq]; exact Nat.le_refl _), List.length_map, hq, Nat.sub_self]
          rfl
      obtain ⟨g, hCg, kg, hqc⟩ := hCh
      have hcb : -200 ≤ c ∧ c ≤ 200 := by
        have h1 := hent.1
        have h2 := (Sr.openV_some (n := n) (T := Tp) rfl (by have := hent.2.1; omega)).1
        omega
      have HPO := Lib.hid (Pop_yes p gv cl ct1 cm1 n Al At1 Am1 K L T1 (mks M0 S2) Tp.length wr hs.tr hpre.2.1 (by omega))
      rw [htk] at HPO
      have HSS := Lib.hid hs
      have HPRE := Lib.hid hpre
      have HENT := Lib.hid hent
      have HMK := hmk.pop.2
      rw [htk] at HMK
      have HMKO := Lib.hid HMK
      have HQ := Lib.hid hq
      have hq0 : (0 : Int) < (q : Int) + 1 := by omega
      obtain ⟨c1, c2⟩ := hcb
      subst hCg
      clear hs hmk hpre hent htk hq hql hrow HMK HS hml
      go_wp2_with fail
      go_at_call 48
      refine HPO.out.mono ?_
      rintro e w2 ⟨rfl, hr2⟩
      have HS2 := Lib.hid (HSS.out.step hr2)
      have HB2 : Hid (Blk w2 x 99 #[.pointer (some ⟨p, 0, none⟩), .int .i64 (n : Int), .slice (some ⟨g, 0, none⟩) (q + 1) cc, .int .i64 (s : Int)]) := Lib.hid (HBLK.out.upd hr2.upd HSS.out.nx)
      have d2 : w2.cell? ⟨x, 2, none⟩ = some (.slice (some ⟨g, 0, none⟩) (q + 1) cc) := HB2.out.cell 2
      have f2 : w2.frozen? ⟨x, 2, none⟩ = false := HB2.out.frozen 2
      have HS3 := Lib.hid (HS2.out.cut HQ.out)
      have hqq : (q : Int) ≤ (cc : Int) := by omega
      clear hr2 HPO k0 k2 kg
      by_cases hc : 0 < c
      · have HEQ : Hid (Sr.back S = some (c, Tp, S2)) := Lib.hid (by rw [← HBK.out]; unfold Sr.back; rw [if_pos hc])
        have hov : (Sr.openV n Tp : Int) = c := by have := HENT.out.1; omega
        have hmay := (open_may (n := n) (L := L) (T := Tp) (by omega) HENT.out.2.2.1 HENT.out.2.2.2.1).1
        rw [hov] at hmay
        have HMAY := Lib.hid hmay
        have HUO := Lib.hid (Sr.un_open HENT.out.2.2.2.1 (by omega)).1
        rw [hov] at HUO
        obtain ⟨W3, hW3⟩ : ∃ W3, W3 = w2.setCell ⟨x, 2, none⟩ (.slice (some ⟨g, 0, none⟩) q cc) := ⟨_, rfl⟩
        rw [← hW3] at HS3
        have HB3 : Hid (Blk W3 x 99 #[.pointer (some ⟨p, 0, none⟩), .int .i64 (n : Int), .slice (some ⟨g, 0, none⟩) q cc, .int .i64 (s : Int)]) := Lib.hid (by have := HS3.out.blk; rw [← HQ.out] at this; exact this)
        have HR3 : Hid (W3.ownsRow 0 3 1 (.slice (some ⟨g, 0, none⟩) q cc) q ((chs S2).map (Value.int .i64))) := Lib.hid (by have := HS3.out.row; rw [← HQ.out] at this; exact this)
        have hx3 := HB3.out.lt
        have m2 : W3.cell? ⟨x, 2, none⟩ = some (.slice (some ⟨g, 0, none⟩) q cc) := HB3.out.cell 2
        clear hmay hov HBK
        go_upto_if 39 with fail
        rw [← hW3]
        clear hW3 d2 f2 HS2 HB2
        go_wp2_with (at_builtin; refine wpList_append_any _ rfl (.tmp 44) (.tmp 47) 85 rfl 0 3 i0 _ 1 8 Try.underlying85 hi0 hz0 hz1 hz2 rfl (by decide) _ q _ rfl (HR3.out.alloc _) (W3.heap.size + 1) (some ⟨W3.heap.size, 0, none⟩) 1 1 [.int .i64 (-c)] rfl (reads_one (Blk.new _ _ _) (by omega)) (ints_one [-c]) (by unfold maxLen; omega) (by omega) (Nat.zero_le _) ?_; intro v5 w5 hown5 hg5 hat5; have HOW5 := Lib.hid hown5; have HU5 : Hid (Upd (fun j => (Value.slice (some ⟨g, 0, none⟩) 0 0).ownBlock = some j) W3 w5) := Lib.hid (((Upd.refl _ W3).alloc _).grown hg5 (fun j hj => .inl (by rw [← hj]; exact ownB))); have HB5 := Lib.hid (HB3.out.upd HU5.out (fun h => sr_ne HR3.out HB3.out (by decide) (by rw [← h]; exact ownB))); have f5 : w5.frozen? ⟨x, 2, none⟩ = false := HB5.out.frozen 2; have k5 : w5.cell? ⟨x, 2, none⟩ = some (.slice (some ⟨g, 0, none⟩) q cc) := HB5.out.cell 2; have k50 : ∀ y, (w5.setCell ⟨x, 2, none⟩ y).cell? ⟨x, 0, none⟩ = some (.pointer (some ⟨p, 0, none⟩)) := fun y => (HB5.out.set_ 2 y).cell 0; have HO5 : Hid (∀ j, v5.ownBlock = some j → (Value.slice (some ⟨g, 0, none⟩) 0 0).ownBlock = some j ∨ W3.heap.size ≤ j) := Lib.hid (fun j hj => own_or (some ⟨g, 0, none⟩) q cc v5.ownBlock W3.heap.size j hj (by rcases hat5 with h | h; (· exact .inl h); (· exact .inr (h.trans (by rw [World.size_alloc]))))); obtain ⟨A5, c5, rfl⟩ := ownL_shape hown5; clear hown5 hg5 hat5)
        have hsa := HS3.out.app HQ.out HOW5.out HU5.out (fun i hi => HO5.out i (by rw [← hi]; exact ownB))
        have HSA := Lib.hid hsa
        have HPU := Lib.hid (Push_yes p gv cl ct1 cm1 n Al At1 Am1 K L Tp (mks M0 S2) c _ hsa.tr HMAY.out (by have := mk_len HMKO.out; have := Pr.un_len HENT.out.2.2.2.1; omega))
        clear hsa HS3 HB3 HR3 HB5 HOW5 HU5 HO5
        refine HPU.out.mono ?_
        rintro e w6 ⟨rfl, R, At6, ct6, Am6, cm6, hf6, hr6⟩
        have HF6 := Lib.hid hf6
        have HR6 := Lib.hid hr6
        clear hf6 hr6 HPU
        go_wp2_with fail
        go_ret
        rw [HEQ.out]
        refine ⟨rfl, R, At6, Am6, A5, ct6, cm6, c5, HF6.out, ?_, Sr.pre_push HF6.out HCL.out HUO.out HPRE.out.2.2, ⟨by have := HENT.out.1; omega, by omega, HENT.out.2.2⟩, ?_⟩
        · rw [chs_cons, mks_cons]
          exact HSA.out.step HR6.out
        · rw [mks_cons]
          exact HMKO.out.push (fol_pre HF6.out HCL.out HUO.out)
      · have HBK2 : Hid (Sr.back S2 = Sr.back S) := Lib.hid (by rw [← HBK.out]; exact (if_neg hc).symm)
        have HME : Hid (S2.length < gk) := Lib.hid (by rw [← hk]; simp)
        have HS4 : Hid (SrS w0 (w2.setCell ⟨x, 2, none⟩ (.slice (some ⟨g, 0, none⟩) q cc)) x p gv Al At1 Am1 (some ⟨g, 0, none⟩) cl ct1 cm1 cc n K L Tp M0 S2 s) := Lib.hid ⟨HS3.out, HPRE.out.2.2, HENT.out.2.2.2.2, HMKO.out⟩
        clear HS3 HS2 HBK hk
        go_wp2_with fail
        go_roundg S2.length
        case measure => exact HME.out
        case rel => exact ⟨S2, Tp, At1, Am1, ct1, cm1, rfl, HBK2, HS4⟩
/-- How many steps may still be made. -/
def Wt (d : Nat) : Nat := 2 ^ (d + 1) - 1
theorem Wt_succ (d : Nat) : Wt (d + 1) = 2 * Wt d + 1 := by
  unfold Wt
  have := Nat.one_le_two_pow (n := d + 1)
  rw [Nat.pow_succ 2 (d + 1)]
  omega
theorem Wt_pos (d : Nat) : 1 ≤ Wt d := by
  unfold Wt
  have := Nat.one_le_two_pow (n := d)
  rw [Nat.pow_succ]
  omega
def wgt (n : Nat) (S : Sr.Stk) : Nat := Sr.pot Wt n S + Wt (n - S.length)
theorem wgt_back {n : Nat} {S S2 : Sr.Stk} {v : Int} {Tp : List Int} (h : Sr.back S = some (v, Tp, S2)) : wgt n ((-v, Tp) :: S2) < wgt n S := by
  obtain ⟨h1, h2, h3⟩ := Sr.back_pot (F := Wt) (n := n) h
  unfold wgt
  have e : Sr.pot Wt n ((-v, Tp) :: S2) = Sr.pot Wt n S2 := by
    show Sr.pot Wt n S2 + (if 0 < -v then _ else 0) = _
    rw [if_neg (by omega)]; rfl
  have e2 : n - ((-v, Tp) :: S2).length = n - S2.length - 1 := by simp; omega
  rw [e, e2]
  have := Wt_pos (n - S.length)
  omega
theorem wgt_next {n v : Nat} {T : List Int} {S : Sr.Stk} (hv : v ≠ 0) (hl : S.length < n) : wgt n (((v : Int), T) :: S) < wgt n S := by
  unfold wgt
  have e : Sr.pot Wt n (((v : Int), T) :: S) = Sr.pot Wt n S + Wt (n - S.length - 1) := by
    show Sr.pot Wt n S + (if 0 < (v : Int) then _ else 0) = _
    rw [if_pos (by omega)]
  have e2 : n - (((v : Int), T) :: S).length = n - S.length - 1 := by simp; omega
  rw [e, e2]
  have := Wt_succ (n - S.length - 1)
  rw [show n - S.length - 1 + 1 = n - S.length by omega] at this
  omega
/-- What next leaves. -/
def NextRes (w0 w' : World) (x p gv : Nat) (Al : Option Addr) (cl n : Nat) (K : Nat → Prop) (L : List (List Int)) (e : Ending) : Sr.Res → Prop
  | .no => e = .returned (.tuple #[.bool false, .int .i64 0]) ∧ Below w0.heap.size w0 w'
  | .over => e = .returned (.tuple #[.bool false, .int .i64 11]) ∧ Below w0.heap.size w0 w'
  | .yes R => e = .returned (.tuple #[.bool true, .int .i64 0]) ∧ ∃ At Am Ch ct cm cc M cs s, SrAt w0 w' x p gv Al At Am Ch cl ct cm cc n K L R M cs s
set_option maxRecDepth 100000 in
set_option maxHeartbeats 4000000 in
theorem next_any (w0 w : World) (x p gv : Nat) (Al At Am Ch : Option Addr) (cl ct cm cc n : Nat) (K : Nat → Prop) (L : List (List Int)) (T : List Int) (M0 : List Nat) (b : Int) (hb : Ok b) (h : SrS w0 w x p gv Al At Am Ch cl ct cm cc n K L T M0 [] 0) (hL : Pr.Cl n L) (hn : n ≤ 30) :
    Calls Try.prog 88 #[.pointer (some ⟨x, 0, none⟩), .int .i64 b] w fun e w' => ∃ r f, Sr.Run L n b T [] 0 r f ∧ NextRes w0 w' x p gv Al cl n K L e r := by
  obtain ⟨i0, hi0, hz0, hz1, hz2⟩ := info_parts int_row
  have HS0 := Lib.hid h
  have HCL := Lib.hid hL
  obtain ⟨b1, b2⟩ := hb
  obtain ⟨G, hG⟩ : ∃ G, G = wgt n [] := ⟨_, rfl⟩
  have hG9 : G ≤ 4294967296 := by
    rw [hG]
    show 0 + Wt (n - 0) ≤ _
    unfold Wt
    have := Nat.pow_le_pow_right (n := 2) (by omega) (show n - 0 + 1 ≤ 31 by omega)
    omega
  have HG := Lib.hid hG
  clear h hL hG
  go_enter Try.func88, Try.ntmps88
  go_wp2_with fail
  go_loopg [] G (fun k wr => ∃ (S1 : Sr.Stk) (T1 : List Int) (At1 Am1 Ch1 : Option Addr) (ct1 cm1 cc1 s : Nat), Hid (wgt n S1 = k) ∧ s + k ≤ G ∧ Hid (∀ r f, Sr.Run L n b T1 S1 s r f → Sr.Run L n b T [] 0 r f) ∧ Hid (SrS w0 wr x p gv Al At1 Am1 Ch1 cl ct1 cm1 cc1 n K L T1 M0 S1 s))
  case atStart => exact ⟨[], T, At, Am, Ch, ct, cm, cc, 0, Lib.hid HG.out.symm, by omega, Lib.hid (fun r f h => h), HS0⟩
  case round =>
    obtain ⟨S1, T1, At1, Am1, Ch1, ct1, cm1, cc1, s, HW, hsk, HRN, HS⟩ := hrel
    clear HS0
    have k0 : wr.cell? ⟨x, 0, none⟩ = some (.pointer (some ⟨p, 0, none⟩)) := HS.out.sr.blk.cell 0
    have HCH := Lib.hid (Clash_any p gv cl ct1 cm1 n Al At1 Am1 K L T1 (mks M0 S1) wr HS.out.sr.tr)
    obtain ⟨z, hz⟩ : ∃ z, z = Pr.clash L T1 := ⟨_, rfl⟩
    rw [← hz] at HCH
    have HZ := Lib.hid hz
    have hs9 : s ≤ 4294967296 := by omega
    clear hz
    by_cases hc : 0 ≤ z
    · go_wp2_with fail
      go_at_call 43
      refine HCH.out.mono ?_
      rintro e w2 ⟨rfl, hb2⟩
      have HS2 := Lib.hid (HS.out.below hb2)
      have HBA := Lib.hid (back_any w0 w2 x p gv Al At1 Am1 Ch1 cl ct1 cm1 cc1 n K L T1 M0 S1 s HS2.out HCL.out)
      clear hb2 HCH HS
      go_wp2_with fail
      go_at_call 103
      refine HBA.out.mono ?_
      rintro e w3 hbr
      cases hbk : Sr.back S1 with
      | none =>
        rw [hbk] at hbr
        obtain ⟨rfl, hb3⟩ := hbr
        have HB3 := Lib.hid hb3
        have HRU := Lib.hid (HRN.out _ _ (.fail (by rw [← HZ.out]; exact hc) hbk))
        clear hb3 hbk HBA HRN
        go_wp2_with fail
        go_ret2
        exact ⟨.no, s, HRU.out, rfl, HB3.out⟩
      | some o =>
        obtain ⟨v, Tp, S2⟩ := o
        rw [hbk] at hbr
        obtain ⟨rfl, T', At3, Am3, Ch3, ct3, cm3, cc3, hf3, hs3⟩ := hbr
        have HS3 := Lib.hid hs3
        have HRN3 : Hid (∀ r f, Sr.Run L n b T' ((-v, Tp) :: S2) s r f → Sr.Run L n b T [] 0 r f) := Lib.hid (fun r f h => HRN.out r f (.again (by rw [← HZ.out]; exact hc) hbk hf3 h))
        have HME : Hid (wgt n ((-v, Tp) :: S2) < gk) := Lib.hid (by rw [← HW.out]; exact wgt_back hbk)
        clear hf3 hs3 hbk HBA HRN HW
        go_wp2_with fail
        go_roundg (wgt n ((-v, Tp) :: S2))
        case measure => exact HME.out
        case rel => exact ⟨_, T', At3, Am3, Ch3, ct3, cm3, cc3, s, Lib.hid rfl, by have := HME.out; omega, HRN3, HS3⟩
    · have hc' : decide (0 ≤ z) = false := decide_eq_false hc
      go_wp2_with fail
      go_at_call 43
      refine HCH.out.mono ?_
      rintro e w2 ⟨rfl, hb2⟩
      have HS2 := Lib.hid (HS.out.below hb2)
      have HOP := Lib.hid (open_any w0 w2 x p gv Al At1 Am1 Ch1 cl ct1 cm1 cc1 n K L T1 _ _ s HS2.out.sr)
      obtain ⟨v, hv⟩ : ∃ v, v = Sr.openV n T1 := ⟨_, rfl⟩
      rw [← hv] at HOP
      have HV := Lib.hid hv
      clear hb2 HCH HS hv
      go_wp2_with fail
      go_at_call 104
      refine HOP.out.mono ?_
      rintro e w3 ⟨rfl, rfl⟩
      clear HOP
      by_cases hv0 : v = 0
      · have HRU := Lib.hid (HRN.out _ _ (.done (by rw [← HZ.out]; omega) (by rw [← HV.out]; exact hv0)))
        subst hv0
        clear HRN
        go_wp2_with fail
        go_ret2
        exact ⟨.yes T1, s, HRU.out, rfl, At1, Am1, Ch1, ct1, cm1, cc1, _, _, s, HS2.out.sr⟩
      · have hsp := HS2.out.sr.spend
        rw [show ((s + 1 : Nat) : Int) = (s : Int) + 1 by omega] at hsp
        have d3 : w2.cell? ⟨x, 3, none⟩ = some (.int .i64 (s : Int)) := HS2.out.sr.blk.cell 3
        have f3 : w2.frozen? ⟨x, 3, none⟩ = false := HS2.out.sr.blk.frozen 3
        have hcl : Pr.clash L T1 < 0 := by rw [← HZ.out]; omega
        have HCLA := Lib.hid hcl
        have hvv : Sr.openV n T1 ≠ 0 := by rw [← HV.out]; exact hv0
        have HVV := Lib.hid hvv
        obtain ⟨W3, hW3⟩ : ∃ W3, W3 = w2.setCell ⟨x, 3, none⟩ (.int .i64 ((s : Int) + 1)) := ⟨_, rfl⟩
        rw [← hW3] at hsp
        have HSP := Lib.hid hsp
        have e3 : W3.cell? ⟨x, 3, none⟩ = some (.int .i64 ((s : Int) + 1)) := by
          have h9 : W3.cell? ⟨x, 3, none⟩ = some (.int .i64 ((s + 1 : Nat) : Int)) := hsp.blk.cell 3
          rw [h9]; congr 2
        have hv0' : ((v : Int) == 0) = false := by rw [beq_eq_false_iff_ne]; omega
        clear hsp hcl hvv
        by_cases ho : 0 < b ∧ b < (s : Int) + 1
        · obtain ⟨ho1, ho2⟩ := ho
          have HRU := Lib.hid (HRN.out _ _ (.over HCLA.out HVV.out ho1 ho2))
          have HBL := Lib.hid HSP.out.bel
          clear HRN HSP
          go_wp2_with fail
          go_ret2
          exact ⟨.over, s + 1, HRU.out, rfl, by rw [← hW3]; exact HBL.out⟩
        · have HNO := Lib.hid ho
          go_upto_region 8 with fail
          rw [← hW3]
          clear d3 f3
          go_cut [36] (fun v wx => wx = W3 ∧ v = .bool false)
          case first =>
            by_cases ho1 : 0 < b
            · have ho2 : decide (b < (s : Int) + 1) = false := decide_eq_false (fun h => ho ⟨ho1, h⟩)
              clear ho hW3
              go_wp2_with fail
              go_meet
              exact ⟨rfl, by first | rfl | rw [ho2]⟩
            · clear ho hW3
              go_wp2_with fail
              go_meet
              exact ⟨rfl, rfl⟩
          case rest =>
            obtain ⟨hwc, rfl⟩ := hcut
            subst hwc
            clear ho hW3 e3
            have hun := HS2.out.sr.tr.un
            have hlen := Sr.open_len hun HVV.out
            have hpl := HS2.out.pre.len
            obtain ⟨q, hq⟩ : ∃ q, q = (chs S1).length := ⟨_, rfl⟩
            have hq200 : q ≤ 200 := by rw [hq, chs_len]; omega
            have hvn := (Sr.openV_some (n := n) (T := T1) rfl HVV.out).1
            rw [← HV.out] at hvn
            have HBK : Hid (Blk wc x 99 #[.pointer (some ⟨p, 0, none⟩), .int .i64 (n : Int), .slice Ch1 q cc1, .int .i64 ((s + 1 : Nat) : Int)]) := Lib.hid (by have := HSP.out.blk; rw [← hq] at this; exact this)
            have HR3 : Hid (wc.ownsRow 0 3 1 (.slice Ch1 q cc1) q ((chs S1).map (Value.int .i64))) := Lib.hid (by have := HSP.out.row; rw [← hq] at this; exact this)
            have HQ := Lib.hid hq
            have c2 : wc.cell? ⟨x, 2, none⟩ = some (.slice Ch1 q cc1) := HBK.out.cell 2
            have hxl := HBK.out.lt
            have hmay := (open_may HVV.out HCLA.out hun).2
            have HUO := Lib.hid (Sr.un_open hun HVV.out).2
            rw [← HV.out] at hmay HUO
            have HMAY := Lib.hid hmay
            have HUN := Lib.hid hun
            have HME : Hid (wgt n (((v : Int), T1) :: S1) < gk) := Lib.hid (by rw [← HW.out]; exact wgt_next hv0 (by omega))
            clear hq hmay hun hlen hpl
            go_wp2_with (at_builtin; refine wpList_append_any _ rfl (.tmp 41) (.tmp 43) 85 rfl 0 3 i0 _ 1 8 Try.underlying85 hi0 hz0 hz1 hz2 rfl (by decide) _ q _ rfl (HR3.out.alloc _) (wc.heap.size + 1) (some ⟨wc.heap.size, 0, none⟩) 1 1 [.int .i64 (v : Int)] rfl (reads_one (Blk.new _ _ _) (by omega)) (ints_one [(v : Int)]) (by unfold maxLen; omega) (by omega) (Nat.zero_le _) ?_; intro v5 w5 hown5 hg5 hat5; have HOW5 := Lib.hid hown5; have HU5 : Hid (Upd (fun j => (Value.slice Ch1 0 0).ownBlock = some j) wc w5) := Lib.hid (((Upd.refl _ wc).alloc _).grown hg5 (fun j hj => .inl (by rw [← hj]; exact ownB))); have HB5 := Lib.hid (HBK.out.upd HU5.out (fun h => sr_ne HR3.out HBK.out (by decide) (by rw [← h]; exact ownB))); have f5 : w5.frozen? ⟨x, 2, none⟩ = false := HB5.out.frozen 2; have k5 : w5.cell? ⟨x, 2, none⟩ = some (.slice Ch1 q cc1) := HB5.out.cell 2; have k50 : ∀ y, (w5.setCell ⟨x, 2, none⟩ y).cell? ⟨x, 0, none⟩ = some (.pointer (some ⟨p, 0, none⟩)) := fun y => (HB5.out.set_ 2 y).cell 0; have HO5 : Hid (∀ j, v5.ownBlock = some j → (Value.slice Ch1 0 0).ownBlock = some j ∨ wc.heap.size ≤ j) := Lib.hid (fun j hj => own_or Ch1 q cc1 v5.ownBlock wc.heap.size j hj (by rcases hat5 with h | h; (· exact .inl h); (· exact .inr (h.trans (by rw [World.size_alloc]))))); obtain ⟨A5, c5, rfl⟩ := ownL_shape hown5; clear hown5 hg5 hat5)
            have hsa := HSP.out.app HQ.out HOW5.out HU5.out (fun i hi => HO5.out i (by rw [← hi]; exact ownB))
            have HSA := Lib.hid hsa
            have HPU := Lib.hid (Push_yes p gv cl ct1 cm1 n Al At1 Am1 K L T1 (mks M0 S1) (-(v : Int)) _ hsa.tr HMAY.out (by have := mk_len HS2.out.mko; have := HSP.out.tr.tlen; omega))
            clear hsa HSP HBK HR3 HB5 HOW5 HU5 HO5
            go_at_call 41
            refine HPU.out.mono ?_
            rintro e w6 ⟨rfl, R, At6, ct6, Am6, cm6, hf6, hr6⟩
            have hss : SrS w0 w6 x p gv Al At6 Am6 A5 cl ct6 cm6 c5 n K L R M0 (((v : Int), T1) :: S1) (s + 1) := by
              refine ⟨?_, Sr.pre_push hf6 HCL.out HUO.out HS2.out.pre, ⟨by rw [HV.out]; omega, by omega, HCLA.out, HUN.out, HS2.out.ent⟩, ?_⟩
              · rw [chs_cons, mks_cons]
                exact HSA.out.step hr6
              · rw [mks_cons]
                exact HS2.out.mko.push (fol_pre hf6 HCL.out HUO.out)
            have HSS := Lib.hid hss
            have HRN6 : Hid (∀ r f, Sr.Run L n b R (((v : Int), T1) :: S1) (s + 1) r f → Sr.Run L n b T [] 0 r f) := Lib.hid (fun r f h => HRN.out r f (.next HCLA.out HVV.out HNO.out (by rw [← HV.out]; exact hf6) (by rw [← HV.out]; exact h)))
            clear hf6 hr6 hss HPU HSA HRN HS2
            go_wp2_with fail
            go_roundg (wgt n (((v : Int), T1) :: S1))
            case measure => exact HME.out
            case rel => exact ⟨_, R, At6, Am6, A5, ct6, cm6, c5, s + 1, Lib.hid rfl, by have := HME.out; omega, HRN6, HSS⟩
end Go.Proofs.Ytghfelfljblkbaa
