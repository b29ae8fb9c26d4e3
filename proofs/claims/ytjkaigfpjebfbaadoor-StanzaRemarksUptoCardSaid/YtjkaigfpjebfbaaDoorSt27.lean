/- chandlerref4.field. -/
import Derived.Test.YtjkaigfpjebfbaaDoorB9
import Derived.Test.YtjkaigfpjebfbaaDoorSt12
import Derived.BigQuiet
namespace Go.Proofs.YtjkaigfpjebfbaaDoor
open Go.RowKit
set_option linter.unusedVariables false

/-- The text of a field that may be printed. -/
def fldT (f : Fd) (l : List Fd) : ByteArray := if mayF f l = 0 then ofL (jn (linesF f)) else ⟨#[]⟩
theorem fldT_no {f : Fd} {l : List Fd} {R : Nat} (h : R = mayF f l) (h0 : R ≠ 0) : fldT f l = ⟨#[]⟩ := by unfold fldT; rw [if_neg (by omega)]
theorem fldT_ok {f : Fd} {l : List Fd} {R : Nat} (h : R = mayF f l) (h0 : R = 0) : fldT f l = ofL (jn (linesF f)) := by unfold fldT; rw [if_pos (by omega)]
theorem trimB_R {s : ByteArray} (h : trimB s = s) : trimR s = s := by
  have h1 := trimB_is s
  rw [h] at h1
  obtain ⟨_, _, _, _, _, _, h2⟩ := h1
  rcases Nat.eq_zero_or_pos s.size with h0 | h0
  · exact tail_nil s h0
  · obtain ⟨n, hn⟩ : ∃ n, s.size = n + 1 := ⟨s.size - 1, by omega⟩
    refine tail_end s n hn ?_
    have hl : (bl s).length = n + 1 := hn
    have e : bl s = (bl s).take n ++ [(bl s)[n]'(by omega)] := by
      rw [← List.take_succ_eq_append_getElem (by omega), List.take_of_length_le (by omega)]
    have := h2 _ _ e
    have h3 := bl_get s n (by omega)
    unfold wU at this
    rw [h3] at this
    exact this
theorem fn_bad {nm : ByteArray} (z : Int) (hz : z = if nameN (nm ++ ⟨#[58]⟩) = 0 ∨ nameN (nm ++ ⟨#[58]⟩) = (nm ++ (⟨#[58]⟩ : ByteArray)).size then -1 else (nameN (nm ++ ⟨#[58]⟩) : Int)) : (z ≠ (nm.size : Int) → nameN nm = 0 ∨ nameN nm ≠ nm.size) ∧ (z = (nm.size : Int) → 0 < nm.size ∧ nameN nm = nm.size) := by
  have h1 := nm_colon_ne nm
  have h2 := nm_colon nm
  refine ⟨fun h => ?_, fun h => ?_⟩
  · by_cases h3 : nameN nm = 0
    · exact .inl h3
    · refine .inr fun h4 => h ?_
      have h5 : NmOk nm := ⟨by omega, h4⟩
      obtain ⟨h6, h7⟩ := h2.2 h5
      rw [hz, if_neg (by omega), h7]
  · have h3 : nameN (nm ++ ⟨#[58]⟩) ≠ 0 := fun h3 => by
      rw [if_pos (.inl h3)] at hz
      omega
    rw [if_neg (by omega)] at hz
    exact h2.1 ⟨by omega, by omega⟩
set_option maxRecDepth 100000 in
set_option maxHeartbeats 4000000 in
theorem RFld_any (G G' : Nat → Prop) (nm : ByteArray) (ls : List ByteArray) (lv : Value) (A : Option Addr) (n c : Nat) (fx : List Value) (l : List Fd) (w : World) (hlv : LV w G lv ls) (hr : RowG w G' 2 A n fx) (hf : FV w G' fx l) (hn : n = l.length) (hN : n ≤ 1048576) (hs : ∀ f ∈ l, f.n.size ≤ 1048576) (hm : nm.size ≤ 1048576) (hls : lsum ls ≤ 4194304) :
    Calls Tryd.prog 36 #[.agg #[.string nm, lv], .slice A n c] w fun e w' => e = .returned (.tuple #[.string (fldT ⟨nm, ls⟩ l), .int .i64 ((mayF ⟨nm, ls⟩ l : Nat) : Int)]) ∧ Below w.heap.size w w' := by
  obtain ⟨R, hR⟩ : ∃ R, R = mayF ⟨nm, ls⟩ l := ⟨_, rfl⟩
  have HC : Hid (FldR R nm ls l) := Lib.hid (by rw [hR]; exact FldR.of nm ls l)
  have HNO0 : Hid (R ≠ 0 → fldT ⟨nm, ls⟩ l = ⟨#[]⟩) := Lib.hid (fun h => fldT_no hR h)
  have HYE0 : Hid (R = 0 → fldT ⟨nm, ls⟩ l = ofL (jn (lns nm ls 0))) := Lib.hid (fun h => fldT_ok hR h)
  rw [← hR]
  obtain ⟨T, hT0⟩ : ∃ T, T = fldT ⟨nm, ls⟩ l := ⟨_, rfl⟩
  rw [← hT0] at HNO0 HYE0 ⊢
  obtain ⟨z, hz⟩ : ∃ z : Int, z = if nameN (nm ++ ⟨#[58]⟩) = 0 ∨ nameN (nm ++ ⟨#[58]⟩) = (nm ++ (⟨#[58]⟩ : ByteArray)).size then -1 else (nameN (nm ++ ⟨#[58]⟩) : Int) := ⟨_, rfl⟩
  have HNM : Hid (∀ W, Calls Tryd.prog 29 #[.string (nm ++ ⟨#[58]⟩)] W fun e w' => e = .returned (.int .i64 z) ∧ W = w') := Lib.hid (fun W => by
    have := fieldName_any (nm ++ ⟨#[58]⟩) W (by rw [app_size]; have : (⟨#[58]⟩ : ByteArray).size = 1 := rfl; omega)
    rw [← hz] at this
    exact this)
  have HZ := Lib.hid (fn_bad z hz)
  have HSAME : Hid (∀ W (x : ByteArray), x.size ≤ 1048576 → Calls Tryd.prog 17 #[.string nm, .string x] W fun e w' => e = .returned (.bool (sameN x nm)) ∧ Below W.heap.size W w') := Lib.hid (fun W x h => by
    have := RSame_any nm x W (by omega) (by omega)
    rw [sameN_sym] at this
    exact this)
  obtain ⟨hb, hhb⟩ : ∃ hb, hb = hasN l nm := ⟨_, rfl⟩
  obtain ⟨LA, lc, rfl, hlc, hlr⟩ := hlv
  obtain ⟨m, hm2⟩ : ∃ m, m = ls.length := ⟨_, rfl⟩
  rw [← hm2] at hlc hlr ⊢
  have hll := lsum_len ls
  have HLR := Lib.hid hlr
  have HML := Lib.hid hm2
  have HH := Lib.hid hhb
  have HLS := Lib.hid hls
  have HRW := Lib.hid hr
  have HFV := Lib.hid hf
  have HN := Lib.hid hn
  have HSZ := Lib.hid hs
  have hmb : m ≤ 4194304 := by omega
  obtain ⟨b, hb0⟩ : ∃ b, b = w.heap.size := ⟨_, rfl⟩
  have HB9 := Lib.hid hb0
  obtain ⟨w0, hw0⟩ : ∃ w0, w0 = w.alloc (.cells #[.string nm, .slice LA m lc] 40) := ⟨_, rfl⟩
  have HK0 : Hid (Blk w0 b 40 #[.string nm, .slice LA m lc]) := Lib.hid (by rw [hw0, hb0]; exact Blk.new w _ _)
  have HB0 : Hid (Below w.heap.size w w0) := Lib.hid (by rw [hw0]; exact (Below.refl _ _).alloc (Nat.le_refl _) _)
  have c0 : w0.cell? ⟨b, 0, none⟩ = some (.string nm) := HK0.out.cell 0
  have c1 : w0.cell? ⟨b, 1, none⟩ = some (.slice LA m lc) := HK0.out.cell 1
  clear hR hr hf hn hs hlr hm2 hz hhb hls hll hT0
  go_enter Tryd.func36, Tryd.ntmps36
  go_upto_region 1 with fail
  rw [← hw0, ← hb0]
  clear hw0 hb0
  by_cases z1 : z = (nm.size : Int)
  case neg =>
    have z1' : (z != (nm.size : Int)) = true := by rw [bne_iff_ne]; exact z1
    have HE : Hid (R = 3) := Lib.hid (by
      rcases HZ.out.1 z1 with h | h
      · exact HC.out.nm0 h
      · exact HC.out.nm1 h)
    have HET : Hid (T = ⟨#[]⟩) := Lib.hid (HNO0.out (by rw [HE.out]; decide))
    clear z1
    go_quiet ((go_at_call 29; exact ((HNM.out _).mono fun e w' h => ⟨h.1, _, h.2.symm⟩)))
    go_wp2_with fail
    exact bodyPost_ret (v := .tuple #[.string ⟨#[]⟩, .int .i64 3]) (by simp [results, Tryd.results36, go_sem]) rfl ⟨by rw [HE.out, HET.out]; rfl, HB0.out.trans (below_drewB _ _ _)⟩
  have z1' : (z != (nm.size : Int)) = false := by rw [z1]; simp
  have z2 := HZ.out.2 z1
  have z2' : ((nm.size : Int) == 0) = false := by rw [beq_eq_false_iff_ne]; omega
  have HZ2 := Lib.hid z2
  clear z2
  by_cases m0 : m = 0
  · have m0' : ((m : Int) == 0) = true := by rw [beq_iff_eq]; omega
    have HE : Hid (R = 3) := Lib.hid (HC.out.non (by rw [← HML.out]; exact m0))
    have HET : Hid (T = ⟨#[]⟩) := Lib.hid (HNO0.out (by rw [HE.out]; decide))
    clear z1 m0
    go_quiet ((go_at_call 29; exact ((HNM.out _).mono fun e w' h => ⟨h.1, _, h.2.symm⟩)))
    go_wp2_with fail
    exact bodyPost_ret (v := .tuple #[.string ⟨#[]⟩, .int .i64 3]) (by simp [results, Tryd.results36, go_sem]) rfl ⟨by rw [HE.out, HET.out]; rfl, HB0.out.trans (below_drewB _ _ _)⟩
  have m0' : ((m : Int) == 0) = false := by rw [beq_eq_false_iff_ne]; omega
  have HNO : Hid (¬ (nameN nm = 0 ∨ nameN nm ≠ nm.size ∨ ls.length = 0)) := Lib.hid (by
    rw [← HML.out]
    have := HZ2.out
    omega)
  clear z1 m0
  go_quiet ((go_at_call 29; exact ((HNM.out _).mono fun e w' h => ⟨h.1, _, h.2.symm⟩)))
  obtain ⟨w1, hw1⟩ : ∃ w1, w1 = w0.drewN nq := ⟨_, rfl⟩
  have HW1 : Hid (Below w.heap.size w w1 ∧ Blk w1 b 40 #[.string nm, .slice LA m lc]) := Lib.hid (by rw [hw1]; exact ⟨HB0.out.trans (below_drewB _ _ _), HK0.out.drewN _⟩)
  rw [← hw1]
  clear hw1 c0 c1 HK0 HB0
  have c1 : w1.cell? ⟨b, 1, none⟩ = some (.slice LA m lc) := HW1.out.2.cell 1
  go_wp2_with fail
  clear c1
  go_loopw [37] (fun t wr => ∃ i : Nat, t = .int .i64 (i : Int) ∧ i ≤ m ∧ Hid (mayAll ls 0 = mayAll (ls.drop i) i) ∧ Hid (Below w.heap.size w wr ∧ Blk wr b 40 #[.string nm, .slice LA m lc])) (fun t _ => m - (match t with | .int _ x => x.toNat | _ => 0))
  case atStart => exact ⟨0, rfl, Nat.zero_le _, Lib.hid rfl, HW1⟩
  case round =>
    obtain ⟨i, rfl, hi, HI, HW⟩ := hrel
    clear HW1
    by_cases hlt : i < m
    · have hln : (i : Int) < (m : Int) := by omega
      have hil : i < ls.length := by have := HML.out; omega
      obtain ⟨g, o, rfl, hcg⟩ := HLR.out.cells (by omega)
      obtain ⟨s, hs⟩ : ∃ s, s = ls[i] := ⟨_, rfl⟩
      have hsx : (ls.map Value.string)[i]? = some (.string s) := by rw [List.getElem?_map, List.getElem?_eq_getElem hil, hs]; rfl
      have k1 : wr.cell? ⟨g, o + i, none⟩ = some (.string s) := hcg wr HW.out.1 _ _ hsx
      have hss : s.size ≤ 4194304 := by have := lsum_mem (ls := ls) (s := s) (by rw [hs]; exact List.getElem_mem hil); have := HLS.out; omega
      have hst := mayAll_step hil
      rw [← hs] at hst
      have HG := Lib.hid (fun W => RefGood_any s W (by omega))
      have HE := Lib.hid (fun W => tail_any s W (by omega))
      have HTR := Lib.hid (fun W => RefTrim_any s W (by omega))
      obtain ⟨x, hx⟩ : ∃ x, x = trimR s := ⟨_, rfl⟩
      obtain ⟨y, hy⟩ : ∃ y, y = trimB s := ⟨_, rfl⟩
      obtain ⟨gz, hg⟩ : ∃ g, g = goodZ s := ⟨_, rfl⟩
      have hBAD : mayL i s = false → R = 3 := fun h => HC.out.bad (by rw [HI.out, hst, h, Bool.false_and])
      have hBAD2 : mayL i s = false → R = 3 ∧ T = ⟨#[]⟩ := fun h => ⟨hBAD h, HNO0.out (by rw [hBAD h]; decide)⟩
      have hGO : mayL i s = true → mayAll ls 0 = mayAll (ls.drop (i + 1)) (i + 1) := fun h => by rw [HI.out, hst, h, Bool.true_and]
      rw [← hx] at HE
      rw [← hy] at HTR
      rw [← hg] at HG
      clear hcg hs hsx hst hBAD
      by_cases q1 : 0 ≤ gz
      · have q1' : decide ((0 : Int) ≤ gz) = true := decide_eq_true q1
        have HBD := Lib.hid (hBAD2 (mayL_bad (by rw [← hg]; exact q1)))
        clear hBAD2 hGO hx hy hg q1
        go_wp2_with (first | (go_at_call 43; refine (HG.out _).mono ?_; rintro e w2 ⟨rfl, rfl⟩) | (go_at_call 28; refine (HE.out _).mono ?_; rintro e w3 ⟨rfl, rfl⟩) | (go_at_call 21; refine (HTR.out _).mono ?_; rintro e w4 ⟨rfl, rfl⟩))
        exact bodyPost_ret (v := .tuple #[.string ⟨#[]⟩, .int .i64 3]) (by simp [results, Tryd.results36, go_sem]) rfl ⟨by rw [HBD.out.1, HBD.out.2]; rfl, HW.out.1⟩
      have q1' : decide ((0 : Int) ≤ gz) = false := decide_eq_false q1
      by_cases q2 : 0 < i
      case neg =>
        have q2' : ((i : Int) == 0) = true := by rw [beq_iff_eq]; omega
        have q2'' : ¬ (0 : Int) < (i : Int) := by omega
        by_cases q3 : y = s
        · have q3' : (y.toList == s.toList) = true := by rw [str_eq, decide_eq_true_eq]; exact q3
          have HGO := Lib.hid (hGO (by rw [mayL_first (by rw [← hg]; omega) (trimB_R (hy.symm.trans q3)) q2, decide_eq_true (hy.symm.trans q3)]))
          clear hBAD2 hGO hx hy hg q1 q2 q3
          go_wp2_with (first | (go_at_call 43; refine (HG.out _).mono ?_; rintro e w2 ⟨rfl, rfl⟩) | (go_at_call 28; refine (HE.out _).mono ?_; rintro e w3 ⟨rfl, rfl⟩) | (go_at_call 21; refine (HTR.out _).mono ?_; rintro e w4 ⟨rfl, rfl⟩))
          refine ⟨⟨i + 1, by go_num, by omega, HGO, HW⟩, ?_⟩
          show m - ((i : Int) + 1).toNat < m - (i : Int).toNat
          omega
        · have q3' : (y.toList == s.toList) = false := by rw [str_eq, decide_eq_false_iff_not]; exact q3
          have HBD := Lib.hid (hBAD2 (by
            by_cases q4 : trimR s = s
            · rw [mayL_first (by rw [← hg]; omega) q4 q2, decide_eq_false (fun e => q3 (hy.trans e))]
            · exact mayL_end q4))
          clear hBAD2 hGO hx hy hg q1 q2 q3
          go_wp2_with (first | (go_at_call 43; refine (HG.out _).mono ?_; rintro e w2 ⟨rfl, rfl⟩) | (go_at_call 28; refine (HE.out _).mono ?_; rintro e w3 ⟨rfl, rfl⟩) | (go_at_call 21; refine (HTR.out _).mono ?_; rintro e w4 ⟨rfl, rfl⟩))
          exact bodyPost_ret (v := .tuple #[.string ⟨#[]⟩, .int .i64 3]) (by simp [results, Tryd.results36, go_sem]) rfl ⟨by rw [HBD.out.1, HBD.out.2]; rfl, HW.out.1⟩
      have q2' : ((i : Int) == 0) = false := by rw [beq_eq_false_iff_ne]; omega
      have q2'' : (0 : Int) < (i : Int) := by omega
      by_cases q3 : x = s
      case neg =>
        have q3' : (x.toList == s.toList) = false := by rw [str_eq, decide_eq_false_iff_not]; exact q3
        have HBD := Lib.hid (hBAD2 (mayL_end (fun e => q3 (hx.trans e))))
        clear hBAD2 hGO hx hy hg q1 q2 q3
        go_wp2_with (first | (go_at_call 43; refine (HG.out _).mono ?_; rintro e w2 ⟨rfl, rfl⟩) | (go_at_call 28; refine (HE.out _).mono ?_; rintro e w3 ⟨rfl, rfl⟩) | (go_at_call 21; refine (HTR.out _).mono ?_; rintro e w4 ⟨rfl, rfl⟩))
        exact bodyPost_ret (v := .tuple #[.string ⟨#[]⟩, .int .i64 3]) (by simp [results, Tryd.results36, go_sem]) rfl ⟨by rw [HBD.out.1, HBD.out.2]; rfl, HW.out.1⟩
      have q3' : (x.toList == s.toList) = true := by rw [str_eq, decide_eq_true_eq]; exact q3
      by_cases q4 : s = dotB
      · have q4' : (s.toList == [46]) = true := by rw [← dot_list, str_eq, decide_eq_true_eq]; exact q4
        have HBD := Lib.hid (hBAD2 (mayL_dot q2 q4))
        clear hBAD2 hGO hx hy hg q1 q2 q3 q4
        go_wp2_with (first | (go_at_call 43; refine (HG.out _).mono ?_; rintro e w2 ⟨rfl, rfl⟩) | (go_at_call 28; refine (HE.out _).mono ?_; rintro e w3 ⟨rfl, rfl⟩) | (go_at_call 21; refine (HTR.out _).mono ?_; rintro e w4 ⟨rfl, rfl⟩))
        exact bodyPost_ret (v := .tuple #[.string ⟨#[]⟩, .int .i64 3]) (by simp [results, Tryd.results36, go_sem]) rfl ⟨by rw [HBD.out.1, HBD.out.2]; rfl, HW.out.1⟩
      · have q4' : (s.toList == [46]) = false := by rw [← dot_list, str_eq, decide_eq_false_iff_not]; exact q4
        have HGO := Lib.hid (hGO (mayL_on (by rw [← hg]; omega) (hx.symm.trans q3) q2 q4))
        clear hBAD2 hGO hx hy hg q1 q2 q3 q4
        go_wp2_with (first | (go_at_call 43; refine (HG.out _).mono ?_; rintro e w2 ⟨rfl, rfl⟩) | (go_at_call 28; refine (HE.out _).mono ?_; rintro e w3 ⟨rfl, rfl⟩) | (go_at_call 21; refine (HTR.out _).mono ?_; rintro e w4 ⟨rfl, rfl⟩))
        refine ⟨⟨i + 1, by go_num, by omega, HGO, HW⟩, ?_⟩
        show m - ((i : Int) + 1).toNat < m - (i : Int).toNat
        omega
    · have hln : ¬ (i : Int) < (m : Int) := by omega
      have HMA : Hid (mayAll ls 0 = true) := Lib.hid (by rw [HI.out]; exact mayAll_end (by have := HML.out; omega))
      clear HI
      go_wp2_with fail
      go_loopw [72] (fun t wr => ∃ i : Nat, t = .int .i64 (i : Int) ∧ i ≤ n ∧ Hid (∀ j (hj : j < l.length), j < i → sameN l[j].n nm = false) ∧ Hid (Below w.heap.size w wr ∧ Blk wr b 40 #[.string nm, .slice LA m lc])) (fun t _ => n - (match t with | .int _ x => x.toNat | _ => 0))
      case atStart => exact ⟨0, rfl, Nat.zero_le _, Lib.hid (fun j _ hj => by omega), HW⟩
      case round =>
        obtain ⟨k, rfl, hk, HJ, HX⟩ := hrel
        rename World => wx
        clear HW
        by_cases hlt2 : k < n
        · have hln2 : (k : Int) < (n : Int) := by omega
          have hkl : k < l.length := by have := HN.out; omega
          obtain ⟨fg, fo, rfl, hcf⟩ := HRW.out.cells (by omega)
          obtain ⟨e1, lv2, e2, HLV2⟩ := HFV.out.at_ k hkl
          obtain ⟨x, hx⟩ : ∃ x, x = l[k].n := ⟨_, rfl⟩
          have hxs : x.size ≤ 1048576 := by rw [hx]; exact HSZ.out _ (List.getElem_mem hkl)
          rw [← hx] at e1
          obtain ⟨A2, c2, rfl, _, _⟩ := HLV2
          have k1 : wx.cell? ⟨fg, fo + k * 2, none⟩ = some (.string x) := hcf wx HX.out.1 _ _ e1
          have k2 := hcf wx HX.out.1 _ _ e2
          obtain ⟨p2, hp2⟩ : ∃ p2, p2 = l[k].ls.length := ⟨_, rfl⟩
          rw [← hp2] at k2
          have k2' : wx.cell? ⟨fg, fo + k * 2 + 1, none⟩ = some (.slice A2 p2 c2) := k2
          obtain ⟨bs, hbs⟩ : ∃ bs, bs = sameN x nm := ⟨_, rfl⟩
          have hsm := fun W => HSAME.out W x hxs
          rw [← hbs] at hsm
          have HSX := Lib.hid hsm
          have HXE := Lib.hid hx
          have HBS := Lib.hid hbs
          clear k2 e1 e2 hcf hx hp2 hsm hbs
          go_upto_region 12 with fail
          obtain ⟨b2, hb2⟩ : ∃ b2, b2 = wx.heap.size := ⟨_, rfl⟩
          obtain ⟨y1, hy1⟩ : ∃ y1, y1 = wx.alloc (.cells #[.string x, .slice A2 p2 c2] 40) := ⟨_, rfl⟩
          have HK1 : Hid (Blk y1 b2 40 #[.string x, .slice A2 p2 c2]) := Lib.hid (by rw [hy1, hb2]; exact Blk.new wx _ _)
          have HX1 : Hid (Below w.heap.size w y1 ∧ Blk y1 b 40 #[.string nm, .slice LA m lc]) := Lib.hid (by rw [hy1]; exact ⟨HX.out.1.alloc HX.out.1.size _, HX.out.2.alloc _⟩)
          have d1 : y1.cell? ⟨b, 0, none⟩ = some (.string nm) := HX1.out.2.cell 0
          have d2 : y1.cell? ⟨b2, 0, none⟩ = some (.string x) := HK1.out.cell 0
          rw [← hy1, ← hb2]
          clear hy1 hb2 k1 k2' HX
          cases bs with
          | false =>
            have HJ2 : Hid (∀ j (hj : j < l.length), j < k + 1 → sameN l[j].n nm = false) := Lib.hid (fun j hj h => by
              by_cases e : j = k
              · subst e; rw [← HXE.out, ← HBS.out]
              · exact HJ.out j hj (by omega))
            go_wp2_with (go_at_call 17; refine (HSX.out _).mono ?_; rintro e w3 ⟨rfl, hb3⟩; have HW3 := Lib.hid (And.intro (HX1.out.1.trans (hb3.mono HX1.out.1.size)) (HX1.out.2.below hb3 HX1.out.2.lt)); clear hb3)
            refine ⟨⟨k + 1, by go_num, by omega, HJ2, HW3⟩, ?_⟩
            show n - ((k : Int) + 1).toNat < n - (k : Int).toNat
            omega
          | true =>
            have HE : Hid (R = 4) := Lib.hid (HC.out.two HNO.out HMA.out (hasN_yes hkl (by rw [← HXE.out, ← HBS.out])))
            have HET : Hid (T = ⟨#[]⟩) := Lib.hid (HNO0.out (by rw [HE.out]; decide))
            go_wp2_with (go_at_call 17; refine (HSX.out _).mono ?_; rintro e w3 ⟨rfl, hb3⟩; have HW3 := Lib.hid (HX1.out.1.trans (hb3.mono HX1.out.1.size)); clear hb3)
            exact bodyPost_ret (v := .tuple #[.string ⟨#[]⟩, .int .i64 4]) (by simp [results, Tryd.results36, go_sem]) rfl ⟨by rw [HE.out, HET.out]; rfl, HW3.out⟩
        · have hln2 : ¬ (k : Int) < (n : Int) := by omega
          have HHN : Hid (hasN l nm = false) := Lib.hid (hasN_no (fun j hj => HJ.out j hj (by have := HN.out; omega)))
          clear HJ
          have d2 : wx.cell? ⟨b, 1, none⟩ = some (.slice LA m lc) := HX.out.2.cell 1
          go_wp2_with fail
          go_loopw [85, 10] (fun t u wy => ∃ (j : Nat) (ob : ByteArray), t = .int .i64 (j : Int) ∧ u = .string ob ∧ j ≤ m ∧ Hid (longAny nm ls 0 = longAny nm (ls.drop j) j) ∧ Hid (bl ob = jn ((lns nm ls 0).take j)) ∧ ob.size ≤ 1001 * j ∧ Hid (Below w.heap.size w wy ∧ Blk wy b 40 #[.string nm, .slice LA m lc])) (fun t _ _ => m - (match t with | .int _ x => x.toNat | _ => 0))
          case atStart => exact ⟨0, (⟨#[]⟩ : ByteArray), rfl, rfl, Nat.zero_le _, Lib.hid rfl, Lib.hid rfl, Nat.zero_le _, HX⟩
          case round =>
            obtain ⟨j, ob, rfl, rfl, hj, HJ, HO, hO, HY⟩ := hrel
            rename World => wy
            clear HX
            by_cases hlt3 : j < m
            case neg =>
              have hln3 : ¬ (j : Int) < (m : Int) := by omega
              have HLG : Hid (longAny nm ls 0 = false) := Lib.hid (by rw [HJ.out]; exact longAny_end (by have := HML.out; omega))
              have HE : Hid (R = 0) := Lib.hid (HC.out.ok HNO.out HMA.out HHN.out HLG.out)
              have HET : Hid (T = ob) := Lib.hid (by
                rw [HYE0.out HE.out]
                refine bl_inj ?_
                rw [HO.out, List.take_of_length_le (by rw [lns_len, ← HML.out]; omega)]
                rfl)
              go_wp2_with fail
              exact bodyPost_ret (v := .tuple #[.string ob, .int .i64 0]) (by simp [results, Tryd.results36, go_sem]) rfl ⟨by rw [HE.out, HET.out]; rfl, HY.out.1⟩
            have hln3 : (j : Int) < (m : Int) := by omega
            have hjl : j < ls.length := by have := HML.out; omega
            obtain ⟨lg, lo, rfl, hcl⟩ := HLR.out.cells (by omega)
            obtain ⟨s, hs⟩ : ∃ s, s = ls[j] := ⟨_, rfl⟩
            have hsx : (ls.map Value.string)[j]? = some (.string s) := by rw [List.getElem?_map, List.getElem?_eq_getElem hjl, hs]; rfl
            have k1 : wy.cell? ⟨lg, lo + j, none⟩ = some (.string s) := hcl wy HY.out.1 _ _ hsx
            have hss : s.size ≤ 4194304 := by have := lsum_mem (ls := ls) (s := s) (by rw [hs]; exact List.getElem_mem hjl); have := HLS.out; omega
            have hst := longAny_step (nm := nm) hjl
            have hls := lns_step (nm := nm) hjl
            rw [← hs] at hst hls
            have HST := Lib.hid hst
            have HLS2 := Lib.hid hls
            have hbe := blank_eq s
            have d1 : wy.cell? ⟨b, 0, none⟩ = some (.string nm) := HY.out.2.cell 0
            clear hcl hs hsx hst hls
            by_cases q1 : 0 < j
            · have q1' : ((j : Int) == 0) = false := by rw [beq_eq_false_iff_ne]; omega
              by_cases q2 : s.size = 0
              · rw [decide_eq_true q2] at hbe
                have HXB : Hid (lineB nm j s = ⟨#[32, 46]⟩) := Lib.hid (by unfold lineB; simp only [if_pos q1, if_pos q2])
                obtain ⟨xb, hxb⟩ : ∃ xb : ByteArray, xb = ⟨#[32, 46]⟩ := ⟨_, rfl⟩
                have hxz : xb.size ≤ 1048576 + 4194304 + 2 := by have := lineB_size nm j s; rw [HXB.out, ← hxb] at this; omega
                rw [← hxb] at HXB
                have hsz : (xb.size : Int) = (2 : Int) := by rw [hxb]; rfl
                have HXE := Lib.hid hxb
                by_cases q3 : 1000 < xb.size
                · omega
                · have HN2 : Hid (longAny nm ls 0 = longAny nm (ls.drop (j + 1)) (j + 1)) := Lib.hid (by rw [HJ.out, HST.out, HXB.out, decide_eq_false q3, Bool.false_or])
                  have q3' : ¬ (1000 : Int) < (2 : Int) := by omega
                  have HO2 : Hid (bl (ob ++ (⟨#[32, 46]⟩ ++ ⟨#[10]⟩)) = jn ((lns nm ls 0).take (j + 1))) := Lib.hid (by
                    have hls := HLS2.out
                    rw [hls, jn_snoc9, HXB.out, ← hxb, bl_app, bl_app, HO.out]
                    rfl)
                  have hO2 : (ob ++ (⟨#[32, 46]⟩ ++ ⟨#[10]⟩)).size ≤ 1001 * (j + 1) := by
                    rw [← hxb, app_size, app_size]
                    have : (⟨#[10]⟩ : ByteArray).size = 1 := rfl
                    omega
                  have hz5 : (2 : Int) ≤ 1000 := by omega
                  clear q1 q2 q3 hxb hsz
                  go_wp2_with fail
                  refine ⟨⟨j + 1, _, by go_num, rfl, by omega, HN2, HO2, hO2, HY⟩, ?_⟩
                  show m - ((j : Int) + 1).toNat < m - (j : Int).toNat
                  omega
              · rw [decide_eq_false q2] at hbe
                have HXB : Hid (lineB nm j s = ⟨#[32]⟩ ++ s) := Lib.hid (by unfold lineB; simp only [if_pos q1, if_neg q2])
                obtain ⟨xb, hxb⟩ : ∃ xb : ByteArray, xb = ⟨#[32]⟩ ++ s := ⟨_, rfl⟩
                have hxz : xb.size ≤ 1048576 + 4194304 + 2 := by have := lineB_size nm j s; rw [HXB.out, ← hxb] at this; omega
                rw [← hxb] at HXB
                have hsz : (xb.size : Int) = 1 + (s.size : Int) := by rw [hxb]; rw [app_size]; exact Int.natCast_add 1 s.size
                have HXE := Lib.hid hxb
                by_cases q3 : 1000 < xb.size
                · have HE : Hid (R = 2) := Lib.hid (HC.out.long HNO.out HMA.out HHN.out (by rw [HJ.out, HST.out, HXB.out, decide_eq_true q3, Bool.true_or]))
                  have HET : Hid (T = ⟨#[]⟩) := Lib.hid (HNO0.out (by rw [HE.out]; decide))
                  have q3' : (1000 : Int) < 1 + (s.size : Int) := by omega
                  clear q1 q2 q3 hxb hsz
                  go_wp2_with fail
                  exact bodyPost_ret (v := .tuple #[.string ⟨#[]⟩, .int .i64 2]) (by simp [results, Tryd.results36, go_sem]) rfl ⟨by rw [HE.out, HET.out]; rfl, HY.out.1⟩
                · have HN2 : Hid (longAny nm ls 0 = longAny nm (ls.drop (j + 1)) (j + 1)) := Lib.hid (by rw [HJ.out, HST.out, HXB.out, decide_eq_false q3, Bool.false_or])
                  have q3' : ¬ (1000 : Int) < 1 + (s.size : Int) := by omega
                  have HO2 : Hid (bl (ob ++ (⟨#[32]⟩ ++ s ++ ⟨#[10]⟩)) = jn ((lns nm ls 0).take (j + 1))) := Lib.hid (by
                    have hls := HLS2.out
                    rw [hls, jn_snoc9, HXB.out, ← hxb, bl_app, bl_app, HO.out]
                    rfl)
                  have hO2 : (ob ++ (⟨#[32]⟩ ++ s ++ ⟨#[10]⟩)).size ≤ 1001 * (j + 1) := by
                    rw [← hxb, app_size, app_size]
                    have : (⟨#[10]⟩ : ByteArray).size = 1 := rfl
                    omega
                  have hz5 : 1 + (s.size : Int) ≤ 1000 := by omega
                  clear q1 q2 q3 hxb hsz
                  go_wp2_with fail
                  refine ⟨⟨j + 1, _, by go_num, rfl, by omega, HN2, HO2, hO2, HY⟩, ?_⟩
                  show m - ((j : Int) + 1).toNat < m - (j : Int).toNat
                  omega
            · have q1' : ((j : Int) == 0) = true := by rw [beq_iff_eq]; omega
              by_cases q2 : s.size = 0
              · rw [decide_eq_true q2] at hbe
                have HXB : Hid (lineB nm j s = nm ++ ⟨#[58]⟩) := Lib.hid (by unfold lineB; simp only [if_neg q1, if_pos q2])
                obtain ⟨xb, hxb⟩ : ∃ xb : ByteArray, xb = nm ++ ⟨#[58]⟩ := ⟨_, rfl⟩
                have hxz : xb.size ≤ 1048576 + 4194304 + 2 := by have := lineB_size nm j s; rw [HXB.out, ← hxb] at this; omega
                rw [← hxb] at HXB
                have hsz : (xb.size : Int) = (nm.size : Int) + 1 := by rw [hxb]; rw [app_size]; exact Int.natCast_add nm.size 1
                have HXE := Lib.hid hxb
                by_cases q3 : 1000 < xb.size
                · have HE : Hid (R = 2) := Lib.hid (HC.out.long HNO.out HMA.out HHN.out (by rw [HJ.out, HST.out, HXB.out, decide_eq_true q3, Bool.true_or]))
                  have HET : Hid (T = ⟨#[]⟩) := Lib.hid (HNO0.out (by rw [HE.out]; decide))
                  have q3' : (1000 : Int) < (nm.size : Int) + 1 := by omega
                  clear q1 q2 q3 hxb hsz
                  go_wp2_with fail
                  exact bodyPost_ret (v := .tuple #[.string ⟨#[]⟩, .int .i64 2]) (by simp [results, Tryd.results36, go_sem]) rfl ⟨by rw [HE.out, HET.out]; rfl, HY.out.1⟩
                · have HN2 : Hid (longAny nm ls 0 = longAny nm (ls.drop (j + 1)) (j + 1)) := Lib.hid (by rw [HJ.out, HST.out, HXB.out, decide_eq_false q3, Bool.false_or])
                  have q3' : ¬ (1000 : Int) < (nm.size : Int) + 1 := by omega
                  have HO2 : Hid (bl (ob ++ (nm ++ ⟨#[58]⟩ ++ ⟨#[10]⟩)) = jn ((lns nm ls 0).take (j + 1))) := Lib.hid (by
                    have hls := HLS2.out
                    rw [hls, jn_snoc9, HXB.out, ← hxb, bl_app, bl_app, HO.out]
                    rfl)
                  have hO2 : (ob ++ (nm ++ ⟨#[58]⟩ ++ ⟨#[10]⟩)).size ≤ 1001 * (j + 1) := by
                    rw [← hxb, app_size, app_size]
                    have : (⟨#[10]⟩ : ByteArray).size = 1 := rfl
                    omega
                  have hz5 : (nm.size : Int) + 1 ≤ 1000 := by omega
                  clear q1 q2 q3 hxb hsz
                  go_wp2_with fail
                  refine ⟨⟨j + 1, _, by go_num, rfl, by omega, HN2, HO2, hO2, HY⟩, ?_⟩
                  show m - ((j : Int) + 1).toNat < m - (j : Int).toNat
                  omega
              · rw [decide_eq_false q2] at hbe
                have HXB : Hid (lineB nm j s = nm ++ ⟨#[58, 32]⟩ ++ s) := Lib.hid (by unfold lineB; simp only [if_neg q1, if_neg q2])
                obtain ⟨xb, hxb⟩ : ∃ xb : ByteArray, xb = nm ++ ⟨#[58, 32]⟩ ++ s := ⟨_, rfl⟩
                have hxz : xb.size ≤ 1048576 + 4194304 + 2 := by have := lineB_size nm j s; rw [HXB.out, ← hxb] at this; omega
                rw [← hxb] at HXB
                have hsz : (xb.size : Int) = (nm.size : Int) + 2 + (s.size : Int) := by rw [hxb]; rw [app_size, app_size]; show ((nm.size + 2 + s.size : Nat) : Int) = _; omega
                have HXE := Lib.hid hxb
                by_cases q3 : 1000 < xb.size
                · have HE : Hid (R = 2) := Lib.hid (HC.out.long HNO.out HMA.out HHN.out (by rw [HJ.out, HST.out, HXB.out, decide_eq_true q3, Bool.true_or]))
                  have HET : Hid (T = ⟨#[]⟩) := Lib.hid (HNO0.out (by rw [HE.out]; decide))
                  have q3' : (1000 : Int) < (nm.size : Int) + 2 + (s.size : Int) := by omega
                  clear q1 q2 q3 hxb hsz
                  go_wp2_with fail
                  exact bodyPost_ret (v := .tuple #[.string ⟨#[]⟩, .int .i64 2]) (by simp [results, Tryd.results36, go_sem]) rfl ⟨by rw [HE.out, HET.out]; rfl, HY.out.1⟩
                · have HN2 : Hid (longAny nm ls 0 = longAny nm (ls.drop (j + 1)) (j + 1)) := Lib.hid (by rw [HJ.out, HST.out, HXB.out, decide_eq_false q3, Bool.false_or])
                  have q3' : ¬ (1000 : Int) < (nm.size : Int) + 2 + (s.size : Int) := by omega
                  have HO2 : Hid (bl (ob ++ (nm ++ ⟨#[58, 32]⟩ ++ s ++ ⟨#[10]⟩)) = jn ((lns nm ls 0).take (j + 1))) := Lib.hid (by
                    have hls := HLS2.out
                    rw [hls, jn_snoc9, HXB.out, ← hxb, bl_app, bl_app, HO.out]
                    rfl)
                  have hO2 : (ob ++ (nm ++ ⟨#[58, 32]⟩ ++ s ++ ⟨#[10]⟩)).size ≤ 1001 * (j + 1) := by
                    rw [← hxb, app_size, app_size]
                    have : (⟨#[10]⟩ : ByteArray).size = 1 := rfl
                    omega
                  have hz5 : (nm.size : Int) + 2 + (s.size : Int) ≤ 1000 := by omega
                  clear q1 q2 q3 hxb hsz
                  go_wp2_with fail
                  refine ⟨⟨j + 1, _, by go_num, rfl, by omega, HN2, HO2, hO2, HY⟩, ?_⟩
                  show m - ((j : Int) + 1).toNat < m - (j : Int).toNat
                  omega
end Go.Proofs.YtjkaigfpjebfbaaDoor
