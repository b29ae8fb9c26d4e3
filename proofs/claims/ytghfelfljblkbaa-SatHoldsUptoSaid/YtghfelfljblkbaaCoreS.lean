/- sat: can, Core. -/
import Derived.Test.YtghfelfljblkbaaCore1
namespace Go.Proofs.Ytghfelfljblkbaa
open Go.RowKit Go.Sort
set_option linter.unusedVariables false

/-- sat.may's answer at whatever number, turned. -/
def offM (n : Nat) (x : Int) : Bool := decide (x = 0) || decide ((n : Int) < x) || decide (x < -(n : Int))
theorem offM_eq {n : Nat} {x : Int} (h : Ok x) : offM n x = offL n x := by
  unfold offM offL
  rw [vw_ok h, Bool.eq_iff_iff]
  unfold Cf.va
  simp only [Bool.or_eq_true, decide_eq_true_eq]
  omega
theorem find_congr {p q : Int → Bool} : ∀ {zs : List Int}, (∀ z ∈ zs, p z = q z) → zs.find? p = zs.find? q
  | [], _ => rfl
  | z :: r, h => by rw [List.find?, List.find?, h z (by simp), find_congr (fun x hx => h x (List.mem_cons_of_mem _ hx))]
set_option maxRecDepth 100000 in
set_option maxHeartbeats 1000000 in
theorem smayM_any (p cap n : Nat) (A : Option Addr) (L : List (List Int)) (x : Int) (w : World) (h : SetAt w p A cap n L) :
    Calls Try.prog 91 #[.pointer (some ⟨p, 0, none⟩), .int .i64 x] w fun e w' => e = .returned (.bool (!offM n x)) ∧ w = w' := by
  have HV := Lib.hid (Vars_any p cap n A L w h)
  have hn := h.n
  clear h
  by_cases h0 : x = 0
  · have HB : Hid ((!offM n x) = false) := Lib.hid (by unfold offM; rw [decide_eq_true h0]; rfl)
    subst h0
    go_enter Try.func91, Try.ntmps91
    go_wp2_with fail
    go_ret
    exact ⟨ret_bool HB.out.symm, rfl⟩
  · have hd : (x != 0) = true := by rw [bne_iff_ne]; exact h0
    by_cases h1 : x ≤ (n : Int)
    · by_cases h2 : -(n : Int) ≤ x
      · have HB : Hid ((!offM n x) = true) := Lib.hid (by unfold offM; rw [decide_eq_false h0, decide_eq_false (by omega), decide_eq_false (by omega)]; rfl)
        clear h0
        go_enter Try.func91, Try.ntmps91
        go_wp2_with (go_at_call 35; refine HV.out.mono ?_; rintro e w1 ⟨rfl, rfl⟩)
        go_ret
        exact ⟨ret_bool (by rw [HB.out]), rfl⟩
      · have HB : Hid ((!offM n x) = false) := Lib.hid (by unfold offM; rw [decide_eq_true (show x < -(n : Int) by omega), Bool.or_true]; rfl)
        have hd2 : decide (-(n : Int) ≤ x) = false := decide_eq_false h2
        clear h0
        go_enter Try.func91, Try.ntmps91
        go_wp2_with (go_at_call 35; refine HV.out.mono ?_; rintro e w1 ⟨rfl, rfl⟩)
        go_ret
        exact ⟨ret_bool (by rw [HB.out]), rfl⟩
    · have HB : Hid ((!offM n x) = false) := Lib.hid (by unfold offM; rw [decide_eq_true (show (n : Int) < x by omega), Bool.or_true, Bool.true_or]; rfl)
      have hd2 : decide (x ≤ (n : Int)) = false := decide_eq_false h1
      clear h0
      go_enter Try.func91, Try.ntmps91
      go_wp2_with (go_at_call 35; refine HV.out.mono ?_; rintro e w1 ⟨rfl, rfl⟩)
      go_ret
      exact ⟨ret_bool (by rw [HB.out]), rfl⟩
set_option maxRecDepth 100000 in
theorem core1_any (p cap n q : Nat) (A : Option Addr) (L : List (List Int)) (x : Int) (w : World) (h : SetAt w p A cap n L) (hq : w.cell? ⟨q, 0, none⟩ = some (.pointer (some ⟨p, 0, none⟩))) :
    Calls Try.prog 90 #[.int .i64 x, .pointer (some ⟨q, 0, none⟩)] w fun e w' => e = .returned (.bool (offM n x)) ∧ ∃ m, w' = w.drewN m := by
  have HM := Lib.hid (smayM_any p cap n A L x w h)
  obtain ⟨b, hb⟩ : ∃ b, b = offM n x := ⟨_, rfl⟩
  rw [← hb] at HM ⊢
  clear h hb
  cases b with
  | true =>
    go_enter Try.func90, Try.ntmps90
    go_wp2_with (go_at_call 91; refine HM.out.mono ?_; rintro e w1 ⟨rfl, rfl⟩)
    go_ret
    exact ⟨rfl, 0, rfl⟩
  | false =>
    go_enter Try.func90, Try.ntmps90
    go_wp2_with (go_at_call 91; refine HM.out.mono ?_; rintro e w1 ⟨rfl, rfl⟩)
    go_ret
    exact ⟨rfl, 0, rfl⟩
set_option maxRecDepth 100000 in
theorem can_any (sp cap n : Nat) (A : Option Addr) (L : List (List Int)) (C : Option Addr) (lc cc : Nat) (cs : List Int) (w : World) (h : SetAt w sp A cap n L) (hsh : ∀ r ∈ L, r.length ≤ 1048576) (hL : Pr.Cl n L) (hc : Lits w C lc cs) (hlc : lc ≤ 100000) (hn : n ≤ 30) :
    Calls Try.prog 92 #[.pointer (some ⟨sp, 0, none⟩), .slice C lc cc] w fun e w' => e = .returned (.bool (canS n L cs)) ∧ Below w.heap.size w w' := by
  have HS := Lib.hid (Solve0_any sp cap n A L C lc cc cs w h hsh hL hc hlc hn)
  clear h hsh hL hc
  go_enter Try.func92, Try.ntmps92
  go_wp2_with (go_at_call 55; refine HS.out.mono ?_; rintro e w1 ⟨r, A1, m1, c1, rfl, hf, _, _, hb⟩)
  go_ret
  exact ⟨ret_bool (can_first hf), hb⟩
set_option maxRecDepth 100000 in
set_option maxHeartbeats 4000000 in
theorem Core_cap (sp cap n : Nat) (A : Option Addr) (L : List (List Int)) (C : Option Addr) (lc cc : Nat) (cs : List Int) (w : World) (h : SetAt w sp A cap n L) (hsh : ∀ r ∈ L, r.length ≤ 1048576) (hL : Pr.Cl n L) (hc : Lits w C lc cs) (hlc : lc ≤ 40) (hn : n ≤ 30) :
    Calls Try.prog 58 #[.pointer (some ⟨sp, 0, none⟩), .slice C lc cc] w fun e w' => Below w.heap.size w w' ∧ ∃ A' m c', e = .returned (.tuple #[.slice A' m c', .bool (coreR n L cs).isSome]) ∧ m ≤ c' ∧ Lits w' A' m ((coreR n L cs).getD []) := by
  obtain ⟨W1, hW1⟩ : ∃ W1, W1 = w.alloc (.cells #[.pointer (some ⟨sp, 0, none⟩)] 31) := ⟨_, rfl⟩
  have hb1 : Below w.heap.size w W1 := by rw [hW1]; exact (Below.refl _ _).alloc (Nat.le_refl _) _
  have hlt1 : w.heap.size < W1.heap.size := by rw [hW1]; simp
  have hkq : W1.cell? ⟨w.heap.size, 0, none⟩ = some (.pointer (some ⟨sp, 0, none⟩)) := by rw [hW1]; exact (Blk.new _ _ _).cell 0
  have hp : PredAt Try.prog 90 #[.pointer (some ⟨w.heap.size, 0, none⟩)] (Value.int .i64) (offM n) W1 := fun W x hW => core1_any sp cap n w.heap.size A L x W (h.below (hb1.trans (hW.mono hb1.size))) ((hW.cell hlt1).trans hkq)
  have eg : ∀ args w, (callFunc 90 args).run Try.prog w = .ok (.enter 90 args) w := enters_of Try.func90 (by kernel_rfl) rfl
  have HIX := Lib.hid (index_any _ _ _ C lc cc cs W1 (hc.below hb1) (by omega) eg hp)
  rw [find_congr (fun z hz => offM_eq (hc.2.1 z hz))] at HIX
  have HC := Lib.hid hc
  have HOK := Lib.hid hc.2.1
  have HB1 := Lib.hid hb1
  have HCAN : Hid (∀ W, Below w.heap.size w W → ∀ (D : Option Addr) (ld cd : Nat) (ds : List Int), Lits W D ld ds → ld ≤ 100000 → Calls Try.prog 92 #[.pointer (some ⟨sp, 0, none⟩), .slice D ld cd] W fun e w' => e = .returned (.bool (canS n L ds)) ∧ Below W.heap.size W w') := Lib.hid (fun W hW D ld cd ds hd hl => can_any sp cap n A L D ld cd ds W (h.below hW) hsh hL hd hl hn)
  have h40 : ¬ (40 : Int) < (lc : Int) := by omega
  have HKQ := Lib.hid hkq
  have HL1 := Lib.hid hlt1
  clear h hsh hL hc hb1 hp eg hkq hlt1
  subst hW1
  go_enter Try.func58, Try.ntmps58
  go_wp2_with fail
  go_at_call 89
  refine HIX.out.mono ?_
  rintro e w2' ⟨r, rfl, hr, q, hw2⟩
  obtain ⟨w2, hw⟩ : ∃ w2, w2 = w2' := ⟨_, rfl⟩
  rw [← hw]
  rw [← hw] at hw2
  have hd1 : Below (w.alloc (.cells #[.pointer (some ⟨sp, 0, none⟩)] 31)).heap.size (w.alloc (.cells #[.pointer (some ⟨sp, 0, none⟩)] 31)) w2 := by rw [hw2]; exact ⟨rfl, rfl, rfl, Nat.le_refl _, fun _ _ => rfl⟩
  have HB2 : Hid (Below w.heap.size w w2) := Lib.hid (HB1.out.trans (hd1.mono HB1.out.size))
  have kbox : w2.cell? ⟨w.heap.size, 0, none⟩ = some (.pointer (some ⟨sp, 0, none⟩)) := (hd1.cell HL1.out).trans HKQ.out
  have HL2 : Hid (w.heap.size < w2.heap.size) := Lib.hid (Nat.lt_of_lt_of_le HL1.out hd1.size)
  clear hw hw2 hd1 HIX HB1 HKQ HL1
  rcases hr with ⟨rfl, hfn⟩ | ⟨k, hk, rfl, hfs⟩
  · have HFN := Lib.hid hfn
    have HCA := Lib.hid (HCAN.out w2 HB2.out C lc cc cs (HC.out.below HB2.out) (by omega))
    obtain ⟨cb, hcb⟩ : ∃ cb, cb = canS n L cs := ⟨_, rfl⟩
    rw [← hcb] at HCA
    have HCB := Lib.hid hcb
    clear hfn hcb
    go_wp2_with fail
    go_at_call 92
    refine HCA.out.mono ?_
    rintro e w3 ⟨rfl, hb3⟩
    have HB3 := Lib.hid (HB2.out.trans (hb3.mono HB2.out.size))
    have kbox3 : w3.cell? ⟨w.heap.size, 0, none⟩ = some (.pointer (some ⟨sp, 0, none⟩)) := (hb3.cell HL2.out).trans kbox
    have HL3 : Hid (w.heap.size < w3.heap.size) := Lib.hid (Nat.lt_of_lt_of_le HL2.out hb3.size)
    clear hb3 kbox HCA
    cases cb with
    | true =>
      have HR : Hid (coreR n L cs = none) := Lib.hid (by unfold coreR; rw [HFN.out, ← HCB.out]; rfl)
      go_wp2_with fail
      go_ret2
      rw [HR.out]
      exact ⟨HB3.out, none, 0, 0, rfl, Nat.le_refl _, Lits.nil _ _⟩
    | false =>
      have HR : Hid (coreR n L cs = some (coreGo (canS n L) (cs.length - 0) cs 0)) := Lib.hid (by unfold coreR; rw [HFN.out, ← HCB.out]; rfl)
      have HCL := Lib.hid (clone_any C lc cc cs w3 (HC.out.below HB3.out) (by omega))
      clear HCB HFN
      go_wp2_with fail
      go_at_call 62
      refine HCL.out.mono ?_
      rintro e w4 ⟨v4, rfl, ho4, hb4⟩
      obtain ⟨A4, c4, rfl, hl4, hle4, _⟩ := ho4.lits HOK.out
      have HB4 : Hid (Below w3.heap.size w3 w4) := Lib.hid hb4
      have HL4 := Lib.hid hl4
      have hcl : cs.length ≤ 40 := by have := HC.out.1; omega
      obtain ⟨G, hG⟩ : ∃ G, G = coreGo (canS n L) (cs.length - 0) cs 0 := ⟨_, rfl⟩
      rw [← hG] at HR
      have HG := Lib.hid hG.symm
      clear ho4 hl4 hb4 HCL hG
      go_wp2_with fail
      go_loopw [7, 8] (fun u t wr => ∃ (i k ck : Nat) (Ak : Option Addr) (ks : List Int), u = .slice Ak k ck ∧ t = .int .i64 (i : Int) ∧ i ≤ k ∧ k ≤ 40 ∧ k ≤ ck ∧ Hid (k = ks.length) ∧ Hid (Lits wr Ak k ks) ∧ Hid (Below w3.heap.size w3 wr) ∧ Hid (coreGo (canS n L) (ks.length - i) ks i = G)) (fun u t _ => (match u with | .slice _ k _ => k | _ => 0) - (match t with | .int _ x => x.toNat | _ => 0))
      case atStart => exact ⟨0, cs.length, c4, A4, cs, rfl, rfl, Nat.zero_le _, hcl, hle4, Lib.hid rfl, HL4, HB4, HG⟩
      case round =>
        obtain ⟨i, k, ck, Ak, ks, rfl, rfl, hi, hk40, hkc, HKL, HLK, HBK, HGK⟩ := hrel
        clear HL4 HB4 HG hcl hle4
        by_cases hlt : i < k
        · have i1 : (i : Int) < (k : Int) := by omega
          have HCK := Lib.hid (clone_any Ak k ck ks wr HLK.out (by omega))
          have kboxr : wr.cell? ⟨w.heap.size, 0, none⟩ = some (.pointer (some ⟨sp, 0, none⟩)) := (HBK.out.cell HL3.out).trans kbox3
          have HOKK := Lib.hid HLK.out.2.1
          go_wp2_with fail
          go_at_call 62
          refine HCK.out.mono ?_
          rintro e w5 ⟨v5, rfl, ho5, hb5⟩
          have HO5 := Lib.hid ho5
          have hdl := delete_any v5 ks i wr.heap.size w5 ho5 (by have := HKL.out; omega)
          have HDL := Lib.hid hdl
          have HB5 := Lib.hid hb5
          have HLK5 := Lib.hid (HLK.out.below hb5)
          have kbox5 : w5.cell? ⟨w.heap.size, 0, none⟩ = some (.pointer (some ⟨sp, 0, none⟩)) := (hb5.cell (Nat.lt_of_lt_of_le HL3.out HBK.out.size)).trans kboxr
          obtain ⟨A5, c5, rfl⟩ := ownL_shape ho5
          rw [← HKL.out] at HDL ⊢
          clear ho5 hdl hb5 HCK kboxr
          go_wp2_with fail
          go_at_call 93
          refine HDL.out.mono ?_
          rintro e w6 ⟨v6, rfl, ho6, hb6⟩
          have hb56 : Below wr.heap.size wr w6 := HB5.out.trans hb6
          have HB6 : Hid (Below w3.heap.size w3 w6) := Lib.hid (HBK.out.trans (hb56.mono HBK.out.size))
          have kbox6 : w6.cell? ⟨w.heap.size, 0, none⟩ = some (.pointer (some ⟨sp, 0, none⟩)) := (HB6.out.cell HL3.out).trans kbox3
          have HLK6 := Lib.hid (HLK.out.below hb56)
          obtain ⟨A6, c6, rfl, hl6, hle6, _⟩ := ho6.lits (erase_ok HOKK.out)
          have HEL : Hid ((ks.eraseIdx i).length = k - 1) := Lib.hid (by rw [List.length_eraseIdx, if_pos (by have := HKL.out; omega), ← HKL.out])
          rw [HEL.out] at hl6 hle6 ⊢
          have HL6 := Lib.hid hl6
          have HCA := Lib.hid (HCAN.out w6 (HB3.out.trans (HB6.out.mono HB3.out.size)) A6 (k - 1) c6 _ hl6 (by omega))
          have HST := core_step (p := canS n L) (c := ks) (i := i) (by have := HKL.out; omega)
          rw [HGK.out] at HST
          obtain ⟨cb, hcb⟩ : ∃ cb, cb = canS n L (ks.eraseIdx i) := ⟨_, rfl⟩
          rw [← hcb] at HCA HST
          have HSTP := Lib.hid HST
          clear ho6 hl6 hb6 hb56 HDL HO5 HB5 HLK HLK5 kbox5 HST hcb HGK HBK
          go_wp2_with fail
          go_at_call 92
          refine HCA.out.mono ?_
          rintro e w7 ⟨rfl, hb7⟩
          have HB7 : Hid (Below w3.heap.size w3 w7) := Lib.hid (HB6.out.trans (hb7.mono HB6.out.size))
          have HLK7 := Lib.hid (HLK6.out.below hb7)
          have HL7 := Lib.hid (HL6.out.below hb7)
          clear hb7 HCA HB6 HLK6 HL6 kbox6
          cases cb with
          | true =>
            have HG7 : Hid (coreGo (canS n L) (ks.length - (i + 1)) ks (i + 1) = G) := Lib.hid (by have := HSTP.out; rw [if_pos rfl] at this; exact this.symm)
            go_wp2_with fail
            refine ⟨⟨i + 1, k, ck, Ak, ks, rfl, by go_num, by omega, by omega, hkc, HKL, HLK7, HB7, HG7⟩, ?_⟩
            show k - ((i : Int) + 1).toNat < k - (i : Int).toNat
            omega
          | false =>
            have HG7 : Hid (coreGo (canS n L) ((ks.eraseIdx i).length - i) (ks.eraseIdx i) i = G) := Lib.hid (by have := HSTP.out; rw [if_neg Bool.false_ne_true] at this; exact this.symm)
            go_wp2_with fail
            refine ⟨⟨i, k - 1, c6, A6, ks.eraseIdx i, rfl, rfl, by omega, by omega, hle6, Lib.hid HEL.out.symm, HL7, HB7, HG7⟩, ?_⟩
            show (k - 1) - (i : Int).toNat < k - (i : Int).toNat
            omega
        · have hnn : ¬ (i : Int) < (k : Int) := by omega
          have HGE : Hid (ks = G) := Lib.hid (by
            have := HGK.out
            rw [core_end (by have := HKL.out; omega)] at this
            exact this)
          have HB9 := Lib.hid (HB3.out.trans (HBK.out.mono HB3.out.size))
          go_wp2_with fail
          go_ret2
          rw [HR.out]
          refine ⟨HB9.out, Ak, k, ck, rfl, hkc, ?_⟩
          rw [Option.getD_some, ← HGE.out]
          exact HLK.out
  · have HR : Hid (coreR n L cs = some [cs.getD k 0]) := Lib.hid (by unfold coreR; rw [hfs])
    obtain ⟨b, o, hC, hbl, hcell⟩ := HC.out.2.2 (by omega)
    obtain ⟨y, hy⟩ : ∃ y, y = cs.getD k 0 := ⟨_, rfl⟩
    have ky : w2.cell? ⟨b, o + k, none⟩ = some (.int .i64 y) := by rw [hy]; exact (HB2.out.cell hbl).trans (hcell k hk)
    have HYO : Hid (Ok y) := Lib.hid (by rw [hy]; exact getD_ok HOK.out k)
    rw [← hy] at HR
    have k1 : (k : Int) < (lc : Int) := by omega
    subst hC
    clear hfs hcell hbl hy
    go_wp2_with fail
    go_ret2
    rw [HR.out]
    exact ⟨HB2.out.alloc HB2.out.size _, _, 1, 1, rfl, Nat.le_refl _, one_lit w2 y HYO.out⟩
theorem Core_any (sp cap n : Nat) (A : Option Addr) (L : List (List Int)) (C : Option Addr) (lc cc : Nat) (cs : List Int) (w : World) (h : SetAt w sp A cap n L) (hsh : ∀ r ∈ L, r.length ≤ 1048576) (hL : Pr.Cl n L) (hc : Lits w C lc cs) (hlc : lc ≤ 40) (hn : n ≤ 30) :
    Calls Try.prog 58 #[.pointer (some ⟨sp, 0, none⟩), .slice C lc cc] w fun e w' => Below w.heap.size w w' ∧ ∃ A' m c', e = .returned (.tuple #[.slice A' m c', .bool (coreR n L cs).isSome]) ∧ Lits w' A' m ((coreR n L cs).getD []) :=
  (Core_cap sp cap n A L C lc cc cs w h hsh hL hc hlc hn).mono fun e w' ⟨hb, A', m, c', he, _, hl⟩ => ⟨hb, A', m, c', he, hl⟩
end Go.Proofs.Ytghfelfljblkbaa
