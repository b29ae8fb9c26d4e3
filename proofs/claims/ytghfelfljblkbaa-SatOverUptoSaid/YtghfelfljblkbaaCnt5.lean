/- sat: Count. -/
import Derived.Test.YtghfelfljblkbaaCnt4
import Derived.Test.YtghfelfljblkbaaAt
namespace Go.Proofs.Ytghfelfljblkbaa
open Go.RowKit Go.Sort
set_option linter.unusedVariables false

theorem cs_nil (w W : World) (k : Nat) : ∃ A cap xs, (Value.slice none 0 0) = .slice A ([] : List (List Int)).length cap ∧ W.ownsRow w.heap.size 22 1 (Value.slice none 0 0) ([] : List (List Int)).length xs ∧ LIn W xs [] :=
  ⟨none, 0, [], rfl, World.ownsRow_nil _ _ _ _, LIn.nil W⟩
theorem cs_new1 (w W : World) (n : Nat) (mx : Int) (hW : Below w.heap.size w W) (a b c : Nat) (ha : a = W.heap.size) (hb : b = W.heap.size + 1) (hc : c = W.heap.size + 2) :
    CsAt w (((W.alloc (.cells (VX (n + 1) fun _ => .slice none 0 0) 28)).alloc (.cells (VB (n + 1) fun _ => false) 4)).alloc (.cells #[.slice (some ⟨a, 0, none⟩) (n + 1) (n + 1), .int .i64 mx, .int .i64 0, .slice (some ⟨b, 0, none⟩) (n + 1) (n + 1)] 107)) c a b n mx (fun _ => []) (fun _ => .slice none 0 0) := by
  subst ha hb hc
  have hs := hW.size
  have h1 := Blk.new W 28 (VX (n + 1) fun _ => .slice none 0 0)
  have h2 := Blk.new (W.alloc (.cells (VX (n + 1) fun _ => .slice none 0 0) 28)) 4 (VB (n + 1) fun _ => false)
  rw [World.size_alloc] at h2
  have h3 := Blk.new ((W.alloc (.cells (VX (n + 1) fun _ => .slice none 0 0) 28)).alloc (.cells (VB (n + 1) fun _ => false) 4)) 107 #[.slice (some ⟨W.heap.size, 0, none⟩) (n + 1) (n + 1), .int .i64 mx, .int .i64 0, .slice (some ⟨W.heap.size + 1, 0, none⟩) (n + 1) (n + 1)]
  rw [World.size_alloc, World.size_alloc] at h3
  exact ⟨h3, h2.alloc _, (h1.alloc _).alloc _, (fun k _ => cs_nil _ _ k), (fun k j _ _ _ i hi => by cases hi), ((hW.alloc hs _).alloc (by rw [World.size_alloc]; omega) _).alloc (by rw [World.size_alloc, World.size_alloc]; omega) _, by omega, by omega, by omega⟩
theorem cs_new2 (w W : World) (n : Nat) (mx : Int) (hW : Below w.heap.size w W) (a b c : Nat) (hb : b = W.heap.size) (ha : a = W.heap.size + 1) (hc : c = W.heap.size + 2) :
    CsAt w (((W.alloc (.cells (VB (n + 1) fun _ => false) 4)).alloc (.cells (VX (n + 1) fun _ => .slice none 0 0) 28)).alloc (.cells #[.slice (some ⟨a, 0, none⟩) (n + 1) (n + 1), .int .i64 mx, .int .i64 0, .slice (some ⟨b, 0, none⟩) (n + 1) (n + 1)] 107)) c a b n mx (fun _ => []) (fun _ => .slice none 0 0) := by
  subst ha hb hc
  have hs := hW.size
  have h1 := Blk.new W 4 (VB (n + 1) fun _ => false)
  have h2 := Blk.new (W.alloc (.cells (VB (n + 1) fun _ => false) 4)) 28 (VX (n + 1) fun _ => .slice none 0 0)
  rw [World.size_alloc] at h2
  have h3 := Blk.new ((W.alloc (.cells (VB (n + 1) fun _ => false) 4)).alloc (.cells (VX (n + 1) fun _ => .slice none 0 0) 28)) 107 #[.slice (some ⟨W.heap.size + 1, 0, none⟩) (n + 1) (n + 1), .int .i64 mx, .int .i64 0, .slice (some ⟨W.heap.size, 0, none⟩) (n + 1) (n + 1)]
  rw [World.size_alloc, World.size_alloc] at h3
  exact ⟨h3, (h1.alloc _).alloc _, h2.alloc _, (fun k _ => cs_nil _ _ k), (fun k j _ _ _ i hi => by cases hi), ((hW.alloc hs _).alloc (by rw [World.size_alloc]; omega) _).alloc (by rw [World.size_alloc, World.size_alloc]; omega) _, by omega, by omega, by omega⟩
set_option maxRecDepth 100000 in
set_option maxHeartbeats 4000000 in
theorem Count_gen (pv : Value) (n : Nat) (L : List (List Int)) (mx : Int) (hmx : Ok mx) (w : World) (hn : n ≤ 20) (hL : Pr.Cl n L) (hsh : ∀ r ∈ L, r.length ≤ 1048576) (hlen : L.length ≤ 5000) (hok : ∀ r ∈ L, ∀ z ∈ r, Ok z)
    (HV : ∀ W, Below w.heap.size w W → Calls Try.prog 35 #[pv] W fun e w' => e = .returned (.int .i64 (n : Int)) ∧ W = w')
    (HN : ∀ W, Below w.heap.size w W → Calls Try.prog 32 #[pv] W fun e w' => e = .returned (.int .i64 (L.length : Int)) ∧ W = w')
    (HA : ∀ W, Below w.heap.size w W → ∀ i, i < L.length → Calls Try.prog 38 #[pv, .int .i64 (i : Int)] W fun e w' => ∃ v, e = .returned v ∧ OwnL w' W.heap.size v (L.getD i []) ∧ Below W.heap.size W w') :
    Calls Try.prog 61 #[pv, .int .i64 mx] w fun e w' => e = .returned (.int .i64 (if 1 ≤ mx then min mx ((Ct.cnt (fun k => holdsL (vec n k) L) 0 (2 ^ n) : Nat) : Int) else 0)) ∧ Below w.heap.size w w' := by
  obtain ⟨i0, hi0, hz0, hz1, hz2⟩ := info_parts slice_row
  have HVV := Lib.hid HV
  have HNN := Lib.hid HN
  have HAA := Lib.hid HA
  have HCL := Lib.hid hL
  have HSH := Lib.hid hsh
  have HOK := Lib.hid hok
  have hmr := make_rows n (by omega)
  have hmb := make_bools1 n (by omega)
  obtain ⟨RES, hRES⟩ : ∃ RES : Int, RES = (if 1 ≤ mx then min mx ((Ct.cnt (fun k => holdsL (vec n k) L) 0 (2 ^ n) : Nat) : Int) else 0) := ⟨_, rfl⟩
  rw [← hRES]
  have HRES := Lib.hid hRES
  have hb0 : Below w.heap.size w w := Below.refl _ _
  have hb1 : Below w.heap.size w w.drew := ⟨rfl, rfl, rfl, Nat.le_refl _, fun _ _ => rfl⟩
  have hb2 : Below w.heap.size w (w.alloc (.cells (VX (n + 1) fun _ => .slice none 0 0) 28)).drew := ((Below.refl _ _).alloc (Nat.le_refl _) _).trans ⟨rfl, rfl, rfl, Nat.le_refl _, fun _ _ => rfl⟩
  have hb3 : Below w.heap.size w (w.alloc (.cells (VB (n + 1) fun _ => false) 4)).drew := ((Below.refl _ _).alloc (Nat.le_refl _) _).trans ⟨rfl, rfl, rfl, Nat.le_refl _, fun _ _ => rfl⟩
  have hn20 : ¬ (20 : Int) < (n : Int) := by omega
  have hnw : IntKind.i64.wrap ((n : Int) + 1) = (n : Int) + 1 := by rw [IntKind.wrap_i64]; omega
  have hn20' : decide ((20 : Int) < (n : Int)) = false := decide_eq_false hn20
  obtain ⟨mx1, mx2⟩ := hmx
  clear HV HN HA hL hsh hok hRES
  by_cases hm : mx < 1
  · have HZ : Hid (RES = 0) := Lib.hid (by rw [HRES.out, if_neg (by omega)])
    go_enter Try.func61, Try.ntmps61
    go_wp2_with (go_at_call 35; refine (HVV.out _ hb0).mono ?_; rintro e w1 ⟨rfl, rfl⟩)
    go_ret
    exact ⟨by rw [HZ.out]; rfl, hb0⟩
  · have hm' : decide (mx < 1) = false := decide_eq_false hm
    go_enter Try.func61, Try.ntmps61
    go_upto_region 3 with (go_at_call 35; refine (HVV.out _ hb0).mono ?_; rintro e w1 ⟨rfl, rfl⟩)
    go_cut [5] (fun v wx => ∃ x gd gv, v = .pointer (some ⟨x, 0, none⟩) ∧ Hid (CsAt w wx x gd gv n mx (fun _ => []) (fun _ => .slice none 0 0)))
    case first =>
      go_region_with (go_at_call 35; refine (HVV.out _ (by assumption)).mono ?_; rintro e wb ⟨rfl, rfl⟩)
      all_goals
        go_wp2_with fail
        go_meet
        first
          | exact ⟨_, _, _, rfl, Lib.hid ((cs_new1 w w n mx hb0 _ _ _ rfl rfl rfl).below ⟨rfl, rfl, rfl, Nat.le_refl _, fun _ _ => rfl⟩)⟩
          | exact ⟨_, _, _, rfl, Lib.hid ((cs_new2 w w n mx hb0 _ _ _ rfl rfl rfl).below ⟨rfl, rfl, rfl, Nat.le_refl _, fun _ _ => rfl⟩)⟩
    case rest =>
      obtain ⟨x, gd, gv, rfl, HCS⟩ := hcut
      have HLE := Lib.hid (HNN.out wc HCS.out.bel)
      obtain ⟨ll, hll⟩ : ∃ ll, ll = L.length := ⟨_, rfl⟩
      rw [← hll] at HLE hlen
      have HLL := Lib.hid hll
      have HCS0 : Hid (∃ F, CsAt w wc x gd gv n mx (Ct.doneL (L.take 0)) F) := Lib.hid ⟨_, HCS.out⟩
      clear hmr hmb hb0 hb1 hb2 hb3 hnw hll
      go_wp2_with fail
      go_at_call 32
      refine HLE.out.mono ?_
      rintro e wd ⟨rfl, rfl⟩
      go_wp2_with fail
      go_loopw [31] (fun t wr => ∃ (i : Nat), t = .int .i64 (i : Int) ∧ i ≤ ll ∧ Hid (∃ F, CsAt w wr x gd gv n mx (Ct.doneL (L.take i)) F)) (fun t _ => ll - (match t with | .int _ x => x.toNat | _ => 0))
      case atStart => exact ⟨0, rfl, Nat.zero_le _, HCS0⟩
      case round =>
        obtain ⟨i, rfl, hi, HCX⟩ := hrel
        clear HCS0 HCS
        obtain ⟨F, hcs⟩ := HCX.out
        have HCS := Lib.hid hcs
        clear hcs
        by_cases hlt : i < ll
        · have i1 : (i : Int) < (ll : Int) := by omega
          have hil : i < L.length := by have := HLL.out; omega
          have HAT := Lib.hid (HAA.out wr HCS.out.bel i hil)
          obtain ⟨r, hr⟩ : ∃ r, r = L.getD i [] := ⟨_, rfl⟩
          rw [← hr] at HAT
          have hrm : r ∈ L := by
            rw [hr, List.getD_eq_getElem?_getD, List.getElem?_eq_getElem hil]
            exact List.getElem_mem hil
          have HTK : Hid (L.take (i + 1) = L.take i ++ [r]) := Lib.hid (by rw [List.take_add_one, hr, List.getD_eq_getElem?_getD, List.getElem?_eq_getElem hil]; rfl)
          have HRV : Hid (∀ y ∈ r, 1 ≤ Cf.va y ∧ Cf.va y ≤ n) := Lib.hid (HCL.out r hrm)
          have HRO : Hid (∀ y ∈ r, Ok y) := Lib.hid (HOK.out r hrm)
          have hrl : r.length ≤ 1048576 := HSH.out r hrm
          obtain ⟨q, hq⟩ : ∃ q, q = r.length := ⟨_, rfl⟩
          rw [← hq] at hrl
          have HQ := Lib.hid hq
          clear hr hrm hil hq
          go_wp2_with fail
          go_at_call 38
          refine HAT.out.mono ?_
          rintro e w1 ⟨v1, rfl, ho1, hb1⟩
          obtain ⟨Ar, cr, rfl, hlr, _, _, hir⟩ := ho1.lits2 HRO.out
          rw [← HQ.out] at hlr ⊢
          have HLR := Lib.hid hlr
          have HIR := Lib.hid hir
          have HC1 := Lib.hid (HCS.out.below hb1)
          clear ho1 hlr hir hb1 HAT HCS HCX
          go_wp2_with fail
          go_loopw [8, 39] (fun m t wx => ∃ (j la : Nat), m = .int .i64 (la : Int) ∧ t = .int .i64 (j : Int) ∧ j ≤ q ∧ la ≤ n ∧ Hid (la = Ct.lastV (r.take j)) ∧ wx = w1) (fun _ t _ => q - (match t with | .int _ x => x.toNat | _ => 0))
          case atStart => exact ⟨0, 0, rfl, rfl, Nat.zero_le _, Nat.zero_le _, Lib.hid rfl, rfl⟩
          case round =>
            obtain ⟨j, la, rfl, rfl, hj, hla, HLA, rfl⟩ := hrel
            by_cases hjq : j < q
            · obtain ⟨b, o, hA, hbl, hcell⟩ := HLR.out.2.2 (by omega)
              obtain ⟨y, hy⟩ : ∃ y, y = r.getD j 0 := ⟨_, rfl⟩
              have ky := hcell j hjq
              rw [← hy] at ky
              have hym : y ∈ r := by
                rw [hy, List.getD_eq_getElem?_getD, List.getElem?_eq_getElem (by have := HQ.out; omega)]
                exact List.getElem_mem _
              have hyv := HRV.out y hym
              obtain ⟨u, hu⟩ : ∃ u, u = Cf.va y := ⟨_, rfl⟩
              have hmx : max y (-y) = (u : Int) := by rw [hu]; unfold Cf.va; omega
              have y1 : -200 ≤ y := by unfold Cf.va at hyv; omega
              have y2 : y ≤ 200 := by unfold Cf.va at hyv; omega
              have hmm : max (la : Int) (u : Int) = ((max la u : Nat) : Int) := by omega
              have HL2 : Hid (max la u = Ct.lastV (r.take (j + 1))) := Lib.hid (by
                rw [take_one (by have := HQ.out; omega), HLA.out, hu, hy]
                unfold Ct.lastV
                rw [List.foldl_append]; rfl)
              have hmn : max la u ≤ n := by omega
              have j1 : (j : Int) < (q : Int) := by omega
              subst hA
              clear hcell hbl hy hym hyv hu
              go_wp2_with fail
              refine ⟨⟨j + 1, max la u, by first | rfl | go_num, by go_num, by omega, hmn, HL2, by first | rfl | trivial⟩, ?_⟩
              show q - ((j : Int) + 1).toNat < q - (j : Int).toNat
              omega
            · have hjn : ¬ (j : Int) < (q : Int) := by omega
              have HLAQ : Hid (Ct.lastV r = la) := Lib.hid (by rw [HLA.out, List.take_of_length_le (by have := HQ.out; omega)])
              obtain ⟨A0, c0, xs, eF, ho0, hi0⟩ := HC1.out.row la hla
              obtain ⟨l, hl⟩ : ∃ l, l = (Ct.doneL (L.take i) la).length := ⟨_, rfl⟩
              rw [← hl] at eF ho0
              rw [eF] at ho0
              have hl5 : l ≤ 5000 := by
                have h1 : l ≤ (L.take i).length := by rw [hl]; exact List.length_filter_le _ _
                rw [List.length_take] at h1
                have := HLL.out
                omega
              have HO0 := Lib.hid ho0
              have HI0 := Lib.hid hi0
              have HL0 := Lib.hid hl
              have HEF := Lib.hid eF
              have hbs := HC1.out.bel.size
              have kx0 : wr.cell? ⟨x, 0, none⟩ = some (.slice (some ⟨gd, 0, none⟩) (n + 1) (n + 1)) := HC1.out.blk.cell 0
              have kd0 : wr.cell? ⟨gd, la, none⟩ = some (.slice A0 l c0) := by rw [← eF]; exact (HC1.out.dn.cell la).trans (VX.get (by omega))
              have kx0' : ∀ o, (wr.drew.alloc o).cell? ⟨x, 0, none⟩ = some (.slice (some ⟨gd, 0, none⟩) (n + 1) (n + 1)) := fun o => (HC1.out.blk.drew.alloc o).cell 0
              have kd0' : ∀ o, (wr.drew.alloc o).cell? ⟨gd, la, none⟩ = some (.slice A0 l c0) := fun o => by rw [← eF]; exact ((HC1.out.dn.drew.alloc o).cell la).trans (VX.get (by omega))
              have kx0a : ∀ o, (wr.alloc o).cell? ⟨x, 0, none⟩ = some (.slice (some ⟨gd, 0, none⟩) (n + 1) (n + 1)) := fun o => (HC1.out.blk.alloc o).cell 0
              have kd0a : ∀ o, (wr.alloc o).cell? ⟨gd, la, none⟩ = some (.slice A0 l c0) := fun o => by rw [← eF]; exact ((HC1.out.dn.alloc o).cell la).trans (VX.get (by omega))
              have hla1 : (la : Int) < (n : Int) + 1 := by omega
              have hla0 : (0 : Int) ≤ (la : Int) := by omega
              clear ho0 hi0 hl eF hjn hj
              go_wp2_with fail
              go_region_law ((refine step_append_any _ (by rfl) (.tmp 61) (.tmp 63) 28 (by rfl) w.heap.size 22 i0 (.slice none 0 0) 1 24 Try.underlying28 hi0 hz0 hz1 hz2 rfl (by decide) (.slice A0 l c0) l xs (by simp [Act.eval]) ((HO0.out.drew).alloc _) (wr.heap.size + 1) (some ⟨wr.heap.size, 0, none⟩) 1 1 [.slice Ar q cr] (by simp [Act.eval]) (reads_one (Blk.new wr.drew _ _) (by simp)) (slice_one _ _ _ _ rfl) (by unfold maxLen; omega) (by omega) (Nat.le_trans hbs (by simp)) ?_; intro v5 w5 hown5 hg5 hat5; have HOW5 := Lib.hid hown5; have HU5 : Hid (Upd (fun k => (Value.slice A0 l c0).ownBlock = some k) wr w5) := Lib.hid (((Upd.refl _ wr).drew.alloc _).grown hg5 (fun j hj => .inl hj)); have HB5 : Hid (Blk w5 x 107 #[.slice (some ⟨gd, 0, none⟩) (n + 1) (n + 1), .int .i64 mx, .int .i64 0, .slice (some ⟨gv, 0, none⟩) (n + 1) (n + 1)]) := Lib.hid (HC1.out.blk.upd HU5.out (own_blk_ne HO0.out HC1.out.blk (by decide))); have HD5 : Hid (Blk w5 gd 28 (VX (n + 1) F)) := Lib.hid (HC1.out.dn.upd HU5.out (own_blk_ne HO0.out HC1.out.dn (by decide))); have f5 : w5.frozen? ⟨gd, la, none⟩ = false := HD5.out.frozen la; have k5 : w5.cell? ⟨x, 0, none⟩ = some (.slice (some ⟨gd, 0, none⟩) (n + 1) (n + 1)) := HB5.out.cell 0; have kd5 : w5.cell? ⟨gd, la, none⟩ = some (.slice A0 l c0) := ((HD5.out.cell la).trans (VX.get (by omega))).trans (congrArg some HEF.out); have HO5 : Hid (∀ j, v5.ownBlock = some j → (Value.slice A0 l c0).ownBlock = some j ∨ wr.heap.size ≤ j) := Lib.hid (fun j hj => by (rcases hat5 with h | h; (· rw [hj] at h; exact .inl h.symm); (· rw [hj] at h; injection h with h; rw [h]; right; simp))); obtain ⟨A5, c5, rfl⟩ := ownL_shape hown5; clear hown5 hg5 hat5))
              all_goals
                have happ := HC1.out.app (r := r) (Ar := Ar) (cr := cr) (v5 := .slice A5 (l + 1) c5) (xs := xs) hla HI0.out (by rw [← HQ.out]; exact HLR.out) (fun g o e => (HIR.out g o e).2) (by rw [HEF.out]; exact HU5.out) (by rw [← HL0.out, ← HQ.out]; exact HOW5.out) (fun j hj => by rw [HEF.out]; exact HO5.out j hj)
                have HD : Hid ((fun k => if k = la then Ct.doneL (L.take i) la ++ [r] else Ct.doneL (L.take i) k) = Ct.doneL (L.take (i + 1))) := Lib.hid (by
                  funext k
                  rw [HTK.out]
                  unfold Ct.doneL
                  rw [List.filter_append, List.filter_cons, HLAQ.out, List.filter_nil]
                  by_cases e : k = la
                  · subst e; simp
                  · have e2 : (la == k) = false := by rw [beq_eq_false_iff_ne]; exact fun h => e h.symm
                    rw [if_neg e, e2]; simp)
                rw [HD.out] at happ
                have HAP := Lib.hid happ
                clear happ
                go_wp2_with fail
                refine ⟨⟨i + 1, by go_num, by omega, Lib.hid ⟨_, by first | exact HAP.out | exact HAP.out.below ⟨rfl, rfl, rfl, Nat.le_refl _, fun _ _ => rfl⟩⟩⟩, ?_⟩
                show ll - ((i : Int) + 1).toNat < ll - (i : Int).toNat
                omega
        · have hnn : ¬ (i : Int) < (ll : Int) := by omega
          have hct : CtAt wr x gd gv n mx 0 (fun _ => false) (fun i => i < wr.heap.size ∧ i ≠ x ∧ i ≠ gv) L := by
            have := HCS.out
            rw [List.take_of_length_le (by have := HLL.out; omega)] at this
            exact this.ct
          have HFR := Lib.hid (from_any x gd gv n mx _ L (by omega) HCL.out HSH.out (by have := HLL.out; omega) mx2 n 0 0 0 (fun _ => false) wr (by omega) (Ct.agree_one _) hct (by omega) (by omega))
          have HBR := Lib.hid HCS.out.bel
          have HLO := Lib.hid HCS.out.lo
          clear hct HCS HCX
          have HFR1 : Hid (Calls Try.prog 94 #[.pointer (some ⟨x, 0, none⟩), .int .i64 1] wr fun e w' => e = .returned (.tuple #[]) ∧ FromRes wr w' x gd gv n mx 0 (fun _ => false) (fun i => i < wr.heap.size ∧ i ≠ x ∧ i ≠ gv) L 1 (Ct.NV n L 1 0 n)) := HFR
          clear HFR
          go_wp2_with fail
          go_at_call 94
          refine HFR1.out.mono ?_
          rintro e w5 ⟨rfl, hu5, f5, hc5, _⟩
          have k2 : w5.cell? ⟨x, 2, none⟩ = some (.int .i64 (min mx (0 + ((Ct.NV n L 1 0 n : Nat) : Int)))) := hc5.blk.cell 2
          have HE : Hid (min mx (0 + ((Ct.NV n L 1 0 n : Nat) : Int)) = RES) := Lib.hid (by rw [HRES.out, if_pos (by omega), ← Ct.nv_all, Int.zero_add])
          rw [HE.out] at k2
          have HB5 : Hid (Below w.heap.size w w5) := Lib.hid (HBR.out.trans (hu5.below (fun i hi => by
            rcases hi with rfl | rfl
            · exact HLO.out.1
            · exact HLO.out.2.2) HBR.out.size))
          clear hu5 hc5 HFR1 HE
          go_wp2_with fail
          go_ret
          exact ⟨rfl, HB5.out⟩
theorem Count_any (p cap n : Nat) (A : Option Addr) (L : List (List Int)) (mx : Int) (hmx : Ok mx) (w : World) (h : SetAt w p A cap n L) (hsh : ∀ r ∈ L, r.length ≤ 1048576) (hL : Pr.Cl n L) (hn : n ≤ 20) :
    Calls Try.prog 61 #[.pointer (some ⟨p, 0, none⟩), .int .i64 mx] w fun e w' => e = .returned (.int .i64 (if 1 ≤ mx then min mx ((Ct.cnt (fun k => holdsL (vec n k) L) 0 (2 ^ n) : Nat) : Int) else 0)) ∧ Below w.heap.size w w' :=
  Count_gen _ n L mx hmx w hn hL hsh h.len (cl_ok hL (by omega)) (fun W hW => Vars_any p cap n A L W (h.below hW)) (fun W hW => Len_any p cap n A L W (h.below hW)) (fun W hW i hi => by
    have := At_any p cap n A L (i : Int) W (h.below hW) hsh
    rw [if_pos (by omega), Int.toNat_natCast] at this
    exact this)
end Go.Proofs.Ytghfelfljblkbaa
