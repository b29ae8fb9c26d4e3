/- sat: counter.from. -/
import Derived.Test.YtghfelfljblkbaaCnt2
import Derived.Test.YtghfelfljblkbaaAtM
namespace Go.Proofs.Ytghfelfljblkbaa
open Go.RowKit Go.Sort
set_option linter.unusedVariables false

/-- What a call of from leaves. -/
def FromRes (w w' : World) (x gd gv n : Nat) (mx c : Int) (f : Nat → Bool) (K : Nat → Prop) (L : List (List Int)) (v : Nat) (m : Nat) : Prop :=
  Upd (fun i => i = x ∨ i = gv) w w' ∧ ∃ f', CtAt w' x gd gv n mx (min mx (c + (m : Int))) f' K L ∧ ∀ j, j < v → f' j = f j
theorem two_at0 (W : World) : (Instr.index 115 (.agg #[.bool false, .bool true]) (.int .i64 0)).run Try.prog W = .ok (.bool false) W := by kernel_rfl
theorem two_at1 (W : World) : (Instr.index 115 (.agg #[.bool false, .bool true]) (.int .i64 1)).run Try.prog W = .ok (.bool true) W := by kernel_rfl
/-- What is said of from, d variables ahead of the end. -/
def FromSaid (x gd gv n : Nat) (mx : Int) (K : Nat → Prop) (L : List (List Int)) (d : Nat) : Prop :=
  ∀ (u base : Nat) (c : Int) (f : Nat → Bool) (w : World), u + d = n → Ct.Agree (u + 1) base f → CtAt w x gd gv n mx c f K L → 0 ≤ c → c < mx →
    Calls Try.prog 94 #[.pointer (some ⟨x, 0, none⟩), .int .i64 ((u : Int) + 1)] w fun e w' => e = .returned (.tuple #[]) ∧ FromRes w w' x gd gv n mx c f K L (u + 1) (Ct.NV n L (u + 1) base d)
set_option maxRecDepth 100000 in
set_option maxHeartbeats 4000000 in
theorem from_step (x gd gv n : Nat) (mx : Int) (K : Nat → Prop) (L : List (List Int)) (hn : n ≤ 200) (hL : Pr.Cl n L) (hsh : ∀ r ∈ L, r.length ≤ 1048576) (hlen : L.length ≤ 5000) (hmx : mx ≤ 9223372036854775807) (d : Nat) (ih : ∀ d0, d = d0 + 1 → FromSaid x gd gv n mx K L d0) : FromSaid x gd gv n mx K L d := by
  intro u base c f w hu ha h hc0 hcm
  have HIH := Lib.hid ih
  have k0 : w.cell? ⟨x, 0, none⟩ = some (.slice (some ⟨gd, 0, none⟩) (n + 1) (n + 1)) := h.blk.cell 0
  obtain ⟨Ad, cd, kd, hcls⟩ := h.done u (by omega)
  obtain ⟨l, hl⟩ : ∃ l, l = (Ct.doneL L u).length := ⟨_, rfl⟩
  rw [← hl] at kd
  have HLE := Lib.hid hl
  have HCLS := Lib.hid hcls
  have HA := Lib.hid ha
  have HCT := Lib.hid h
  have HCL := Lib.hid hL
  have HSH := Lib.hid hsh
  have hl5 : l ≤ 5000 := by rw [hl]; exact Nat.le_trans (List.length_filter_le _ _) hlen
  have hu1 : (u : Int) < (n : Int) + 1 := by omega
  have hu0 : (0 : Int) ≤ (u : Int) := by omega
  clear ih h ha hcls hl hL hsh
  go_enter Try.func94, Try.ntmps94
  go_wp2_with fail
  go_loopw [17] (fun t wr => ∃ (j : Nat), t = .int .i64 (j : Int) ∧ j ≤ l ∧ Hid (∀ i (hi : i < (Ct.doneL L u).length), i < j → Ct.holdF f (Ct.doneL L u)[i] = true) ∧ Hid (Below w.heap.size w wr)) (fun t _ => l - (match t with | .int _ x => x.toNat | _ => 0))
  case atStart => exact ⟨0, rfl, Nat.zero_le _, Lib.hid (fun i _ hi => by omega), Lib.hid (Below.refl _ _)⟩
  case round =>
    obtain ⟨j, rfl, hj, HJ, HB⟩ := hrel
    by_cases hlt : j < l
    · have hjl : j < (Ct.doneL L u).length := by have := HLE.out; omega
      obtain ⟨b, hAd, hbK, hcell⟩ := HCLS.out.2 (by omega)
      obtain ⟨Aj, cj, kj, hlj, _⟩ := hcell j hjl
      obtain ⟨r, hr⟩ : ∃ r, r = (Ct.doneL L u)[j] := ⟨_, rfl⟩
      rw [← hr] at kj hlj
      have hrm : r ∈ Ct.doneL L u := by rw [hr]; exact List.getElem_mem _
      have hrL : r ∈ L := (List.mem_filter.1 hrm).1
      obtain ⟨m, hm⟩ : ∃ m, m = r.length := ⟨_, rfl⟩
      rw [← hm] at kj hlj
      have kj' : wr.cell? ⟨b, j, none⟩ = some (.slice Aj m cj) := (HB.out.cell (HCLS.out.1 b hbK)).trans kj
      have hch := cholds_any x gd gv n mx c f K L Aj m cj r wr (HCT.out.below HB.out) (hlj.below HB.out) hn (HCL.out r hrL) (by rw [hm]; exact HSH.out r hrL)
      have HNO : Hid (Ct.holdF f r = false → Ct.NV n L (u + 1) base d = 0) := Lib.hid (fun h9 => Ct.nv_none (f := f) hn HCL.out (by omega) (by omega) HA.out (by rw [Nat.add_sub_cancel]; exact hrm) h9)
      have HYES : Hid (Ct.holdF f r = true → ∀ i (hi : i < (Ct.doneL L u).length), i < j + 1 → Ct.holdF f (Ct.doneL L u)[i] = true) := Lib.hid (fun h9 i hi hij => by
        rcases Nat.lt_or_ge i j with h | h
        · exact HJ.out i hi h
        · have e : i = j := by omega
          subst e
          rw [← hr]; exact h9)
      obtain ⟨hb, hhb⟩ : ∃ hb, hb = Ct.holdF f r := ⟨_, rfl⟩
      rw [← hhb] at hch HNO HYES
      have HCH := Lib.hid hch
      have j1 : (j : Int) < (l : Int) := by omega
      subst hAd
      clear hcell hlj hr hrm hrL hm hch hhb kj hbK hjl
      cases hb with
      | false =>
        have HN := Lib.hid (HNO.out rfl)
        clear HNO HYES
        go_wp2_with (go_at_call 105; refine HCH.out.mono ?_; rintro e w2 ⟨rfl, hb2⟩)
        refine bodyPost_ret (v := .tuple #[]) (by simp [results, Try.results94, go_sem]) rfl ?_
        have hb9 := HB.out.trans (hb2.mono HB.out.size)
        refine ⟨rfl, Upd.of_quiet hb9, f, ?_, fun j _ => rfl⟩
        rw [HN.out, show min mx (c + ((0 : Nat) : Int)) = c by omega]
        exact HCT.out.below hb9
      | true =>
        have HJ2 := Lib.hid (HYES.out rfl)
        clear HNO HYES
        go_wp2_with (go_at_call 105; refine HCH.out.mono ?_; rintro e w2 ⟨rfl, hb2⟩)
        refine ⟨⟨j + 1, by go_num, by omega, HJ2, Lib.hid (HB.out.trans (hb2.mono HB.out.size))⟩, ?_⟩
        show l - ((j : Int) + 1).toNat < l - (j : Int).toNat
        omega
    · have hnn : ¬ (j : Int) < (l : Int) := by omega
      have HALL : Hid (∀ r ∈ Ct.doneL L u, Ct.holdF f r = true) := Lib.hid (fun r hr => by
        obtain ⟨i, hi, rfl⟩ := List.mem_iff_getElem.1 hr
        exact HJ.out i hi (by have := HLE.out; omega))
      have HC1 := Lib.hid (HCT.out.below HB.out)
      cases d with
      | zero =>
        obtain rfl : n = u := by omega
        have HN : Hid (Ct.NV n L (n + 1) base 0 = 1) := Lib.hid (Ct.nv_end hn HCL.out HA.out HALL.out)
        have k2 : wr.cell? ⟨x, 2, none⟩ = some (.int .i64 c) := HC1.out.blk.cell 2
        have f2 : wr.frozen? ⟨x, 2, none⟩ = false := HC1.out.blk.frozen 2
        have k3 : wr.cell? ⟨x, 3, none⟩ = some (.slice (some ⟨gv, 0, none⟩) (n + 1) (n + 1)) := HC1.out.blk.cell 3
        have HCN := Lib.hid (HC1.out.setn (c' := c + 1))
        have hun : ((n : Int) + 1 == (n : Int) + 1) = true := beq_self_eq_true _
        clear HJ HALL HCLS HLE kd k0 hj hl5 HIH HC1
        go_wp2_with fail
        refine bodyPost_ret (v := .tuple #[]) (by simp [results, Try.results94, go_sem]) rfl ?_
        refine ⟨rfl, (Upd.of_quiet HB.out).setCell (p := ⟨x, 2, none⟩) (.inl (.inl rfl)) _, f, ?_, fun j _ => rfl⟩
        rw [HN.out, show min mx (c + ((1 : Nat) : Int)) = c + 1 by omega]
        exact HCN.out
      | succ d =>
        have HN : Hid (Ct.NV n L (u + 1) base (d + 1) = Ct.NV n L (u + 2) (2 * base) d + Ct.NV n L (u + 2) (2 * base + 1) d) := Lib.hid (Ct.nv_more hn HCL.out (by omega) (by omega) HA.out (by rw [Nat.add_sub_cancel]; exact HALL.out))
        have k3 : wr.cell? ⟨x, 3, none⟩ = some (.slice (some ⟨gv, 0, none⟩) (n + 1) (n + 1)) := HC1.out.blk.cell 3
        have hun : ((u : Int) + 1 == (n : Int) + 1) = false := by rw [beq_eq_false_iff_ne]; omega
        obtain ⟨N0, hN0⟩ : ∃ N0, N0 = Ct.NV n L (u + 2) (2 * base) d := ⟨_, rfl⟩
        obtain ⟨N1, hN1⟩ : ∃ N1, N1 = Ct.NV n L (u + 2) (2 * base + 1) d := ⟨_, rfl⟩
        rw [← hN0, ← hN1] at HN
        have HNX : Hid (∀ (b : Bool) (ci : Int) (g : Nat → Bool) (W : World), (∀ j, j < u + 1 → g j = f j) → CtAt W x gd gv n mx ci (fun j => if j = u + 1 then b else g j) K L → 0 ≤ ci → ci < mx → Calls Try.prog 94 #[.pointer (some ⟨x, 0, none⟩), .int .i64 ((u : Int) + 1 + 1)] W fun e w' => e = .returned (.tuple #[]) ∧ FromRes W w' x gd gv n mx ci (fun j => if j = u + 1 then b else g j) K L (u + 2) (if b then N1 else N0)) := Lib.hid (fun b ci g W hg hc h0 hm => by
          have e1 : ((u : Int) + 1 + 1) = (((u + 1 : Nat) : Int) + 1) := by omega
          have e2 : (if b then N1 else N0) = Ct.NV n L (u + 1 + 1) (2 * base + b.toNat) d := by cases b <;> simp [hN0, hN1]
          rw [e1, e2]
          exact HIH.out d rfl (u + 1) (2 * base + b.toNat) ci _ W (by omega) (Ct.agree_next b (by omega) (Ct.agree_congr HA.out (fun j _ hj => hg j hj))) hc h0 hm)
        clear HJ HALL HCLS HLE hN0 hN1 kd k0 hj hl5 HIH
        go_wp2_with fail
        go_loopw [41] (fun t wx => ∃ (i : Nat) (ci : Int) (g : Nat → Bool), t = .int .i64 (i : Int) ∧ i ≤ 2 ∧ Hid (ci = (if i = 0 then c else if i = 1 then min mx (c + (N0 : Int)) else min mx (c + (N0 : Int) + (N1 : Int)))) ∧ Hid (CtAt wx x gd gv n mx ci g K L) ∧ Hid (∀ j, j < u + 1 → g j = f j) ∧ Hid (Upd (fun i => i = x ∨ i = gv) w wx)) (fun t _ => 2 - (match t with | .int _ x => x.toNat | _ => 0))
        case atStart => exact ⟨0, c, f, rfl, by omega, Lib.hid rfl, HC1, Lib.hid (fun j _ => rfl), Lib.hid (Upd.of_quiet HB.out)⟩
        case round =>
          obtain ⟨i, ci, g, rfl, hi, HCI, HC, HG, HU⟩ := hrel
          clear HC1 k3 hnn hun
          have k1 : wr.cell? ⟨x, 1, none⟩ = some (.int .i64 mx) := HC.out.blk.cell 1
          have k2 : wr.cell? ⟨x, 2, none⟩ = some (.int .i64 ci) := HC.out.blk.cell 2
          have k3 : wr.cell? ⟨x, 3, none⟩ = some (.slice (some ⟨gv, 0, none⟩) (n + 1) (n + 1)) := HC.out.blk.cell 3
          have fv : wr.frozen? ⟨gv, u + 1, none⟩ = false := HC.out.val.frozen (u + 1)
          obtain ⟨vv, kv⟩ : ∃ vv, wr.cell? ⟨gv, u + 1, none⟩ = some vv := ⟨_, (HC.out.val.cell (u + 1)).trans (VB.get (by omega))⟩
          have hu2 : (u : Int) + 1 < (n : Int) + 1 := by omega
          have hu3 : (0 : Int) ≤ (u : Int) + 1 := by omega
          have ht0 := two_at0
          have ht1 := two_at1
          have HCN : Hid (∀ q b, CtAt ((wr.drewN q).setCell ⟨gv, u + 1, none⟩ (.bool b)) x gd gv n mx ci (fun j => if j = u + 1 then b else g j) K L) := Lib.hid (fun q b => (HC.out.below (w' := wr.drewN q) ⟨rfl, rfl, rfl, Nat.le_refl _, fun _ _ => rfl⟩).setv b)
          have HUN : Hid (∀ q b, Upd (fun i => i = x ∨ i = gv) w ((wr.drewN q).setCell ⟨gv, u + 1, none⟩ (.bool b))) := Lib.hid (fun q b => (HU.out.comp (T' := fun i => i = x ∨ i = gv) (Upd.of_quiet (w := wr) (w1 := wr.drewN q) ⟨rfl, rfl, rfl, Nat.le_refl _, fun _ _ => rfl⟩) (fun k hk => .inl hk)).setCell (p := ⟨gv, u + 1, none⟩) (.inl (.inr rfl)) _)
          rcases (show i = 0 ∨ i = 1 ∨ i = 2 by omega) with rfl | rfl | rfl
          · have hce : ci = c := HCI.out
            have hlt : ci < mx := by omega
            have hci0 : 0 ≤ ci := by omega
            have HST := Lib.hid (fun q => HNX.out false ci g _ HG.out (HCN.out q false) hci0 hlt)
            have HCE := Lib.hid hce
            clear hce
            go_wp2_with fail
            go_quiet (fail)
            go_wp2_with (go_at_call 94; refine (HST.out _).mono ?_; rintro e w5 ⟨rfl, hu5, g5, hc5, hg5⟩)
            refine ⟨⟨1, _, g5, by go_num, by omega, Lib.hid (by rw [HCE.out]; rfl), Lib.hid hc5, Lib.hid (fun j hj => ?_), Lib.hid ((HUN.out _ _).comp hu5 (fun k hk => .inl hk))⟩, ?_⟩
            · rw [hg5 j (by omega), if_neg (by omega)]; exact HG.out j hj
            · first | decide | omega
          · have hce : ci = min mx (c + (N0 : Int)) := HCI.out
            by_cases hlt : ci < mx
            · have hci0 : 0 ≤ ci := by omega
              have HST := Lib.hid (fun q => HNX.out true ci g _ HG.out (HCN.out q true) hci0 hlt)
              have HCE : Hid (min mx (ci + (N1 : Int)) = min mx (c + (N0 : Int) + (N1 : Int))) := Lib.hid (by omega)
              clear hce
              go_wp2_with fail
              go_quiet (fail)
              go_wp2_with (go_at_call 94; refine (HST.out _).mono ?_; rintro e w5 ⟨rfl, hu5, g5, hc5, hg5⟩)
              refine ⟨⟨2, _, g5, by go_num, by omega, Lib.hid HCE.out, Lib.hid hc5, Lib.hid (fun j hj => ?_), Lib.hid ((HUN.out _ _).comp hu5 (fun k hk => .inl hk))⟩, ?_⟩
              · rw [hg5 j (by omega), if_neg (by omega)]; exact HG.out j hj
              · first | decide | omega
            · have HCE : Hid (ci = min mx (c + (N0 : Int) + (N1 : Int))) := Lib.hid (by omega)
              have hnlt : decide (ci < mx) = false := decide_eq_false hlt
              clear hce
              go_wp2_with fail
              go_quiet (fail)
              go_wp2_with fail
              refine ⟨⟨2, ci, g, by go_num, by omega, HCE, Lib.hid (HC.out.below ⟨rfl, rfl, rfl, Nat.le_refl _, fun _ _ => rfl⟩), HG, Lib.hid (HU.out.comp (T' := fun i => i = x ∨ i = gv) (Upd.of_quiet ⟨rfl, rfl, rfl, Nat.le_refl _, fun _ _ => rfl⟩) (fun k hk => .inl hk))⟩, ?_⟩
              first | decide | omega
          · have HCE : Hid (ci = min mx (c + (N0 : Int) + (N1 : Int))) := Lib.hid HCI.out
            go_wp2_with fail
            go_end0
            refine ⟨rfl, HU.out, g, ?_, HG.out⟩
            rw [HN.out, show min mx (c + ((N0 + N1 : Nat) : Int)) = ci by rw [HCE.out]; omega]
            exact HC.out
theorem from_any (x gd gv n : Nat) (mx : Int) (K : Nat → Prop) (L : List (List Int)) (hn : n ≤ 200) (hL : Pr.Cl n L) (hsh : ∀ r ∈ L, r.length ≤ 1048576) (hlen : L.length ≤ 5000) (hmx : mx ≤ 9223372036854775807) : ∀ d, FromSaid x gd gv n mx K L d
  | 0 => from_step x gd gv n mx K L hn hL hsh hlen hmx 0 (fun d0 h => absurd h (by omega))
  | d + 1 => from_step x gd gv n mx K L hn hL hsh hlen hmx (d + 1) (fun d0 h => by
      obtain rfl : d = d0 := by omega
      exact from_any x gd gv n mx K L hn hL hsh hlen hmx d)
end Go.Proofs.Ytghfelfljblkbaa
