/- CnfMore: the walk. -/
import Derived.Test.YtghfelfljblkbaaMore
import Derived.Test.YtghfelfljblkbaaAwakeC
import Derived.Deep.Grids
import Derived.Deep.DeepCutAuto
import Derived.Deep.CutBlock
namespace Go.Proofs.Ytghfelfljblkbaa
open Go.RowKit
set_option linter.unusedVariables false

section
open Go.ChangeShapes Go.WideShapes Go.ChangeAt
variable {H : Type} {enc : TypeId × Value → H} {W : World} {base : Nat}
set_option maxRecDepth 100000 in
theorem open_bs {v : Value} {d : DataW H} {p : List MemPlace} (h : DataW.Trod enc Try.prog W 0 (fun _ => true) true 29 v d p) (o : Value.okWide Try.prog W .any base 29 v) :
    ∃ A n c bs, v = .slice A n c ∧ Bools W A n bs ∧ n ≤ c ∧ c ≤ maxLen := by
  obtain ⟨a0, len0, cap0, rfl⟩ := okWide_slice Try.underlying29 o
  obtain ⟨fuel, hf⟩ := h
  rcases Go.Deep.open_bools Try.underlying29 Try.underlying4 (by kernel_rfl) hf with ⟨hcs, hx⟩ | ⟨x, l, c, B, hcs, _, hl, hm, hx, hcell⟩
  · simp [Value.cells] at hcs
    obtain ⟨rfl, rfl, rfl⟩ := hcs
    exact ⟨none, 0, 0, [], rfl, Bools.nil W none, Nat.le_refl _, Nat.zero_le _⟩
  · simp [Value.cells] at hcs
    obtain ⟨rfl, rfl, rfl⟩ := hcs
    refine ⟨_, len0, cap0, (List.range len0).map B, rfl, ⟨by simp, fun h0 => ?_⟩, hl, hm⟩
    obtain ⟨b, off, spot⟩ := x
    have hc0 := hcell 0 (by omega)
    have hspot : spot = none := by simpa [Addr.add] using World.cell?_spot hc0
    subst hspot
    refine ⟨b, off, rfl, World.block_lt_of_cell? W _ (by simpa [Addr.add] using hc0), fun k hk => ?_⟩
    have hck := hcell k (by omega)
    rw [addL_none] at hck
    rw [hck]
    simp [List.getD, hk]
end
theorem mod_u12 (x : Int) : ∃ N : Nat, N < 12 ∧ (IntKind.u64.wrap x).tmod 12 = (N : Int) := by
  rw [u64_w, Int.tmod_eq_emod_of_nonneg (Int.emod_nonneg _ (by decide))]
  have a0 := Int.emod_nonneg (x % 18446744073709551616) (b := 12) (by omega)
  have a1 := Int.emod_lt_of_pos (x % 18446744073709551616) (b := 12) (by omega)
  generalize x % 18446744073709551616 % 12 = y at *
  exact ⟨y.toNat, by omega, by omega⟩
theorem lit_ne {w : World} {p base n : Nat} {v : Value} {xs : List Value} {C : Array Value} (ho : w.ownsRow base 37 1 v n xs) (hb : Blk w p 80 C) : ¬ v.ownBlock = some p := by
  intro hk
  rcases ho.2 with ⟨rfl, _⟩ | ⟨g, cap', cur, rfl, _, hg, _⟩
  · cases hk
  · have e : g = p := by simpa [Value.ownBlock] using hk
    subst e
    unfold Blk at hb
    rw [hg] at hb
    injection hb with h8
    injection h8 with _ ht
    exact absurd ht (by decide)
theorem ownS_len (bs : List Bool) (k : Nat) : (ownS bs k).length = k := by simp [ownS]
theorem othS_len (bs : List Bool) (k : Nat) : (othS bs k).length = k := by simp [othS]
theorem SetAt.empty {w : World} {p n : Nat} (h : Blk w p 80 #[.int .i64 (n : Int), .slice none 0 0]) (hn : n ≤ 200) : SetAt w p none 0 n [] :=
  ⟨h, ⟨[], World.ownsRow_nil _ _ _ _, LIn.nil _⟩, hn, by simp⟩
set_option maxRecDepth 100000 in
set_option maxHeartbeats 4000000 in
theorem cnfMore_any (x : Int) (v : Value) (Z : List (List Int)) (C : Option Addr) (lc cc : Nat) (cs : List Int) (B : Option Addr) (lb cb : Nat) (bs : List Bool) (w : World) (hz : ClsAt w v Z) (hZ : Z.length ≤ 4294967296) (hc : Lits w C lc cs) (hcc : lc ≤ cc) (hlc : lc ≤ 1048576) (hb : Bools w B lb bs) (hlb : lb ≤ cb) (hcb : cb ≤ maxLen) :
    Calls Try.prog 4 #[.int .i64 x, v, .slice C lc cc, .slice B lb cb] w fun e w' => e = .returned (.bool true) ∧ Below w.heap.size w w' := by
  obtain ⟨i0, hi0, hz0, hz1, hz2⟩ := info_parts lit_row
  obtain ⟨N, hN, hx⟩ := mod_u12 x
  have hlb2 : lb ≤ 9223372036854775807 := by unfold maxLen at hcb; omega
  obtain ⟨n, hn⟩ : ∃ n, n = N + 1 := ⟨_, rfl⟩
  have hn1 : 1 ≤ n := by omega
  have hn2 : n ≤ 12 := by omega
  have hvn : vars (n : Int) = n := by unfold vars; omega
  have hNn : (N : Int) + 1 = (n : Int) := by omega
  have HBO := Lib.hid (both_any (n : Int) v Z w hz hZ)
  rw [hvn] at HBO
  obtain ⟨AZ, cZ, rfl, _⟩ := hz
  have HC := Lib.hid hc
  have HB := Lib.hid hb
  have HNW := Lib.hid (fun W => New_any (n : Int) W)
  rw [hvn] at HNW
  have HX := Lib.hid hn
  clear hc hb hvn hn
  go_enter Try.func4, Try.ntmps4
  go_wp2_with fail
  go_at_call 26
  refine HBO.out.mono ?_
  rintro e w1 ⟨p, q, A, A2, ca, ca2, rfl, htw⟩
  obtain ⟨L, hL⟩ : ∃ L, L = bothL n Z 0 [] := ⟨_, rfl⟩
  rw [← hL] at htw
  have HTW := Lib.hid htw
  have HH := Lib.hid (Holds_any p ca n A L B lb cb bs w1 htw.s (fun r hr => by have := htw.short r hr; omega) (HB.out.below htw.bel) hlb2)
  clear htw hL HBO
  go_wp2_with fail
  go_at_call 27
  refine HH.out.mono ?_
  rintro e w2 ⟨rfl, hb2⟩
  have HTW2 := Lib.hid (HTW.out.below hb2)
  obtain ⟨was, hwas⟩ : ∃ was, was = holdsL bs L := ⟨_, rfl⟩
  rw [← hwas]
  have HWAS := Lib.hid hwas
  clear hb2 HTW HH hwas
  go_upto_if 33 with fail
  go_cut [2] (fun v2 wx => wx = w2 ∧ ∃ (C' : Option Addr) (l' c' : Nat) (cs' : List Int), v2 = .slice C' l' c' ∧ Hid (Lits w C' l' cs') ∧ l' ≤ 20)
  case first =>
    by_cases h20 : lc ≤ 20
    · have hd : decide ((20 : Int) < (lc : Int)) = false := decide_eq_false (by omega)
      go_wp2_with fail
      go_meet
      exact ⟨rfl, C, lc, cc, cs, rfl, HC, h20⟩
    · have hd : decide ((20 : Int) < (lc : Int)) = true := decide_eq_true (by omega)
      obtain ⟨b, o, rfl, _⟩ := HC.out.2.2 (by omega)
      have h20c : (20 : Int) ≤ (cc : Int) := by omega
      go_wp2_with fail
      go_meet
      exact ⟨rfl, _, 20, cc, _, rfl, Lib.hid (by have := HC.out.cut 0 20 (by omega); exact this), Nat.le_refl _⟩
  case rest =>
    obtain ⟨rfl, C', l', c', cs', rfl, HC', hl'⟩ := hcut
    have HA := Lib.hid (Add_any p ca n A L C' l' c' cs' wc HTW2.out.s (HC'.out.below HTW2.out.bel) (by omega))
    have HLL : Hid (cs'.length = l') := Lib.hid HC'.out.1
    go_wp2_with fail
    go_at_call 28
    refine HA.out.mono ?_
    rintro e w3 ⟨rfl, hu3, A3, ca3, hs3, _⟩
    have HB3 := Lib.hid (HTW2.out.bel.trans (hu3.below (fun k hk => HTW2.out.lo k (.inl hk)) HTW2.out.bel.size))
    obtain ⟨L3, hL3⟩ : ∃ L3, L3 = addL n L cs' := ⟨_, rfl⟩
    rw [← hL3] at hs3
    have hsh : ∀ r ∈ L3, r.length ≤ 1048576 := fun r hr => by
      rw [hL3] at hr
      rcases addL_mem hr with h | h
      · have := HTW2.out.short r h; omega
      · have := HLL.out; omega
    have HH3 := Lib.hid (Holds_any p ca3 n A3 L3 B lb cb bs w3 hs3 hsh (HB.out.below HB3.out) hlb2)
    obtain ⟨is, his⟩ : ∃ is, is = holdsL bs L3 := ⟨_, rfl⟩
    have hiw : is = true → was = true := fun h => by rw [HWAS.out]; exact holds_add (n := n) (zs := cs') (by rw [← hL3, ← his]; exact h)
    rw [← his] at HH3
    have HIW := Lib.hid hiw
    clear hu3 hs3 hsh hL3 his hiw HTW2 HA HLL HC'
    go_upto_region 7 with fail
    go_cut [45] (fun v wx => v = .bool false ∧ Hid (Below w.heap.size w wx))
    case first =>
      cases is with
      | true =>
        have hw := HIW.out rfl
        subst hw
        go_wp2_with (go_at_call 27; refine HH3.out.mono ?_; rintro e w4 ⟨rfl, hb4⟩)
        go_meet
        exact ⟨rfl, Lib.hid (HB3.out.trans (hb4.mono HB3.out.size))⟩
      | false =>
        go_wp2_with (go_at_call 27; refine HH3.out.mono ?_; rintro e w4 ⟨rfl, hb4⟩)
        go_meet
        exact ⟨rfl, Lib.hid (HB3.out.trans (hb4.mono HB3.out.size))⟩
    case rest =>
      obtain ⟨rfl, HB4⟩ := hcut
      clear HH3 HB3 HIW HWAS
      go_wp2_with fail
      go_at_call 29
      refine (HNW.out _).mono ?_
      rintro e w5 ⟨pt, rfl, hs5, hb5, hpt⟩
      have HB5 := Lib.hid (HB4.out.trans (hb5.mono HB4.out.size))
      have HBK5 : Hid (Blk w5 pt 80 #[.int .i64 (n : Int), .slice none 0 0]) := Lib.hid hs5.blk
      have HPT := Lib.hid (Nat.le_trans HB4.out.size hpt)
      clear hs5 hb5 hpt HB4
      go_wp2_with fail
      go_loopw [13, 14, 15] (fun a b t wr => ∃ (k v : Nat) (A1 A2 : Option Addr) (c1 c2 : Nat), a = .slice A1 k c1 ∧ b = .slice A2 k c2 ∧ t = .int .i64 (v : Int) ∧ Hid (v = k + 1) ∧ k ≤ n ∧ 1 ≤ v ∧ v ≤ n + 1 ∧ Hid (OwnL wr w.heap.size (.slice A1 k c1) (ownS bs k)) ∧ Hid (OwnL wr w.heap.size (.slice A2 k c2) (othS bs k)) ∧ Hid (∀ j, (Value.slice A1 0 0).ownBlock = some j → ¬ (Value.slice A2 0 0).ownBlock = some j) ∧ Hid (Blk wr pt 80 #[.int .i64 (n : Int), .slice none 0 0]) ∧ Hid (Below w.heap.size w wr)) (fun _ _ t _ => n + 1 - (match t with | .int _ x => x.toNat | _ => 0))
      case atStart => exact ⟨0, 1, none, none, 0, 0, rfl, rfl, rfl, Lib.hid rfl, Nat.zero_le _, by omega, by omega, Lib.hid (World.ownsRow_nil _ _ _ _), Lib.hid (World.ownsRow_nil _ _ _ _), Lib.hid (fun j hj => by cases hj), HBK5, HB5⟩
      case round =>
        obtain ⟨k, v, A1, A2, c1, c2, rfl, rfl, rfl, HV, hk, hv1, hv2, HO1, HO2, HNE, HBK, HBR⟩ := hrel
        clear HBK5 HB5
        by_cases hlt : v ≤ n
        · have i1 : (v : Int) ≤ (n : Int) := by omega
          obtain ⟨bb, hbb⟩ : ∃ bb, bb = decide (v ≤ lb ∧ bs.getD (v - 1) false = true) := ⟨_, rfl⟩
          have HBB := Lib.hid hbb
          clear hbb
          go_upto_region 15 with fail
          go_cut [65] (fun v65 wx => wx = wr ∧ v65 = .bool bb)
          case first =>
            by_cases h1 : v ≤ lb
            · obtain ⟨b, o, hB, hbl, hcell⟩ := HB.out.2 (by omega)
              subst hB
              have kb : wr.cell? ⟨b, o + (v - 1), none⟩ = some (.bool bb) := by
                rw [HBB.out, HBR.out.cell hbl, hcell (v - 1) (by omega)]
                congr 2
                cases h9 : bs.getD (v - 1) false <;> simp [h1]
              have p1 : (v : Int) ≤ (lb : Int) := by omega
              have p2 : (0 : Int) ≤ (v : Int) - 1 := by omega
              have p3 : (v : Int) - 1 < (lb : Int) := by omega
              have p4 : ((v : Int) - 1).toNat = v - 1 := by omega
              clear hcell
              go_wp2_with fail
              go_meet
              exact ⟨rfl, rfl⟩
            · have hbf : bb = false := by rw [HBB.out]; exact decide_eq_false (fun h => h1 h.1)
              have p1 : decide ((v : Int) ≤ (lb : Int)) = false := decide_eq_false (by omega)
              subst hbf
              go_wp2_with fail
              go_meet
              exact ⟨rfl, rfl⟩
          case rest =>
            obtain ⟨rfl, rfl⟩ := hcut
            go_upto_if 65 with fail
            go_cut [16] (fun v16 wx => wx = wc ∧ v16 = .int .i64 (sg bs v))
            case first =>
              have hlbl : lb = bs.length := HB.out.1.symm
              cases bb with
              | true =>
                have hs : sg bs v = (v : Int) := by
                  unfold sg
                  have := of_decide_eq_true HBB.out.symm
                  rw [if_pos ⟨by omega, this.2⟩]
                clear hlbl
                go_wp2_with fail
                go_meet
                exact ⟨rfl, by rw [hs]⟩
              | false =>
                have hs : sg bs v = -(v : Int) := by
                  unfold sg
                  have := of_decide_eq_false HBB.out.symm
                  rw [if_neg (fun h => this ⟨by omega, h.2⟩)]
                clear hlbl
                go_wp2_with fail
                go_meet
                exact ⟨rfl, by rw [hs]⟩
            case rest =>
              obtain ⟨rfl, rfl⟩ := hcut
              have hsok := sg_ok bs (v := v) (by omega)
              obtain ⟨y, hy⟩ : ∃ y, y = sg bs v := ⟨_, rfl⟩
              rw [← hy] at hsok ⊢
              have HY := Lib.hid hy
              have y1 : -9223372036854775808 ≤ y := hsok.1.1
              have y2 : y ≤ 9223372036854775807 := hsok.1.2
              have y3 : -9223372036854775808 ≤ -y := hsok.2.1
              have y4 : -y ≤ 9223372036854775807 := hsok.2.2
              clear hy hsok
              have HR1 : Hid (wc.ownsRow w.heap.size 37 1 (.slice A1 k c1) k ((ownS bs k).map (Value.int .i64))) := Lib.hid (by have := HO1.out; unfold OwnL at this; rw [ownS_len] at this; exact this)
              have HR2 : Hid (wc.ownsRow w.heap.size 37 1 (.slice A2 k c2) k ((othS bs k).map (Value.int .i64))) := Lib.hid (by have := HO2.out; unfold OwnL at this; rw [othS_len] at this; exact this)
              have HSZ := Lib.hid HBR.out.size
              clear HO1 HO2
              go_wp2_with (first
                | (at_builtin; refine wpList_append_any _ rfl (.tmp 67) (.tmp 69) 22 rfl w.heap.size 37 i0 _ 1 8 Try.underlying22 hi0 hz0 hz1 hz2 rfl (by decide) _ k _ rfl (HR1.out.alloc _) (wc.heap.size + 1) (some ⟨wc.heap.size, 0, none⟩) 1 1 [.int .i64 y] rfl (reads_one (Blk.new _ _ _) (by omega)) (ints_one [y]) (by unfold maxLen; omega) (by omega) (Nat.le_trans HSZ.out (by simp)) ?_; intro v5 w5 hown5 hg5 hat5; have HOW5 := Lib.hid hown5; have HU5 : Hid (Upd (fun j => (Value.slice A1 0 0).ownBlock = some j) wc w5) := Lib.hid (((Upd.refl _ wc).alloc _).grown hg5 (fun j hj => .inl (by rw [← hj]; exact ownB))); have HA5 : Hid (∀ j, v5.ownBlock = some j → (Value.slice A1 0 0).ownBlock = some j ∨ wc.heap.size ≤ j) := Lib.hid (fun j hj => own_or A1 k c1 v5.ownBlock wc.heap.size j hj (by rcases hat5 with h | h; (· exact .inl h); (· exact .inr (h.trans (by rw [World.size_alloc]))))); have HR25 := Lib.hid (own_upd HR2.out HU5.out (fun j hj ht => HNE.out j ht (by rw [← hj]; exact ownB))); have HSZ5 : Hid (w.heap.size ≤ w5.heap.size) := Lib.hid (Nat.le_trans HSZ.out HU5.out.size); obtain ⟨A5, c5, rfl⟩ := ownL_shape hown5; clear hown5 hg5 hat5)
                | (at_builtin; refine wpList_append_any _ rfl (.tmp 71) (.tmp 74) 22 rfl w.heap.size 37 i0 _ 1 8 Try.underlying22 hi0 hz0 hz1 hz2 rfl (by decide) _ k _ rfl (HR25.out.alloc _) (w5.heap.size + 1) (some ⟨w5.heap.size, 0, none⟩) 1 1 [.int .i64 (-y)] rfl (reads_one (Blk.new _ _ _) (by omega)) (ints_one [-y]) (by unfold maxLen; omega) (by omega) (Nat.le_trans HSZ5.out (by simp)) ?_; intro v6 w6 hown6 hg6 hat6; have HOW6 := Lib.hid hown6; have HU6 : Hid (Upd (fun j => (Value.slice A2 0 0).ownBlock = some j) w5 w6) := Lib.hid (((Upd.refl _ w5).alloc _).grown hg6 (fun j hj => .inl (by rw [← hj]; exact ownB))); have HA6 : Hid (∀ j, v6.ownBlock = some j → (Value.slice A2 0 0).ownBlock = some j ∨ w5.heap.size ≤ j) := Lib.hid (fun j hj => own_or A2 k c2 v6.ownBlock w5.heap.size j hj (by rcases hat6 with h | h; (· exact .inl h); (· exact .inr (h.trans (by rw [World.size_alloc]))))); obtain ⟨A6, c6, rfl⟩ := ownL_shape hown6; clear hown6 hg6 hat6))
              have hA2lt : ∀ j, (Value.slice A2 0 0).ownBlock = some j → j < wc.heap.size := fun j hj => (HR2.out.lt j (by rw [← hj]; exact ownB)).2
              have hA1lt : ∀ j, (Value.slice A1 0 0).ownBlock = some j → j < wc.heap.size := fun j hj => (HR1.out.lt j (by rw [← hj]; exact ownB)).2
              have hA5lt : ∀ j, (Value.slice A5 0 0).ownBlock = some j → j < w5.heap.size := fun j hj => (HOW5.out.lt j (by rw [← hj]; exact ownB)).2
              have hne5 : ∀ j, (Value.slice A5 0 0).ownBlock = some j → ¬ (Value.slice A2 0 0).ownBlock = some j := fun j hj h2 => by
                rcases HA5.out j (by rw [← hj]; exact ownB) with h | h
                · exact HNE.out j h h2
                · have := hA2lt j h2; omega
              have hb5 : Below w.heap.size w w5 := HBR.out.trans (HU5.out.below (fun j hj => (HR1.out.lt j (by rw [← hj]; exact ownB)).1) HSZ.out)
              have hb6 : Below w.heap.size w w6 := hb5.trans (HU6.out.below (fun j hj => (HR2.out.lt j (by rw [← hj]; exact ownB)).1) HSZ5.out)
              have hk5 : Blk w5 pt 80 #[.int .i64 (n : Int), .slice none 0 0] := HBK.out.upd HU5.out (fun h => lit_ne HR1.out HBK.out (by rw [← h]; exact ownB))
              have hk6 : Blk w6 pt 80 #[.int .i64 (n : Int), .slice none 0 0] := hk5.upd HU6.out (fun h => lit_ne HR25.out hk5 (by rw [← h]; exact ownB))
              refine ⟨⟨k + 1, v + 1, A5, A6, c5, c6, rfl, rfl, by go_num, Lib.hid (by have := HV.out; omega), by have := HV.out; omega, by omega, by omega, Lib.hid ?_, Lib.hid ?_, Lib.hid (fun j h1 h2 => ?_), Lib.hid hk6, Lib.hid hb6⟩, ?_⟩
              · unfold OwnL
                rw [ownS_len, ownS_succ, List.map_append, show sg bs (k + 1) = y by rw [HY.out, HV.out]]
                exact own_upd HOW5.out HU6.out (fun j hj h2 => hne5 j (by rw [← hj]; exact ownB) h2)
              · unfold OwnL
                rw [othS_len, othS_succ, List.map_append, show sg bs (k + 1) = y by rw [HY.out, HV.out]]
                exact HOW6.out
              · rcases HA6.out j (by rw [← h2]; exact ownB) with h | h
                · exact hne5 j h1 h
                · have := hA5lt j h1; omega
              · show n + 1 - ((v : Int) + 1).toNat < n + 1 - (v : Int).toNat
                omega
        · have hkn : k = n := by have := HV.out; omega
          have hown : ∀ z ∈ ownS bs n, Ok z := fun z hz => by
            obtain ⟨j, hj, rfl⟩ := List.mem_map.1 hz
            have := List.mem_range.1 hj
            exact (sg_ok bs (v := j + 1) (by omega)).1
          have hoth : ∀ z ∈ othS bs n, Ok z := fun z hz => by
            obtain ⟨j, hj, rfl⟩ := List.mem_map.1 hz
            have := List.mem_range.1 hj
            exact (sg_ok bs (v := j + 1) (by omega)).2
          rw [hkn] at HO1 HO2
          obtain ⟨B1, d1, hv1', hl1, _⟩ := OwnL.lits HO1.out hown
          obtain ⟨B2, d2, hv2', hl2, _⟩ := OwnL.lits HO2.out hoth
          rw [ownS_len] at hv1' hl1
          rw [othS_len] at hv2' hl2
          cases hv1'
          cases hv2'
          have HL2 := Lib.hid hl2
          have HNP : Hid (¬ (Value.slice A2 0 0).ownBlock = some pt) := Lib.hid (fun h => lit_ne HO2.out HBK.out (by rw [← h]; exact ownB))
          have hn200 : n ≤ 200 := by omega
          have hmay1 : mayL n [] (ownS bs n) = true := may_of _ (own_f bs) hn200 (by simp)
          have HA1 := Add_any pt 0 n none [] A1 n c1 (ownS bs n) wr (SetAt.empty HBK.out hn200) hl1 (by omega)
          rw [hmay1, add_own bs hn200] at HA1
          have HADD1 := Lib.hid HA1
          have HVE : Hid (v = n + 1) := Lib.hid (by rw [← hkn]; exact HV.out)
          subst hkn
          clear hown hoth hl1 hl2 hmay1 HA1 HNE HO1 HO2
          go_wp2_with fail
          go_at_call 28
          refine HADD1.out.mono ?_
          rintro e w7 ⟨rfl, hu7, A7, c7, hs7, hf7⟩
          have HB7 : Hid (Below w.heap.size w w7) := Lib.hid (HBR.out.trans (hu7.below (fun j hj => by
            rcases hj with rfl | hj
            · exact HPT.out
            · cases hj) HBR.out.size))
          have HF7 : Hid (∀ j, sF pt A7 j → w.heap.size ≤ j) := Lib.hid (fun j hj => by
            rcases hf7 j hj with (rfl | h) | h
            · exact HPT.out
            · cases h
            · exact Nat.le_trans HBR.out.size h)
          have HS7 := Lib.hid hs7
          have HL7 : Hid (Lits w7 A2 k (othS bs k)) := Lib.hid (HL2.out.upd hu7 (fun b o e hj => by
            rcases hj with rfl | hj
            · exact HNP.out (by rw [e]; rfl)
            · cases hj))
          have HH7 := Lib.hid (Holds_any pt c7 k A7 [ownS bs k] B lb cb bs w7 hs7 (fun r hr => by simp only [List.mem_singleton] at hr; subst hr; rw [ownS_len]; omega) (HB.out.below HB7.out) hlb2)
          rw [holds_own bs hn1 hn200] at HH7
          clear hu7 hs7 hf7
          go_wp2_with fail
          go_at_call 27
          refine HH7.out.mono ?_
          rintro e w8 ⟨rfl, hb8⟩
          have hs8 := HS7.out.below hb8
          have hmay2 : mayL k [ownS bs k] (othS bs k) = true := may_of _ (oth_f bs) hn200 (by simp)
          have HA2 := Add_any pt c7 k A7 [ownS bs k] A2 k c2 (othS bs k) w8 hs8 (HL7.out.below hb8) (by omega)
          rw [hmay2, add_oth bs hn200 _ (by simp)] at HA2
          have HADD2 := Lib.hid HA2
          have HB8 := Lib.hid (HB7.out.trans (hb8.mono HB7.out.size))
          clear hb8 hs8 hmay2 HA2 HH7
          go_wp2_with fail
          go_at_call 28
          refine HADD2.out.mono ?_
          rintro e w9 ⟨rfl, hu9, A9, c9, hs9, _⟩
          have HB9 := Lib.hid (HB8.out.trans (hu9.below (fun j hj => HF7.out j hj) HB8.out.size))
          have HH9 := Lib.hid (Holds_any pt c9 k A9 ([ownS bs k] ++ [othS bs k]) B lb cb bs w9 hs9 (fun r hr => by
            simp only [List.cons_append, List.nil_append, List.mem_cons, List.not_mem_nil, or_false] at hr
            rcases hr with rfl | rfl
            · rw [ownS_len]; omega
            · rw [othS_len]; omega) (HB.out.below HB9.out) hlb2)
          rw [holds_oth bs hn200] at HH9
          clear hu9 hs9 HADD2
          go_wp2_with (first
            | (go_at_call 27; refine HH9.out.mono ?_; rintro e w10 ⟨rfl, hb10⟩)
            | (go_at_call 22; refine (awake_any _).mono ?_; rintro e w11 ⟨rfl, hb11⟩))
          go_ret
          exact ⟨rfl, HB9.out.trans ((hb10.trans (hb11.mono hb10.size)).mono HB9.out.size)⟩
open Go.ChangeShapes Go.WideShapes Go.ChangeAt in
set_option maxRecDepth 100000 in
theorem cnfMore_walk {H : Type} {enc : TypeId × Value → H} (W : World) {base : Nat} (v0 v1 v2 v3 : Value) {d0 d1 d2 d3 : DataW H} {p0 p1 p2 p3 : List MemPlace}
    (h0 : DataW.Trod enc Try.prog W 0 (fun _ => true) true 3 v0 d0 p0) (o0 : Value.okWide Try.prog W .any base 3 v0)
    (h1 : DataW.Trod enc Try.prog W 0 (fun _ => true) true 28 v1 d1 p1) (o1 : Value.okWide Try.prog W .any base 28 v1)
    (h2 : DataW.Trod enc Try.prog W 0 (fun _ => true) true 22 v2 d2 p2) (o2 : Value.okWide Try.prog W .any base 22 v2)
    (h3 : DataW.Trod enc Try.prog W 0 (fun _ => true) true 29 v3 d3 p3) (o3 : Value.okWide Try.prog W .any base 29 v3)
    (hk : Rows.uptoBulkAll [d0, d1, d2, d3] ≤ 1048576) :
    Calls Try.prog 4 #[v0, v1, v2, v3] W fun e w' => e = .returned (.bool true) ∧ Below W.heap.size W w' := by
  obtain ⟨x, rfl, rfl, rfl, wx⟩ := open_int Try.underlying3 o0 h0
  obtain ⟨Z, hz, hZ, _⟩ := open_cls h1 o1
  obtain ⟨C, lc, cc, cs, rfl, hc, hcc, _, hlc⟩ := open_lits h2 o2
  obtain ⟨B, lb, cb, bs, rfl, hb, hlb, hcb⟩ := open_bs h3 o3
  simp only [Rows.uptoBulkAll] at hk
  exact cnfMore_any x v1 Z C lc cc cs B lb cb bs W hz (by omega) hc hcc (by omega) hb hlb hcb
end Go.Proofs.Ytghfelfljblkbaa
