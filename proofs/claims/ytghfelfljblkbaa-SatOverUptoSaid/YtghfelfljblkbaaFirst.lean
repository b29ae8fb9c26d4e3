/- The reference: First. -/
import Derived.Test.YtghfelfljblkbaaRTr
namespace Go.Proofs.Ytghfelfljblkbaa
open Go.RowKit Go.Sort
set_option linter.unusedVariables false

set_option maxRecDepth 100000 in
set_option maxHeartbeats 1000000 in
theorem RHoldsC_any (p cap nv : Nat) (A : Option Addr) (L : List (List Int)) (K : Nat → Prop) (B : Option Addr) (n c : Nat) (bs : List Bool) (w : World) (hsb : Blk w p 42 #[.int .i64 (nv : Int), .slice A L.length cap]) (hK : ClsK w K A L) (hlen : L.length ≤ 5000) (hL : ∀ r ∈ L, r.length ≤ 1048576) (hb : Bools w B n bs) (hn : n ≤ 9223372036854775807) :
    Calls Try.prog 31 #[.pointer (some ⟨p, 0, none⟩), .slice B n c] w fun e w' => e = .returned (.bool (holdsL bs L)) ∧ w = w' := by
  have k1 : w.cell? ⟨p, 1, none⟩ = some (.slice A L.length cap) := hsb.cell 1
  have HS := Lib.hid hK
  have HBL := Lib.hid hb
  have HLL := Lib.hid hL
  clear hsb hK hb hL
  go_enter Try.func31, Try.ntmps31
  go_wp2_with fail
  go_loopw [15] (fun t wr => ∃ i : Nat, t = .int .i64 (i : Int) ∧ i ≤ L.length ∧ Hid (holdsL bs L = holdsL bs (L.drop i)) ∧ w = wr) (fun t _ => L.length - (match t with | .int _ x => x.toNat | _ => 0))
  case atStart => exact ⟨0, rfl, Nat.zero_le _, Lib.hid rfl, rfl⟩
  case round =>
    obtain ⟨i, rfl, hi, HI, rfl⟩ := hrel
    by_cases hlt : i < L.length
    · obtain ⟨g, hA, _, hcell⟩ := HS.out.2 (by omega)
      obtain ⟨Aj, cj, kg, hlj, _⟩ := hcell i hlt
      subst hA
      obtain ⟨r, hr⟩ : ∃ r, r = L[i] := ⟨_, rfl⟩
      rw [← hr] at kg hlj
      have hrl : r.length ≤ 1048576 := by rw [hr]; exact HLL.out _ (List.getElem_mem hlt)
      have HST : Hid (holdsL bs L = (r.any (hv bs) && holdsL bs (L.drop (i + 1)))) := Lib.hid (by rw [HI.out, holdsL_step bs L i hlt, hr])
      have i1 : (i : Int) < (L.length : Int) := by omega
      obtain ⟨q, hq⟩ : ∃ q, q = r.length := ⟨_, rfl⟩
      rw [← hq] at kg hlj hrl
      have HQ := Lib.hid hq
      have HLJ := Lib.hid hlj
      clear hcell hlj hr hq
      go_upto_block 2 with fail
      go_cut [7] (fun v7 wx => wx = w ∧ v7 = .bool (r.any (hv bs)))
      case first =>
        go_wp2_with fail
        go_loopw [7, 21] (fun a t wx => ∃ k : Nat, t = .int .i64 (k : Int) ∧ k ≤ q ∧ a = .bool ((r.take k).any (hv bs)) ∧ wx = w) (fun _ t _ => q - (intOf t).toNat)
        case atStart => exact ⟨0, rfl, Nat.zero_le _, rfl, rfl⟩
        case round =>
          obtain ⟨k, rfl, hk, rfl, rfl⟩ := hrel
          by_cases hkq : k < q
          · obtain ⟨b, o, hAj, hbl, hc⟩ := HLJ.out.2.2 (by omega)
            subst hAj
            obtain ⟨x, hx⟩ : ∃ x, x = r.getD k 0 := ⟨_, rfl⟩
            have kx := hc k hkq
            rw [← hx] at kx
            have hxo : Ok x := by rw [hx]; exact HLJ.out.ok k
            have HSO := so_any x hxo B n c bs wr HBL.out hn
            have HTK : Hid ((r.take (k + 1)).any (hv bs) = ((r.take k).any (hv bs) || hv bs x)) := Lib.hid (by rw [any_take _ _ _ (by have := HQ.out; omega), hx])
            obtain ⟨bb, hbb⟩ : ∃ bb, bb = (r.take k).any (hv bs) := ⟨_, rfl⟩
            obtain ⟨cc, hcc⟩ : ∃ cc, cc = hv bs x := ⟨_, rfl⟩
            rw [← hcc] at HSO
            rw [← hbb, ← hcc] at HTK
            rw [← hbb]
            have HSOM := Lib.hid HSO
            have k2 : (k : Int) < (q : Int) := by omega
            clear HSO hbb hcc hx hc hbl hxo
            cases bb with
            | true =>
              go_wp2_with fail
              exact ⟨⟨k + 1, by go_num, by omega, by rw [HTK.out]; rfl, by first | rfl | trivial⟩, by simp [intOf]; omega⟩
            | false =>
              go_wp2_with (go_at_call 75; refine HSOM.out.mono ?_; rintro e w' ⟨rfl, rfl⟩)
              exact ⟨⟨k + 1, by go_num, by omega, by rw [HTK.out]; rfl, by first | rfl | trivial⟩, by simp [intOf]; omega⟩
          · have hkq2 : k = q := by omega
            have HT : Hid ((r.take k).any (hv bs) = r.any (hv bs)) := Lib.hid (by rw [List.take_of_length_le (by have := HQ.out; omega)])
            go_wp2_with fail
            go_meet
            exact ⟨rfl, by rw [HT.out]⟩
      case rest =>
        obtain ⟨rfl, rfl⟩ := hcut
        obtain ⟨bb, hbb⟩ : ∃ bb, bb = r.any (hv bs) := ⟨_, rfl⟩
        rw [← hbb] at HST ⊢
        clear hbb
        cases bb with
        | true =>
          go_wp2_with fail
          refine ⟨⟨i + 1, by go_num, by omega, Lib.hid (by rw [HST.out]; rfl), by first | rfl | trivial⟩, ?_⟩
          show L.length - ((i : Int) + 1).toNat < L.length - (i : Int).toNat
          omega
        | false =>
          go_wp2_with fail
          go_ret
          exact ⟨by rw [HST.out]; rfl, rfl⟩
    · have hil : i = L.length := by omega
      have HEQ : Hid (holdsL bs L = true) := Lib.hid (by rw [HI.out, hil, List.drop_of_length_le (Nat.le_refl _)]; rfl)
      clear hil
      go_wp2_with fail
      go_ret
      exact ⟨by rw [HEQ.out]; rfl, rfl⟩
/-- n Booleans. -/
def VB (n : Nat) (f : Nat → Bool) : Array Value := ((List.range n).map fun v => Value.bool (f v)).toArray
theorem VB.size (n : Nat) (f : Nat → Bool) : (VB n f).size = n := by simp [VB]
theorem VB.get {n v : Nat} {f : Nat → Bool} (h : v < n) : (VB n f)[v]? = some (.bool (f v)) := by simp [VB, h]
theorem VB.set {n v : Nat} {f g : Nat → Bool} (h : ∀ u, u < n → g u = if u = v then g v else f u) : (VB n f).setIfInBounds v (.bool (g v)) = VB n g := by
  refine Array.ext_getElem? fun i => ?_
  rw [Array.getElem?_setIfInBounds, VB.size]
  rcases Nat.lt_or_ge i n with hi | hi
  · rw [VB.get hi, VB.get hi]
    by_cases e : v = i
    · subst e; rw [if_pos rfl, if_pos hi]
    · rw [if_neg e, h i hi, if_neg (fun h => e h.symm)]
  · rw [Array.getElem?_eq_none (by rw [VB.size]; exact hi), Array.getElem?_eq_none (by rw [VB.size]; exact hi)]
    by_cases e : v = i
    · subst e; rw [if_pos rfl, if_neg (by omega)]
    · rw [if_neg e]
theorem VB.congr {n : Nat} {f g : Nat → Bool} (h : ∀ u, u < n → f u = g u) : VB n f = VB n g := by
  unfold VB
  congr 1
  exact List.map_congr_left fun u hu => by rw [h u (List.mem_range.1 hu)]
theorem VB.bools {w : World} {g n : Nat} {f : Nat → Bool} (h : Blk w g 4 (VB n f)) : Bools w (some ⟨g, 0, none⟩) n ((List.range n).map f) :=
  ⟨by simp, fun _ => ⟨g, 0, rfl, h.lt, fun k hk => by
    rw [Nat.zero_add, h.cell, VB.get hk, List.getD_eq_getElem?_getD]
    simp [hk]⟩⟩
/-- The k-th model of n variables. -/
def vb (n k : Nat) (i : Nat) : Bool := k / 2 ^ (n - 1 - i) % 2 == 1
def vec (n k : Nat) : List Bool := (List.range n).map (vb n k)
/-- Do all clauses and all assumptions hold in a model? -/
def mod (L : List (List Int)) (A : List Int) (bs : List Bool) : Bool := holdsL bs L && A.all (hv bs)
/-- What First answers. -/
def FirstIs (n : Nat) (L : List (List Int)) (A : List Int) : Option (List Bool) → Prop
  | none => A.any (offL n) = true ∨ ∀ k, k < 2 ^ n → mod L A (vec n k) = false
  | some bs => A.any (offL n) = false ∧ ∃ k, k < 2 ^ n ∧ bs = vec n k ∧ mod L A bs = true ∧ ∀ j, j < k → mod L A (vec n j) = false
/-- What First's call hands back. -/
def FirstRes (w w' : World) (n : Nat) (e : Ending) : Option (List Bool) → Prop
  | none => e = .returned (.tuple #[.slice none 0 0, .bool false])
  | some bs => ∃ g, e = .returned (.tuple #[.slice (some ⟨g, 0, none⟩) n n, .bool true]) ∧ Bools w' (some ⟨g, 0, none⟩) n bs ∧ w.heap.size ≤ g
theorem bool_row : (Try.prog.info? 4).map (fun i => (i.zero, i.size, i.bytes)) = some (some (.bool false), 1, 1) := by kernel_rfl
section
variable {P : Program}
theorem make_row2 (t e : TypeId) (i : TypeInfo) (z : Value) (ht : P.underlying t = some (.slice e)) (hi : P.info? e = some i) (hz : i.zero = some z)
    (kl kc : IntKind) (n : Nat) (hbytes : i.bytes * n ≤ 281474976710656) (h63 : n ≤ 9223372036854775807) (w : World) :
    (Instr.makeSlice t (.int kl (n : Int)) (.int kc (n : Int))).run P w = .ok (.slice (some ⟨w.heap.size, 0, none⟩) n n) (w.alloc (.cells (madeCells z.cells (n * i.size)) e)) := by
  have hb : (i.bytes : Int) * (n : Int) ≤ 281474976710656 := by
    have h : ((i.bytes * n : Nat) : Int) ≤ 281474976710656 := by omega
    rwa [Int.natCast_mul] at h
  have hr := run_make (P := P) w t e i z ht hi hz kl kc n n (by omega) (by omega) hb (by omega)
  simp only [Int.toNat_natCast] at hr
  exact hr
end
theorem make_bools (n : Nat) (hn : n ≤ 1000000) (W : World) : (Instr.makeSlice 29 (.int .i64 (n : Int)) (.int .i64 (n : Int))).run Try.prog W = .ok (.slice (some ⟨W.heap.size, 0, none⟩) n n) (W.alloc (.cells (VB n fun _ => false) 4)) := by
  obtain ⟨i0, hi0, hz0, hz1, hz2⟩ := info_parts bool_row
  have := make_row2 29 4 i0 (.bool false) Try.underlying29 hi0 hz0 .i64 .i64 n (by rw [hz2]; omega) (by omega) W
  have e : madeCells (Value.bool false).cells (n * i0.size) = VB n fun _ => false := by
    rw [hz1, Nat.mul_one]
    unfold VB madeCells
    apply Array.ext
    · simp
    · intro k h1 h2
      simp [Value.cells, Nat.mod_one]
  rw [e] at this
  exact this
theorem vb_bit {n k i : Nat} (hk : k < 18446744073709551616) : (bits BinOp.and IntKind.u64 ((k : Int) / 2 ^ (n - 1 - i)) 1 == 1) = vb n k i := by
  have e1 : (k : Int) / 2 ^ (n - 1 - i) = ((k / 2 ^ (n - 1 - i) : Nat) : Int) := by rw [Int.natCast_ediv]; norm_cast
  have hlt : k / 2 ^ (n - 1 - i) < 18446744073709551616 := Nat.lt_of_le_of_lt (Nat.div_le_self _ _) hk
  have e2 := u64_and_nat (k / 2 ^ (n - 1 - i)) 1 hlt (by omega)
  rw [show ((1 : Nat) : Int) = 1 from rfl] at e2
  unfold vb
  rw [e1, e2, nat_mask1]
  generalize k / 2 ^ (n - 1 - i) % 2 = z
  rw [Bool.eq_iff_iff, beq_iff_eq, beq_iff_eq]
  omega
theorem all_take (p : Int → Bool) (zs : List Int) (k : Nat) (hk : k < zs.length) : (zs.take (k + 1)).all p = ((zs.take k).all p && p (zs.getD k 0)) := by
  rw [take_one hk, List.all_append, List.all_cons, List.all_nil, Bool.and_true]
set_option maxRecDepth 100000 in
set_option maxHeartbeats 4000000 in
theorem First_any (qs cb n : Nat) (B : Option Addr) (K : Nat → Prop) (L : List (List Int)) (C : Option Addr) (lc cc : Nat) (cs : List Int) (w : World) (hsb : Blk w qs 42 #[.int .i64 (n : Int), .slice B L.length cb]) (hK : ClsK w K B L) (hlen : L.length ≤ 5000) (hL : ∀ r ∈ L, r.length ≤ 1048576) (hn : n ≤ 30) (hc : Lits w C lc cs) (hlc : lc ≤ 1048576) :
    Calls Try.prog 44 #[.pointer (some ⟨qs, 0, none⟩), .slice C lc cc] w fun e w' => Below w.heap.size w w' ∧ ∃ r, FirstIs n L cs r ∧ FirstRes w w' n e r := by
  have k0 : w.cell? ⟨qs, 0, none⟩ = some (.int .i64 (n : Int)) := hsb.cell 0
  have HSB := Lib.hid hsb
  have HKK := Lib.hid hK
  have HLL := Lib.hid hL
  have HC := Lib.hid hc
  have HCL := Lib.hid hc.1
  have hmk := make_bools n (by omega)
  have hlq := hsb.lt
  have HMY : Hid (∀ k x, Ok x → Calls Try.prog 77 #[.pointer (some ⟨qs, 0, none⟩), .int .i64 x] (w.drewN k) fun e w' => e = .returned (.bool (!offL n x)) ∧ ∃ m, w' = w.drewN m) := Lib.hid (fun k x hx => (RMayC_any qs n x (w.drewN k) k0 (by omega) hx).mono fun e w' ⟨he, m, hm⟩ => ⟨he, k + m, by rw [hm]; simp [World.drewN, Nat.add_assoc]⟩)
  clear hsb hK hL hc
  go_enter Try.func44, Try.ntmps44
  go_wp2_with fail
  go_loopw [16] (fun t wr => ∃ (j q : Nat), t = .int .i64 (j : Int) ∧ j ≤ lc ∧ Hid ((cs.take j).any (offL n) = false) ∧ wr = w.drewN q) (fun t _ => lc - (match t with | .int _ x => x.toNat | _ => 0))
  case atStart => exact ⟨0, 0, rfl, Nat.zero_le _, Lib.hid (by simp), rfl⟩
  case round =>
    obtain ⟨j, q, rfl, hj, HN, rfl⟩ := hrel
    by_cases hlt : j < lc
    · obtain ⟨b, o, hC, hbl, hcell⟩ := HC.out.2.2 (by omega)
      obtain ⟨x, hx⟩ : ∃ x, x = cs.getD j 0 := ⟨_, rfl⟩
      have kx := hcell j hlt
      rw [← hx] at kx
      have hjl : j < cs.length := by have := HCL.out; omega
      have hxo : Ok x := by rw [hx]; exact HC.out.ok j
      have HMX := HMY.out q x hxo
      have hst : (cs.take (j + 1)).any (offL n) = ((cs.take j).any (offL n) || offL n x) := by rw [any_take _ _ _ hjl, hx]
      obtain ⟨ob, hob⟩ : ∃ ob, ob = offL n x := ⟨_, rfl⟩
      rw [← hob] at HMX hst
      have HM := Lib.hid HMX
      have HST := Lib.hid hst
      have HOX : Hid (ob = true → cs.any (offL n) = true) := Lib.hid (fun h9 => by
        rw [List.any_eq_true]
        refine ⟨x, ?_, by rw [← hob]; exact h9⟩
        rw [hx, List.getD_eq_getElem?_getD, List.getElem?_eq_getElem hjl]
        exact List.getElem_mem _)
      have i1 : (j : Int) < (lc : Int) := by omega
      subst hC
      clear hcell hx hjl hxo HMX hst hob hbl
      cases ob with
      | true =>
        have HAN := Lib.hid (HOX.out rfl)
        clear HOX
        go_wp2_with (go_at_call 77; refine HM.out.mono ?_; rintro e w2 ⟨rfl, m, rfl⟩)
        go_ret2
        exact ⟨⟨rfl, rfl, rfl, Nat.le_refl _, fun _ _ => rfl⟩, none, .inl HAN.out, rfl⟩
      | false =>
        have HN2 : Hid ((cs.take (j + 1)).any (offL n) = false) := Lib.hid (by rw [HST.out, HN.out]; rfl)
        clear HOX
        go_wp2_with (go_at_call 77; refine HM.out.mono ?_; rintro e w2 ⟨rfl, m, rfl⟩)
        refine ⟨⟨j + 1, m, by go_num, by omega, HN2, rfl⟩, ?_⟩
        show lc - ((j : Int) + 1).toNat < lc - (j : Int).toNat
        omega
    · have hjl : (j : Int) = (lc : Int) := by omega
      have HNA : Hid (cs.any (offL n) = false) := Lib.hid (by
        have := HN.out
        rw [List.take_of_length_le (by have := HCL.out; omega)] at this
        exact this)
      obtain ⟨w1, hw1⟩ : ∃ w1, w1 = w.drewN q := ⟨_, rfl⟩
      have HB1 : Hid (Below w.heap.size w w1) := Lib.hid (by rw [hw1]; exact ⟨rfl, rfl, rfl, Nat.le_refl _, fun _ _ => rfl⟩)
      rw [← hw1]
      have k01 : w1.cell? ⟨qs, 0, none⟩ = some (.int .i64 (n : Int)) := (HB1.out.cell hlq).trans k0
      clear HN HMY hw1 k0
      go_wp2_with fail
      clear hjl
      obtain ⟨g, hg⟩ : ∃ g, g = w1.heap.size := ⟨_, rfl⟩
      rw [← hg]
      have HG0 : Hid (w.heap.size ≤ g) := Lib.hid (by rw [hg]; exact HB1.out.size)
      have HV0 : Hid (Blk (w1.alloc (.cells (VB n fun _ => false) 4)) g 4 (VB n fun _ => false)) := Lib.hid (by rw [hg]; exact Blk.new _ _ _)
      have HB2 : Hid (Below w.heap.size w (w1.alloc (.cells (VB n fun _ => false) 4))) := Lib.hid (HB1.out.alloc HB1.out.size _)
      obtain ⟨P, hP⟩ : ∃ P : Nat, P = 2 ^ n := ⟨_, rfl⟩
      have hP30 : P ≤ 1073741824 := by rw [hP]; exact Nat.pow_le_pow_right (by omega) (show n ≤ 30 from hn)
      have hPw : IntKind.u64.wrap ((2 : Int) ^ n) = (P : Int) := by
        have e : ((2 : Int) ^ n) = (P : Int) := by rw [hP]; push_cast; rfl
        rw [e, u64_w]
        omega
      have HPE := Lib.hid hP
      clear hg HB1 hmk hP
      go_loopw [9] (fun s wr => ∃ (k : Nat) (f : Nat → Bool), s = .int .u64 (k : Int) ∧ k ≤ P ∧ Hid (∀ i, i < k → mod L cs (vec n i) = false) ∧ Hid (Blk wr g 4 (VB n f)) ∧ Hid (Below w.heap.size w wr)) (fun s _ => P - (match s with | .int _ x => x.toNat | _ => 0))
      case atStart => exact ⟨0, fun _ => false, rfl, Nat.zero_le _, Lib.hid (fun i hi => by omega), HV0, HB2⟩
      case round =>
        obtain ⟨k, f, rfl, hk, HNK, HVB, HBR⟩ := hrel
        clear HV0 HB2 k01
        have c0 : wr.cell? ⟨qs, 0, none⟩ = some (.int .i64 (n : Int)) := (HBR.out.cell hlq).trans (HSB.out.cell 0)
        by_cases hkp : k < P
        · have k1 : (k : Int) < (P : Int) := by omega
          have HF0 : Hid (Blk wr g 4 (VB n (fun u => if u < 0 then vb n k u else f u))) := Lib.hid (by simpa using HVB.out)
          go_wp2_with fail
          go_loopw [42] (fun s wx => ∃ (i : Nat), s = .int .i64 (i : Int) ∧ i ≤ n ∧ Hid (Blk wx g 4 (VB n (fun u => if u < i then vb n k u else f u))) ∧ Hid (Below w.heap.size w wx)) (fun s _ => n - (match s with | .int _ x => x.toNat | _ => 0))
          case atStart => exact ⟨0, rfl, Nat.zero_le _, HF0, HBR⟩
          case round =>
            obtain ⟨i, rfl, hi, HV, HB⟩ := hrel
            by_cases hin : i < n
            · have c0' : wr.cell? ⟨qs, 0, none⟩ = some (.int .i64 (n : Int)) := (HB.out.cell hlq).trans (HSB.out.cell 0)
              have fv : wr.frozen? ⟨g, i, none⟩ = false := HV.out.frozen i
              have kv : ∃ u, wr.cell? ⟨g, i, none⟩ = some u := ⟨_, (HV.out.cell i).trans (VB.get hin)⟩
              obtain ⟨u, kv⟩ := kv
              have i1 : (i : Int) < (n : Int) := by omega
              have i2 : (0 : Int) ≤ (n : Int) - 1 - (i : Int) := by omega
              have hbit := vb_bit (n := n) (k := k) (i := i) (by omega)
              obtain ⟨bv, hbv⟩ : ∃ bv, bv = vb n k i := ⟨_, rfl⟩
              rw [← hbv] at hbit
              have HSV : Hid (Blk (wr.setCell ⟨g, i, none⟩ (.bool bv)) g 4 (VB n (fun u => if u < i + 1 then vb n k u else f u))) := Lib.hid (by
                have := HV.out.set_ i (.bool bv)
                rw [hbv] at this ⊢
                have e := VB.set (n := n) (v := i) (f := fun u => if u < i then vb n k u else f u) (g := fun u => if u < i + 1 then vb n k u else f u) (fun u hu => by
                  by_cases h : u = i
                  · rw [if_pos h, h]
                  · rw [if_neg h]
                    by_cases h2 : u < i
                    · simp only [if_pos h2, if_pos (show u < i + 1 by omega)]
                    · simp only [if_neg h2, if_neg (show ¬ u < i + 1 by omega)])
                simp only [if_pos (Nat.lt_succ_self i)] at e
                rw [← e]
                exact this)
              have HSB2 : Hid (Below w.heap.size w (wr.setCell ⟨g, i, none⟩ (.bool bv))) := Lib.hid (HB.out.setCell HG0.out _)
              clear hbv HV HB
              go_wp2_with fail
              refine ⟨⟨i + 1, by go_num, by omega, HSV, HSB2⟩, ?_⟩
              show n - ((i : Int) + 1).toNat < n - (i : Int).toNat
              omega
            · have hin' : (i : Int) = (n : Int) := by omega
              have hin2 : i = n := by omega
              have HVF : Hid (Blk wr g 4 (VB n (vb n k))) := Lib.hid (by
                have := HV.out
                rw [hin2, VB.congr (g := vb n k) (fun u hu => by simp only [if_pos hu])] at this
                exact this)
              have HBO : Hid (Bools wr (some ⟨g, 0, none⟩) n (vec n k)) := Lib.hid (VB.bools HVF.out)
              have HRH := Lib.hid (RHoldsC_any qs cb n B L K (some ⟨g, 0, none⟩) n n (vec n k) wr (HSB.out.below HB.out hlq) ((HKK.out.below ⟨HB.out.os, HB.out.tape, HB.out.output, HB.out.size, HB.out.block⟩)) hlen HLL.out HBO.out (by omega))
              obtain ⟨bs, hbs⟩ : ∃ bs, bs = vec n k := ⟨_, rfl⟩
              rw [← hbs] at HBO HRH
              have HBS := Lib.hid hbs
              obtain ⟨hb, hhb⟩ : ∃ hb, hb = holdsL bs L := ⟨_, rfl⟩
              rw [← hhb] at HRH
              have HHB := Lib.hid hhb
              have HL0 : Hid (hb = (hb && (cs.take 0).all (hv bs))) := Lib.hid (by simp)
              clear hin2 HV hbs hhb
              go_wp2_with fail
              go_at_call 31
              refine HRH.out.mono ?_
              rintro e w5 ⟨rfl, rfl⟩
              go_wp2_with fail
              go_loopw [11, 66] (fun a s wx => ∃ (j : Nat) (ab : Bool), a = .bool ab ∧ s = .int .i64 (j : Int) ∧ j ≤ lc ∧ Hid (ab = (hb && (cs.take j).all (hv bs))) ∧ wx = wr) (fun _ s _ => lc - (match s with | .int _ x => x.toNat | _ => 0))
              case atStart => exact ⟨0, hb, rfl, rfl, Nat.zero_le _, HL0, rfl⟩
              case round =>
                obtain ⟨j, ab, rfl, rfl, hj, HAB, hwx⟩ := hrel
                subst hwx
                by_cases hlt : j < lc
                · obtain ⟨b, o, hC, hbl, hcell⟩ := HC.out.2.2 (by omega)
                  obtain ⟨x, hx⟩ : ∃ x, x = cs.getD j 0 := ⟨_, rfl⟩
                  have kx : wr.cell? ⟨b, o + j, none⟩ = some (.int .i64 x) := by rw [hx]; exact (HB.out.cell hbl).trans (hcell j hlt)
                  have hjl : j < cs.length := by have := HCL.out; omega
                  have hxo : Ok x := by rw [hx]; exact HC.out.ok j
                  have HSO := so_any x hxo (some ⟨g, 0, none⟩) n n bs wr HBO.out (by omega)
                  have hst : (hb && (cs.take (j + 1)).all (hv bs)) = (ab && hv bs x) := by rw [all_take _ _ _ hjl, ← Bool.and_assoc, ← HAB.out, hx]
                  obtain ⟨xb, hxb⟩ : ∃ xb, xb = hv bs x := ⟨_, rfl⟩
                  rw [← hxb] at HSO hst
                  have HSO' := Lib.hid HSO
                  have HST := Lib.hid hst
                  have j1 : (j : Int) < (lc : Int) := by omega
                  subst hC
                  clear hcell hx hjl hxo hst hxb hbl HAB HSO
                  cases ab with
                  | false =>
                    go_wp2_with fail
                    refine ⟨⟨j + 1, false, rfl, by go_num, by omega, Lib.hid (by rw [HST.out]; rfl), trivial⟩, ?_⟩
                    show lc - ((j : Int) + 1).toNat < lc - (j : Int).toNat
                    omega
                  | true =>
                    go_wp2_with (go_at_call 75; refine HSO'.out.mono ?_; rintro e w6 ⟨rfl, rfl⟩)
                    refine ⟨⟨j + 1, xb, rfl, by go_num, by omega, Lib.hid (by rw [HST.out, Bool.true_and]), trivial⟩, ?_⟩
                    show lc - ((j : Int) + 1).toNat < lc - (j : Int).toNat
                    omega
                · have hjc : (j : Int) = (lc : Int) := by omega
                  have HAM : Hid (ab = mod L cs bs) := Lib.hid (by rw [HAB.out, List.take_of_length_le (by have := HCL.out; omega), HHB.out]; rfl)
                  clear HAB
                  cases ab with
                  | true =>
                    go_wp2_with fail
                    go_ret2
                    refine ⟨HB.out, some bs, ⟨HNA.out, k, by rw [← HPE.out]; exact hkp, HBS.out, HAM.out.symm, HNK.out⟩, g, rfl, HBO.out, HG0.out⟩
                  | false =>
                    have HNK2 : Hid (∀ i, i < k + 1 → mod L cs (vec n i) = false) := Lib.hid (fun i hi => by
                      rcases Nat.lt_or_ge i k with h | h
                      · exact HNK.out i h
                      · have e : i = k := by omega
                        rw [e, ← HBS.out]; exact HAM.out.symm)
                    go_wp2_with fail
                    refine ⟨⟨k + 1, vb n k, by go_num, by omega, HNK2, HVF, HB⟩, ?_⟩
                    show P - ((k : Int) + 1).toNat < P - (k : Int).toNat
                    omega
        · have hkp' : (k : Int) = (P : Int) := by omega
          have HRES : Hid (FirstIs n L cs none) := Lib.hid (.inr (fun i hi => HNK.out i (by rw [← HPE.out] at hi; omega)))
          clear HNK
          go_wp2_with fail
          go_ret2
          exact ⟨HBR.out, none, HRES.out, rfl⟩
end Go.Proofs.Ytghfelfljblkbaa
