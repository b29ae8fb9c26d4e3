/- The reference: Models. -/
import Derived.Test.YtghfelfljblkbaaCnt1
namespace Go.Proofs.Ytghfelfljblkbaa
open Go.RowKit Go.Sort
set_option linter.unusedVariables false

/-- The k-th model, as Models counts. -/
def vbR (k i : Nat) : Bool := k / 2 ^ i % 2 == 1
def vecR (n k : Nat) : List Bool := (List.range n).map (vbR k)
theorem vbR_bit {k i : Nat} (hk : k < 18446744073709551616) : (bits BinOp.and IntKind.u64 ((k : Int) / 2 ^ i) 1 == 1) = vbR k i := vb_bit (n := i + 1) (k := k) (i := 0) hk
theorem cnt_pair (P : Nat → Bool) : ∀ m, Ct.cnt P 0 (2 * m) = Ct.cnt (fun k => P (2 * k)) 0 m + Ct.cnt (fun k => P (2 * k + 1)) 0 m
  | 0 => rfl
  | m + 1 => by
    have e : 2 * (m + 1) = 2 * m + 1 + 1 := by omega
    rw [e]
    show (Ct.cnt P 0 (2 * m) + (if P (0 + 2 * m) then 1 else 0)) + (if P (0 + (2 * m + 1)) then 1 else 0) = (Ct.cnt _ 0 m + (if P (2 * (0 + m)) then 1 else 0)) + (Ct.cnt _ 0 m + (if P (2 * (0 + m) + 1) then 1 else 0))
    rw [cnt_pair P m, Nat.zero_add, Nat.zero_add, Nat.zero_add]
    omega
theorem vec_two (n k : Nat) (b : Bool) : vec (n + 1) (2 * k + b.toNat) = vec n k ++ [b] := by
  have hb : b.toNat ≤ 1 := by cases b <;> decide
  unfold vec
  rw [List.range_succ, List.map_append]
  congr 1
  · refine List.map_congr_left fun i hi => ?_
    have := List.mem_range.1 hi
    unfold vb
    have e1 : n + 1 - 1 - i = (n - 1 - i) + 1 := by omega
    rw [e1, Nat.pow_succ, Nat.mul_comm (2 ^ (n - 1 - i)) 2, ← Nat.div_div_eq_div_mul, show (2 * k + b.toNat) / 2 = k by omega]
  · rw [List.map_singleton]
    congr 1
    unfold vb
    rw [show n + 1 - 1 - n = 0 by omega, Nat.pow_zero, Nat.div_one]
    cases b <;> simp <;> omega
theorem vecR_low {n k : Nat} (hk : k < 2 ^ n) : vecR (n + 1) k = vecR n k ++ [false] := by
  unfold vecR
  rw [List.range_succ, List.map_append, List.map_singleton]
  congr 2
  unfold vbR
  rw [Nat.div_eq_of_lt hk]; rfl
theorem vecR_high {n k : Nat} (hk : k < 2 ^ n) : vecR (n + 1) (2 ^ n + k) = vecR n k ++ [true] := by
  unfold vecR
  rw [List.range_succ, List.map_append, List.map_singleton]
  congr 1
  · refine List.map_congr_left fun i hi => ?_
    have hi := List.mem_range.1 hi
    unfold vbR
    have e : 2 ^ n = 2 ^ i * (2 * 2 ^ (n - 1 - i)) := by
      rw [← Nat.pow_succ', ← Nat.pow_add]
      congr 1
      omega
    rw [e, Nat.mul_add_div (Nat.two_pow_pos i), Nat.mul_add_mod]
  · congr 1
    unfold vbR
    rw [Nat.add_div_left _ (Nat.two_pow_pos n), Nat.div_eq_of_lt hk]; rfl
theorem cnt_turn : ∀ (n : Nat) (F : List Bool → Bool), Ct.cnt (fun k => F (vecR n k)) 0 (2 ^ n) = Ct.cnt (fun k => F (vec n k)) 0 (2 ^ n)
  | 0, F => rfl
  | n + 1, F => by
    have e : 2 ^ (n + 1) = 2 ^ n + 2 ^ n := by rw [Nat.pow_succ]; omega
    have e2 : 2 ^ (n + 1) = 2 * 2 ^ n := by rw [Nat.pow_succ]; omega
    have h1 : Ct.cnt (fun k => F (vecR (n + 1) k)) 0 (2 ^ (n + 1)) = Ct.cnt (fun k => F (vecR n k ++ [false])) 0 (2 ^ n) + Ct.cnt (fun k => F (vecR n k ++ [true])) 0 (2 ^ n) := by
      rw [e, Ct.cnt_add]
      congr 1
      · refine Ct.cnt_congr fun i hi => ?_
        simp only [Nat.zero_add]
        rw [vecR_low hi]
      · have : ∀ m, m ≤ 2 ^ n → Ct.cnt (fun k => F (vecR (n + 1) k)) (0 + 2 ^ n) m = Ct.cnt (fun k => F (vecR n k ++ [true])) 0 m := by
          intro m
          induction m with
          | zero => intro _; rfl
          | succ m ih =>
            intro hm
            show Ct.cnt _ _ m + (if F (vecR (n + 1) (0 + 2 ^ n + m)) then 1 else 0) = Ct.cnt _ _ m + (if F (vecR n (0 + m) ++ [true]) then 1 else 0)
            rw [ih (by omega), Nat.zero_add, Nat.zero_add, vecR_high (by omega)]
        exact this _ (Nat.le_refl _)
    have h2 : Ct.cnt (fun k => F (vec (n + 1) k)) 0 (2 ^ (n + 1)) = Ct.cnt (fun k => F (vec n k ++ [false])) 0 (2 ^ n) + Ct.cnt (fun k => F (vec n k ++ [true])) 0 (2 ^ n) := by
      rw [e2, cnt_pair]
      congr 1
      · exact Ct.cnt_congr fun i hi => by rw [← vec_two n (0 + i) false]; rfl
      · exact Ct.cnt_congr fun i hi => by rw [← vec_two n (0 + i) true]; rfl
    rw [h1, h2, cnt_turn n (fun l => F (l ++ [false])), cnt_turn n (fun l => F (l ++ [true]))]
set_option maxRecDepth 100000 in
set_option maxHeartbeats 4000000 in
theorem Models_any (qs cb n : Nat) (B : Option Addr) (K : Nat → Prop) (L : List (List Int)) (w : World) (hsb : Blk w qs 42 #[.int .i64 (n : Int), .slice B L.length cb]) (hK : ClsK w K B L) (hlen : L.length ≤ 5000) (hL : ∀ r ∈ L, r.length ≤ 1048576) (hn : n ≤ 30) :
    Calls Try.prog 60 #[.pointer (some ⟨qs, 0, none⟩)] w fun e w' => e = .returned (.int .i64 ((Ct.cnt (fun k => holdsL (vec n k) L) 0 (2 ^ n) : Nat) : Int)) ∧ Below w.heap.size w w' := by
  have k0 : w.cell? ⟨qs, 0, none⟩ = some (.int .i64 (n : Int)) := hsb.cell 0
  have HSB := Lib.hid hsb
  have HKK := Lib.hid hK
  have HLL := Lib.hid hL
  have hmk := make_bools n (by omega)
  have hlq := hsb.lt
  obtain ⟨P, hP⟩ : ∃ P : Nat, P = 2 ^ n := ⟨_, rfl⟩
  have hP30 : P ≤ 1073741824 := by rw [hP]; exact Nat.pow_le_pow_right (by omega) (show n ≤ 30 from hn)
  have hPw : IntKind.u64.wrap ((2 : Int) ^ n) = (P : Int) := by
    have e : ((2 : Int) ^ n) = (P : Int) := by rw [hP]; push_cast; rfl
    rw [e, u64_w]
    omega
  obtain ⟨Q, hQ⟩ : ∃ Q : Nat → Bool, Q = fun k => holdsL (vecR n k) L := ⟨_, rfl⟩
  have hturn : Ct.cnt (fun k => holdsL (vecR n k) L) 0 (2 ^ n) = Ct.cnt (fun k => holdsL (vec n k) L) 0 (2 ^ n) := cnt_turn n (fun l => holdsL l L)
  rw [← hturn, ← hP, ← hQ]
  have HQ : Hid (∀ k, Q k = holdsL (vecR n k) L) := Lib.hid (fun k => by rw [hQ])
  clear hsb hK hL hP hQ hturn
  go_enter Try.func60, Try.ntmps60
  go_wp2_with fail
  obtain ⟨g, hg⟩ : ∃ g, g = w.heap.size := ⟨_, rfl⟩
  rw [← hg]
  have HG0 : Hid (w.heap.size ≤ g) := Lib.hid (by rw [hg]; exact Nat.le_refl _)
  have HV0 : Hid (Blk (w.alloc (.cells (VB n fun _ => false) 4)) g 4 (VB n fun _ => false)) := Lib.hid (by rw [hg]; exact Blk.new _ _ _)
  have HB2 : Hid (Below w.heap.size w (w.alloc (.cells (VB n fun _ => false) 4))) := Lib.hid ((Below.refl _ _).alloc (Nat.le_refl _) _)
  clear hg hmk
  go_loopw [3, 5] (fun c s wr => ∃ (k m : Nat) (f : Nat → Bool), c = .int .i64 (m : Int) ∧ s = .int .u64 (k : Int) ∧ k ≤ P ∧ m ≤ k ∧ Hid (m = Ct.cnt Q 0 k) ∧ Hid (Blk wr g 4 (VB n f)) ∧ Hid (Below w.heap.size w wr)) (fun _ s _ => P - (match s with | .int _ x => x.toNat | _ => 0))
  case atStart => exact ⟨0, 0, fun _ => false, rfl, rfl, Nat.zero_le _, Nat.le_refl _, Lib.hid rfl, HV0, HB2⟩
  case round =>
    obtain ⟨k, m, f, rfl, rfl, hk, hm, HM, HVB, HBR⟩ := hrel
    clear HV0 HB2 k0
    have c0 : wr.cell? ⟨qs, 0, none⟩ = some (.int .i64 (n : Int)) := (HBR.out.cell hlq).trans (HSB.out.cell 0)
    by_cases hkp : k < P
    · have k1 : (k : Int) < (P : Int) := by omega
      have HF0 : Hid (Blk wr g 4 (VB n (fun u => if u < 0 then vbR k u else f u))) := Lib.hid (by simpa using HVB.out)
      go_wp2_with fail
      go_loopw [24] (fun s wx => ∃ (i : Nat), s = .int .i64 (i : Int) ∧ i ≤ n ∧ Hid (Blk wx g 4 (VB n (fun u => if u < i then vbR k u else f u))) ∧ Hid (Below w.heap.size w wx)) (fun s _ => n - (match s with | .int _ x => x.toNat | _ => 0))
      case atStart => exact ⟨0, rfl, Nat.zero_le _, HF0, HBR⟩
      case round =>
        obtain ⟨i, rfl, hi, HV, HB⟩ := hrel
        by_cases hin : i < n
        · have fv : wr.frozen? ⟨g, i, none⟩ = false := HV.out.frozen i
          have kv : ∃ u, wr.cell? ⟨g, i, none⟩ = some u := ⟨_, (HV.out.cell i).trans (VB.get hin)⟩
          obtain ⟨u, kv⟩ := kv
          have i1 : (i : Int) < (n : Int) := by omega
          have i2 : (0 : Int) ≤ (n : Int) - 1 - (i : Int) := by omega
          have hbit := vbR_bit (k := k) (i := i) (by omega)
          obtain ⟨bv, hbv⟩ : ∃ bv, bv = vbR k i := ⟨_, rfl⟩
          rw [← hbv] at hbit
          have HSV : Hid (Blk (wr.setCell ⟨g, i, none⟩ (.bool bv)) g 4 (VB n (fun u => if u < i + 1 then vbR k u else f u))) := Lib.hid (by
            have := HV.out.set_ i (.bool bv)
            rw [hbv] at this ⊢
            have e := VB.set (n := n) (v := i) (f := fun u => if u < i then vbR k u else f u) (g := fun u => if u < i + 1 then vbR k u else f u) (fun u hu => by
              by_cases h : u = i
              · rw [if_pos h, h]
              · rw [if_neg h]
                by_cases h2 : u < i
                · simp only [if_pos h2, if_pos (show u < i + 1 by omega)]
                · simp only [if_neg h2, if_neg (show ¬ u < i + 1 by omega)])
            simp only [if_pos (Nat.lt_succ_self i)] at e
            rw [← e]
            exact this)
          have HSB2 : Hid (Below w.heap.size w (wr.setCell ⟨g, i, none⟩ (.bool bv))) := Lib.hid (HB.out.setCell HG0.out _)
          clear hbv HV HB
          go_wp2_with fail
          refine ⟨⟨i + 1, by go_num, by omega, HSV, HSB2⟩, ?_⟩
          show n - ((i : Int) + 1).toNat < n - (i : Int).toNat
          omega
        · have hin' : ¬ (i : Int) < (n : Int) := by omega
          have hin2 : i = n := by omega
          have HVF : Hid (Blk wr g 4 (VB n (vbR k))) := Lib.hid (by
            have := HV.out
            rw [hin2, VB.congr (g := vbR k) (fun u hu => by simp only [if_pos hu])] at this
            exact this)
          have HBO : Hid (Bools wr (some ⟨g, 0, none⟩) n (vecR n k)) := Lib.hid (VB.bools HVF.out)
          have HRH := RHoldsC_any qs cb n B L K (some ⟨g, 0, none⟩) n n (vecR n k) wr (HSB.out.below HB.out hlq) ((HKK.out.below ⟨HB.out.os, HB.out.tape, HB.out.output, HB.out.size, HB.out.block⟩)) hlen HLL.out HBO.out (by omega)
          rw [← HQ.out k] at HRH
          obtain ⟨hb, hhb⟩ : ∃ hb, hb = Q k := ⟨_, rfl⟩
          rw [← hhb] at HRH
          have HRHH := Lib.hid HRH
          have HHB := Lib.hid hhb
          clear hin2 HV hhb HRH
          cases hb with
          | true =>
            have HM2 : Hid (m + 1 = Ct.cnt Q 0 (k + 1)) := Lib.hid (by
              show _ = Ct.cnt Q 0 k + _
              rw [Nat.zero_add, ← HHB.out, ← HM.out]; rfl)
            go_wp2_with fail
            go_at_call 31
            refine HRHH.out.mono ?_
            rintro e w5 ⟨rfl, rfl⟩
            go_wp2_with fail
            refine ⟨⟨k + 1, m + 1, vbR k, by go_num, by go_num, by omega, by omega, HM2, HVF, HB⟩, ?_⟩
            show P - ((k : Int) + 1).toNat < P - (k : Int).toNat
            omega
          | false =>
            have HM2 : Hid (m = Ct.cnt Q 0 (k + 1)) := Lib.hid (by
              show _ = Ct.cnt Q 0 k + _
              rw [Nat.zero_add, ← HHB.out, ← HM.out]; rfl)
            go_wp2_with fail
            go_at_call 31
            refine HRHH.out.mono ?_
            rintro e w5 ⟨rfl, rfl⟩
            go_wp2_with fail
            refine ⟨⟨k + 1, m, vbR k, rfl, by go_num, by omega, by omega, HM2, HVF, HB⟩, ?_⟩
            show P - ((k : Int) + 1).toNat < P - (k : Int).toNat
            omega
    · have hkp' : ¬ (k : Int) < (P : Int) := by omega
      have hkP : k = P := by omega
      have HRES : Hid (m = Ct.cnt Q 0 P) := Lib.hid (by rw [← hkP]; exact HM.out)
      clear HM hkP
      go_wp2_with fail
      go_ret
      exact ⟨by rw [HRES.out]; rfl, HBR.out⟩
end Go.Proofs.Ytghfelfljblkbaa
