/- The contracts of package crc and of its reference: each returns the plain law's number and leaves the world as it was. -/
import Derived.Test.YtiiegimnnngnnaaProg
import Derived.Test.YtiiegimnnngnnaaMem
import Derived.Test.YtiiegimnnngnnaaCrcLaw
namespace Go.Proofs.Ytiiegimnnngnnaa
open Go.RowKit
set_option linter.unusedVariables false

theorem half_yes {m : Nat} (hm : m < 4294967296) (h : (bits .and .u32 (m : Int) 1 == 1) = true) : bits .xor .u32 ((m : Int) / 2) 3988292384 = ((CrcLaw.half m : Nat) : Int) := by
  have e := u32_and_nat m 1 hm (by omega)
  rw [show ((1 : Nat) : Int) = 1 from rfl] at e
  rw [e, nat_mask1] at h
  have h2 : m % 2 = 1 := by have := eq_of_beq h; omega
  have x := u32_xor_nat (m / 2) 3988292384 (by omega) (by omega)
  unfold CrcLaw.half
  rw [if_pos h2, ← x]
  rfl
theorem half_no {m : Nat} (hm : m < 4294967296) (h : (bits .and .u32 (m : Int) 1 == 1) = false) : (m : Int) / 2 = ((CrcLaw.half m : Nat) : Int) := by
  have e := u32_and_nat m 1 hm (by omega)
  rw [show ((1 : Nat) : Int) = 1 from rfl] at e
  rw [e, nat_mask1] at h
  have h2 : ¬ m % 2 = 1 := by intro h3; rw [h3] at h; simp at h
  unfold CrcLaw.half
  rw [if_neg h2]; omega

set_option maxHeartbeats 400000 in
theorem entry_any (n : Nat) (w : World) (h1 : n < 4294967296) : Calls Try.prog 61 #[.int .u32 (n : Int)] w fun e w' => e = .returned (.int .u32 ((CrcLaw.ent n : Nat) : Int)) ∧ w = w' := by
  go_enter Try.func61, Try.ntmps61
  go_wp2
  go_loop [0, 4] (fun x i => ∃ k : Nat, k ≤ 8 ∧ x = .int .u32 (CrcLaw.halves k n) ∧ i = .int .i64 k) (fun _ i => 8 - (intOf i).toNat)
  case atStart => exact ⟨0, by omega, rfl, rfl⟩
  case round =>
    obtain ⟨k, hk, rfl, rfl⟩ := hrel
    have hm := CrcLaw.halves_lt h1 k
    have hn : CrcLaw.halves (k + 1) n = CrcLaw.half (CrcLaw.halves k n) := rfl
    have HN := Lib.hid hn
    clear hn
    have HE := Lib.hid (show k = 8 → CrcLaw.halves k n = CrcLaw.ent n from fun h => by rw [h]; rfl)
    generalize CrcLaw.halves k n = m at *
    by_cases hlt : k < 8
    · go_wp2
      · have hb : (bits .and .u32 (m : Int) 1 == 1) = true := by assumption
        have e := half_yes hm hb
        go_round
        case rel => exact ⟨k + 1, by omega, by rw [HN.out, e], by go_num⟩
        case measure => simp [intOf]; omega
      · have hb : (bits .and .u32 (m : Int) 1 == 1) = false := by assumption
        have e := half_no hm hb
        go_round
        case rel => exact ⟨k + 1, by omega, by rw [HN.out, e], by go_num⟩
        case measure => simp [intOf]; omega
    · go_wp2
      go_ret
      exact ⟨ret_int (by rw [HE.out (by omega)]), rfl⟩
theorem entry_int (m : Nat) (w : World) (h1 : m < 4294967296) (n : Int) (hn : n = (m : Int)) : Calls Try.prog 61 #[.int .u32 n] w fun e w' => e = .returned (.int .u32 ((CrcLaw.ent m : Nat) : Int)) ∧ w = w' := by
  subst hn; exact entry_any m w h1

set_option maxHeartbeats 400000 in
theorem Entry_any (n : Nat) (w : World) (h1 : n < 256) : Calls Try.prog 29 #[.int .u8 (n : Int)] w fun e w' => e = .returned (.int .u32 ((CrcLaw.ent n : Nat) : Int)) ∧ w = w' := by
  go_enter Try.func29, Try.ntmps29
  go_wp2
  go_loop [3, 6] (fun x i => ∃ k : Nat, k ≤ 8 ∧ x = .int .u32 (CrcLaw.halves k n) ∧ i = .int .i64 k) (fun _ i => 8 - (intOf i).toNat)
  case atStart => exact ⟨0, by omega, rfl, rfl⟩
  case round =>
    obtain ⟨k, hk, rfl, rfl⟩ := hrel
    have hm := CrcLaw.halves_lt (show n < 4294967296 by omega) k
    have hn : CrcLaw.halves (k + 1) n = CrcLaw.half (CrcLaw.halves k n) := rfl
    have HN := Lib.hid hn
    clear hn
    have HE := Lib.hid (show k = 8 → CrcLaw.halves k n = CrcLaw.ent n from fun h => by rw [h]; rfl)
    generalize CrcLaw.halves k n = m at *
    by_cases hlt : k < 8
    · go_wp2
      · have hb : (bits .and .u32 (m : Int) 1 == 1) = true := by assumption
        have e := half_yes hm hb
        go_round
        case rel => exact ⟨k + 1, by omega, by rw [HN.out, e], by go_num⟩
        case measure => simp [intOf]; omega
      · have hb : (bits .and .u32 (m : Int) 1 == 1) = false := by assumption
        have e := half_no hm hb
        go_round
        case rel => exact ⟨k + 1, by omega, by rw [HN.out, e], by go_num⟩
        case measure => simp [intOf]; omega
    · go_wp2
      go_ret
      exact ⟨ret_int (by rw [HE.out (by omega)]), rfl⟩

theorem inv_bits {s : Nat} (hs : s < 4294967296) : bits .xor .u32 IntKind.u32.max (s : Int) = ((CrcLaw.inv s : Nat) : Int) := by
  have e := u32_xor_nat 4294967295 s (by omega) hs
  unfold CrcLaw.inv
  rw [Nat.xor_comm, ← e]
  rfl
theorem round_bits {c x : Nat} (hc : c < 4294967296) (hx : x < 256) :
    bits .xor .u32 (c : Int) (x : Int) = ((c ^^^ x : Nat) : Int) ∧ bits .and .u32 ((c ^^^ x : Nat) : Int) 255 = (((c ^^^ x) % 256 : Nat) : Int) ∧
      bits .xor .u32 ((CrcLaw.ent ((c ^^^ x) % 256) : Nat) : Int) ((c : Int) / 256) = ((CrcLaw.ent (c ^^^ x) : Nat) : Int) := by
  have h1 : c ^^^ x < 4294967296 := Nat.xor_lt_two_pow (n := 32) hc (by omega)
  refine ⟨u32_xor_nat c x hc (by omega), ?_, ?_⟩
  · have e := u32_and_nat (c ^^^ x) 255 h1 (by omega)
    rw [nat_mask8] at e
    exact e
  · have e := u32_xor_nat (CrcLaw.ent ((c ^^^ x) % 256)) (c / 256) (CrcLaw.ent_lt (by omega)) (by omega)
    rw [CrcLaw.step_prog hx] at e
    exact e
theorem round_bits_ref {c x : Nat} (hc : c < 4294967296) (hx : x < 256) :
    bits .xor .u8 ((c : Int) % 256) (x : Int) = (((c % 256) ^^^ x : Nat) : Int) ∧ (c % 256) ^^^ x < 256 ∧
      bits .xor .u32 ((CrcLaw.ent ((c % 256) ^^^ x) : Nat) : Int) ((c : Int) / 256) = ((CrcLaw.ent (c ^^^ x) : Nat) : Int) := by
  have h1 : (c % 256) ^^^ x < 256 := Nat.xor_lt_two_pow (n := 8) (by omega) hx
  refine ⟨u8_xor_nat (c % 256) x (by omega) hx, h1, ?_⟩
  have e := u32_xor_nat (CrcLaw.ent ((c % 256) ^^^ x)) (c / 256) (CrcLaw.ent_lt (by omega)) (by omega)
  rw [CrcLaw.step_ref hx] at e
  exact e

theorem Bytes.run_lt {w : World} {A : Option Addr} {n : Nat} {bs : List Nat} (h : Bytes w A n bs) {c : Nat} (hc : c < 4294967296) (k : Nat) : CrcLaw.run c (bs.take k) < 4294967296 :=
  CrcLaw.run_lt hc _ fun x hx => h.2.1 x (List.mem_of_mem_take hx)

set_option maxHeartbeats 400000 in
theorem More_any (s : Nat) (A : Option Addr) (n cp : Nat) (bs : List Nat) (w : World) (hs : s < 4294967296) (hb : Bytes w A n bs) (hn : n ≤ maxLen) :
    Calls Try.prog 25 #[.int .u32 (s : Int), .slice A n cp] w fun e w' => e = .returned (.int .u32 ((CrcLaw.more s bs : Nat) : Int)) ∧ w = w' := by
  have hi := CrcLaw.inv_lt hs
  have hr := fun k => hb.run_lt hi k
  have HR := Lib.hid hr
  have H0 := inv_bits hs
  have HM := Lib.hid (show CrcLaw.more s bs = CrcLaw.inv (CrcLaw.run (CrcLaw.inv s) bs) from rfl)
  generalize CrcLaw.inv s = c0 at *
  have HB := Lib.hid hb
  clear hb hr
  have hsg : IntKind.u32.signed = false := rfl
  unfold maxLen at hn
  go_enter Try.func25, Try.ntmps25
  go_wp2
  clear H0
  go_loop [5, 12] (fun c i => ∃ k : Nat, k ≤ n ∧ c = .int .u32 (CrcLaw.run c0 (bs.take k)) ∧ i = .int .i64 k) (fun _ i => n - (intOf i).toNat)
  case atStart => exact ⟨0, by omega, rfl, rfl⟩
  case round =>
    obtain ⟨k, hk, rfl, rfl⟩ := hrel
    by_cases hlt : k < n
    · have hc := HR.out k
      obtain ⟨b, o, rfl, hbl, hall⟩ := HB.out.2.2 (by omega)
      have hcell := hall k hlt
      clear hall
      have hx := HB.out.lt k
      have hs1 : CrcLaw.run c0 (bs.take (k + 1)) = CrcLaw.ent (CrcLaw.run c0 (bs.take k) ^^^ bs.getD k 0) := by
        rw [take_snoc bs k 0 (by rw [HB.out.1]; exact hlt), CrcLaw.run_snoc]
      obtain ⟨x, hxe⟩ : ∃ x, bs.getD k 0 = x := ⟨_, rfl⟩
      obtain ⟨c, hce⟩ : ∃ c, CrcLaw.run c0 (bs.take k) = c := ⟨_, rfl⟩
      rw [hxe] at hcell hx hs1
      rw [hce] at hc hs1 ⊢
      have HS := Lib.hid hs1
      clear hs1 hxe hce
      obtain ⟨f1, f2, f3⟩ := round_bits hc hx
      go_wp2_with (go_at_call 61; refine (entry_int ((c ^^^ x) % 256) _ (by omega) _ (by omega)).mono ?_; rintro e w' ⟨rfl, rfl⟩)
      go_round
      case rel => exact ⟨k + 1, by omega, by rw [HS.out], by go_num⟩
      case measure => simp [intOf]; omega
    · have hkn : k = n := by omega
      subst hkn
      have hc := HR.out k
      rw [List.take_of_length_le (by rw [HB.out.1]; omega)] at hc ⊢
      have H1 := inv_bits hc
      go_wp2
      go_ret
      exact ⟨ret_int (by rw [HM.out]), rfl⟩

set_option maxHeartbeats 400000 in
theorem RefMore_any (s : Nat) (A : Option Addr) (n cp : Nat) (bs : List Nat) (w : World) (hs : s < 4294967296) (hb : Bytes w A n bs) (hn : n ≤ maxLen) :
    Calls Try.prog 26 #[.int .u32 (s : Int), .slice A n cp] w fun e w' => e = .returned (.int .u32 ((CrcLaw.more s bs : Nat) : Int)) ∧ w = w' := by
  have hi := CrcLaw.inv_lt hs
  have hr := fun k => hb.run_lt hi k
  have HR := Lib.hid hr
  have H0 := inv_bits hs
  have HM := Lib.hid (show CrcLaw.more s bs = CrcLaw.inv (CrcLaw.run (CrcLaw.inv s) bs) from rfl)
  generalize CrcLaw.inv s = c0 at *
  have HB := Lib.hid hb
  clear hb hr
  have hsg : IntKind.u32.signed = false := rfl
  unfold maxLen at hn
  go_enter Try.func26, Try.ntmps26
  go_wp2
  clear H0
  go_loop [0, 11] (fun c i => ∃ k : Nat, k ≤ n ∧ c = .int .u32 (CrcLaw.run c0 (bs.take k)) ∧ i = .int .i64 k) (fun _ i => n - (intOf i).toNat)
  case atStart => exact ⟨0, by omega, rfl, rfl⟩
  case round =>
    obtain ⟨k, hk, rfl, rfl⟩ := hrel
    by_cases hlt : k < n
    · have hc := HR.out k
      obtain ⟨b, o, rfl, hbl, hall⟩ := HB.out.2.2 (by omega)
      have hcell := hall k hlt
      clear hall
      have hx := HB.out.lt k
      have hs1 : CrcLaw.run c0 (bs.take (k + 1)) = CrcLaw.ent (CrcLaw.run c0 (bs.take k) ^^^ bs.getD k 0) := by
        rw [take_snoc bs k 0 (by rw [HB.out.1]; exact hlt), CrcLaw.run_snoc]
      obtain ⟨x, hxe⟩ : ∃ x, bs.getD k 0 = x := ⟨_, rfl⟩
      obtain ⟨c, hce⟩ : ∃ c, CrcLaw.run c0 (bs.take k) = c := ⟨_, rfl⟩
      rw [hxe] at hcell hx hs1
      rw [hce] at hc hs1 ⊢
      have HS := Lib.hid hs1
      clear hs1 hxe hce
      obtain ⟨f1, f2, f3⟩ := round_bits_ref hc hx
      go_wp2_with (go_at_call 29; refine (Entry_any _ _ f2).mono ?_; rintro e w' ⟨rfl, rfl⟩)
      go_round
      case rel => exact ⟨k + 1, by omega, by rw [HS.out], by go_num⟩
      case measure => simp [intOf]; omega
    · have hkn : k = n := by omega
      subst hkn
      have hc := HR.out k
      rw [List.take_of_length_le (by rw [HB.out.1]; omega)] at hc ⊢
      have H1 := inv_bits hc
      go_wp2
      go_ret
      exact ⟨ret_int (by rw [HM.out]), rfl⟩

theorem Sum_any (A : Option Addr) (n cp : Nat) (bs : List Nat) (w : World) (hb : Bytes w A n bs) (hn : n ≤ maxLen) :
    Calls Try.prog 23 #[.slice A n cp] w fun e w' => e = .returned (.int .u32 ((CrcLaw.sum bs : Nat) : Int)) ∧ w = w' := by
  have H := Lib.hid (More_any 0 A n cp bs w (by omega) hb hn)
  go_enter Try.func23, Try.ntmps23
  go_wp2_with (go_at_call 25; refine H.out.mono ?_; rintro e w' ⟨rfl, rfl⟩)
  go_ret
  exact ⟨rfl, rfl⟩
theorem RefSum_any (A : Option Addr) (n cp : Nat) (bs : List Nat) (w : World) (hb : Bytes w A n bs) (hn : n ≤ maxLen) :
    Calls Try.prog 24 #[.slice A n cp] w fun e w' => e = .returned (.int .u32 ((CrcLaw.sum bs : Nat) : Int)) ∧ w = w' := by
  have H := Lib.hid (RefMore_any 0 A n cp bs w (by omega) hb hn)
  go_enter Try.func24, Try.ntmps24
  go_wp2_with (go_at_call 26; refine H.out.mono ?_; rintro e w' ⟨rfl, rfl⟩)
  go_ret
  exact ⟨rfl, rfl⟩

theorem known : CrcLaw.sum [49, 50, 51, 52, 53, 54, 55, 56, 57] = 3421780262 := by decide +kernel
set_option maxRecDepth 100000 in
theorem awake1 (w : World) : Calls Try.prog 27 #[] w fun e w' => e = .returned (.bool true) ∧ Below w.heap.size w w' := by
  have kc := fun (w : World) (C : Array Value) (n c : Nat) => Lib.run_convert_bytes_const (P := Try.prog) w 22 5 C n c Try.underlying22 Try.underlying5
  have hb := Bytes.of_new w #[.int .u8 49, .int .u8 50, .int .u8 51, .int .u8 52, .int .u8 53, .int .u8 54, .int .u8 55, .int .u8 56, .int .u8 57] 5 (9, 10) 9 [49, 50, 51, 52, 53, 54, 55, 56, 57] rfl (by decide) rfl
  have H := Lib.hid (Sum_any _ 9 9 _ _ hb (by unfold maxLen; omega))
  clear hb
  go_enter Try.func27, Try.ntmps27
  go_wp2_with (go_at_call 23; refine H.out.mono ?_; rw [known]; rintro e w' ⟨rfl, rfl⟩)
  go_ret
  exact ⟨rfl, (Below.refl _ _).alloc (Nat.le_refl _) _⟩
end Go.Proofs.Ytiiegimnnngnnaa
