/- chandlerref4.Trim: the walk. -/
import Derived.Test.YtjkaigfpjebfbaaDoorTail
namespace Go.Proofs.YtjkaigfpjebfbaaDoor
open Go.RowKit Go.Shelf Go.Lib
set_option linter.unusedVariables false

set_option maxRecDepth 100000 in
set_option maxHeartbeats 400000 in
theorem RefTrim_any (S : ByteArray) (w : World) (hs : S.size ≤ 9223372036854775807) :
    Calls Tryd.prog 21 #[.string S] w fun e w' => e = .returned (.string (trimB S)) ∧ w = w' := by
  go_enter Tryd.func21, Tryd.ntmps21
  obtain ⟨wo, rfl⟩ : ∃ wo : World, wo = w := ⟨_, rfl⟩
  go_wp2
  go_loopw [0] (fun v wr => ∃ s : ByteArray, v = .string s ∧ wr = wo ∧ Hid (trimL s = trimL S) ∧ s.size ≤ S.size) (fun v _ => match v with | .string s => s.size | _ => 0)
  case atStart => exact ⟨S, rfl, rfl, Lib.hid rfl, Nat.le_refl _⟩
  case round =>
    obtain ⟨s, rfl, rfl, HS, hle⟩ := hrel
    have hend : trimL s = s → trimR s = trimB S := fun e => by unfold trimB; rw [← HS.out, e]
    have HEND := Lib.hid hend
    clear hend
    by_cases h0 : s.size = 0
    · have HE := Lib.hid (head_nil s h0)
      have h00 : ((s.size : Int)) ≤ 0 := by omega
      clear h0
      go_wp2_with fail
      refine (tail_any s _ (by omega)).mono ?_
      rintro e w1 ⟨rfl, rfl⟩
      rw [HEND.out HE.out]
      go_wp2
      go_ret
      exact ⟨rfl, rfl⟩
    · obtain ⟨n, hn⟩ : ∃ n, s.size = n + 1 := ⟨s.size - 1, by omega⟩
      have hp : (0 : Int) < s.size := by omega
      have hlt : 0 < s.size := by omega
      have hle1 : 1 ≤ s.size := by omega
      cases hb : wB (byteAt s 0) with
      | true =>
        have HE := Lib.hid (head_step s n hn hb)
        have hz := back_size s n hn
        rw [hn] at hz
        have HE2 : Hid (trimL (s.extract 1 (n + 1)) = trimL S) := Lib.hid (by rw [← hn, HE.out, HS.out])
        have HW := Lib.hid (byteAt_get s 0 hlt ▸ hb)
        have HN := Lib.hid hn
        clear hb h0
        go_wp2_with fail
        refine (refWhite_any (s[0]'hlt).toNat _ (UInt8.toNat_lt _)).mono ?_
        rintro e w1 ⟨rfl, rfl⟩
        rw [HW.out]
        go_wp2
        go_roundw
        case rel =>
          exact ⟨s.extract 1 (n + 1), rfl, trivial, HE2, by omega⟩
        case measure =>
          show (s.extract 1 (n + 1)).size < s.size
          omega
      | false =>
        have HE := Lib.hid (head_end s n hn hb)
        have HW := Lib.hid (byteAt_get s 0 hlt ▸ hb)
        clear hb h0
        go_wp2_with fail
        refine (refWhite_any (s[0]'hlt).toNat _ (UInt8.toNat_lt _)).mono ?_
        rintro e w1 ⟨rfl, rfl⟩
        rw [HW.out]
        go_wp2_with fail
        refine (tail_any s _ (by omega)).mono ?_
        rintro e w1 ⟨rfl, rfl⟩
        rw [HEND.out HE.out]
        go_wp2
        go_ret
        exact ⟨rfl, rfl⟩
end Go.Proofs.YtjkaigfpjebfbaaDoor
