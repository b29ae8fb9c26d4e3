/- The reference's records: u32, Record. -/
import Derived.Test.YtiiegimnnngnnaaLog8
namespace Go.Proofs.Ytiiegimnnngnnaa
open Go.RowKit
set_option linter.unusedVariables false

set_option maxRecDepth 100000 in
theorem u32_any (k : Nat) (w : World) (hk : k < 4294967296) :
    Calls Try.prog 73 #[.int .u32 (k : Int)] w fun e w' => ∃ v, e = .returned v ∧ Own w' w.heap.size v (Wl.be32 k) ∧ Below w.heap.size w w' := by
  go_enter Try.func73, Try.ntmps73
  go_wp2_with fail
  go_ret
  refine ⟨_, rfl, ?_, (Below.refl _ _).alloc (Nat.le_refl _) _⟩
  have ho := World.ownsRow_lit (e := 5) (size := 1) (base := w.heap.size) w #[.int .u8 ((k : Int) / 16777216), .int .u8 ((k : Int) / 65536 % 256), .int .u8 ((k : Int) / 256 % 256), .int .u8 ((k : Int) % 256)] 4 (Nat.le_refl _) (by unfold maxLen; omega) rfl
  refine ownsRow_cast ho rfl ?_
  simp only [Wl.be32, List.map_cons, List.map_nil]
  rw [show (((k / 16777216 % 256 : Nat)) : Int) = (k : Int) / 16777216 by omega]
  rfl
theorem bin_of {b : List Nat} {k : Nat} (hb : b.length ≤ 8192) (hk : (Wl.raw b).length + k = 64 * Wl.need b.length) : Wl.bin b = Wl.raw b ++ List.replicate k 0 := by
  unfold Wl.bin
  rw [Wl.raw_len] at hk
  congr 2
  omega
set_option maxRecDepth 100000 in
set_option maxHeartbeats 1000000 in
theorem RefRecord_any (A : Option Addr) (n c : Nat) (b : List Nat) (w : World) (hb : Bytes w A n b) (hn : n ≤ 8192) :
    Calls Try.prog 53 #[.slice A n c] w fun e w' => ∃ v, e = .returned v ∧ Own w' w.heap.size v (Wl.bin b) ∧ Below w.heap.size w w' := by
  obtain ⟨i0, hi0, hz0, hz1, hz2⟩ := info_parts byte_row
  have hl := hb.1
  have HB := Lib.hid hb
  have HL := Lib.hid hl
  have HU := Lib.hid (u32_any n w (by omega))
  have hge := Wl.need_ge hn
  obtain ⟨kn, hkn⟩ : ∃ kn, kn = Wl.need n := ⟨_, rfl⟩
  rw [← hkn] at hge
  have hup : 64 * kn < n + 72 := by rw [hkn]; unfold Wl.need; rw [if_pos hn]; omega
  have HKN := Lib.hid hkn
  clear hb hl hkn
  go_enter Try.func53, Try.ntmps53
  go_wp2_with fail
  go_at_call 73
  refine HU.out.mono ?_
  rintro e w1 ⟨v1, rfl, ho1, hb1⟩
  obtain ⟨A1, c1, rfl, hy1, _⟩ := ho1.bytes (Wl.be32_lt n)
  have HY1 : Hid (Bytes w1 A1 4 (Wl.be32 n)) := Lib.hid hy1
  have HW1 := Lib.hid hb1
  rw [show (Wl.be32 n).length = 4 from rfl]
  clear ho1 hy1 hb1
  go_wp2_with (first
    | (at_builtin; refine wpList_append_any _ rfl (.const (.slice none 0 0)) (.tmp 9) _ rfl w.heap.size 5 i0 _ 1 1 Try.underlying22 hi0 hz0 hz1 hz2 rfl (by omega) _ 0 [] rfl (World.ownsRow_nil _ _ _ _) w1.heap.size A1 4 c1 _ rfl HY1.out.reads (bytes_one _) (by unfold maxLen; omega) (by omega) HW1.out.size ?_; intro v2 w2 hown2 hg2 hat2; have HW2 : Hid (Below w1.heap.size w1 w2) := Lib.hid ((Below.refl _ _).grown hg2 (Nat.le_refl _) (fun k hk => by cases hk)); rw [List.nil_append, Nat.zero_add] at hown2; have HO2 := Lib.hid hown2; obtain ⟨A2, c2, rfl⟩ := own_shape hown2; clear hown2 hg2 hat2)
    | (at_builtin; refine wpList_append_any _ rfl (.const (.slice none 0 0)) (.tmp 11) _ rfl w2.heap.size 5 i0 _ 1 1 Try.underlying22 hi0 hz0 hz1 hz2 rfl (by omega) _ 0 [] rfl (World.ownsRow_nil _ _ _ _) w1.heap.size A1 4 c1 _ rfl (HY1.out.reads.below HW2.out) (bytes_one _) (by unfold maxLen; omega) (by omega) (Nat.le_refl _) ?_; intro v3 w3 hown3 hg3 hat3; have HW3 : Hid (Below w2.heap.size w2 w3) := Lib.hid ((Below.refl _ _).grown hg3 (Nat.le_refl _) (fun k hk => by cases hk)); rw [List.nil_append, Nat.zero_add] at hown3; have HO3 := Lib.hid hown3; obtain ⟨A3, c3, rfl⟩ := own_shape hown3; clear hown3 hg3 hat3)
    | (at_builtin; refine wpList_append_any _ rfl (.tmp 12) (.tmp 13) _ rfl w2.heap.size 5 i0 _ 1 1 Try.underlying22 hi0 hz0 hz1 hz2 rfl (by omega) _ 4 _ rfl HO3.out w.heap.size A n c _ rfl (HB.out.reads.below ((HW1.out.trans (HW2.out.mono HW1.out.size)).trans (HW3.out.mono (Nat.le_trans HW1.out.size HW2.out.size)))) (bytes_one _) (by unfold maxLen; omega) (by omega) HW3.out.size ?_; intro v4 w4 hown4 hg4 hat4; have HW4 : Hid (Below w2.heap.size w2 w4) := Lib.hid (HW3.out.grown hg4 HW3.out.size (fun k hk => (HO3.out.lt k hk).1)); rw [← List.map_append] at hown4; have HO4 := Lib.hid hown4; obtain ⟨A4, c4, rfl⟩ := own_shape hown4; clear hown4 hg4 hat4))
  have hlt4 : ∀ x ∈ Wl.be32 n ++ b, x < 256 := fun x hx => by
    rcases List.mem_append.1 hx with h | h
    · exact Wl.be32_lt _ x h
    · exact HB.out.2.1 x h
  have hlen4 : (Wl.be32 n ++ b).length = 4 + n := by rw [List.length_append, Wl.be32_len, HL.out]
  obtain ⟨A4', c4', hv4, hy4, _⟩ := Own.bytes (w := w4) (base := w2.heap.size) (v := .slice A4 (4 + n) c4) (bs := Wl.be32 n ++ b) (by unfold Own; rw [hlen4]; exact HO4.out) hlt4
  rw [hlen4] at hv4 hy4
  cases hv4
  obtain ⟨s, hs⟩ : ∃ s, s = CrcLaw.sum (Wl.be32 n ++ b) := ⟨_, rfl⟩
  have hs2 : s < 4294967296 := by rw [hs]; exact CrcLaw.more_lt (by omega) _ hlt4
  have HS := Lib.hid hs
  have hq := RefSum_any A4 (4 + n) c4 _ w4 hy4 (by unfold maxLen; omega)
  rw [← hs] at hq
  have HSUM := Lib.hid hq
  have HU2 := Lib.hid (u32_any s w4 hs2)
  have HB4 : Hid (Below w.heap.size w w4) := Lib.hid ((HW1.out.trans (HW2.out.mono HW1.out.size)).trans (HW4.out.mono (Nat.le_trans HW1.out.size HW2.out.size)))
  have HO24 : Hid (w4.ownsRow w.heap.size 5 1 (.slice A2 4 c2) 4 ((Wl.be32 n).map fun x => Value.int .u8 ((x : Nat) : Int))) := Lib.hid (own_later HO2.out HW4.out)
  clear hlt4 hlen4 hy4 hs hs2 hq
  go_at_call 24
  refine HSUM.out.mono ?_
  rintro e w4' ⟨rfl, rfl⟩
  go_wp2_with fail
  go_at_call 73
  refine HU2.out.mono ?_
  rintro e w5 ⟨v5, rfl, ho5, hb5⟩
  obtain ⟨A5, c5, rfl, hy5, _⟩ := ho5.bytes (Wl.be32_lt s)
  have HY5 : Hid (Bytes w5 A5 4 (Wl.be32 s)) := Lib.hid hy5
  have HB5 : Hid (Below w.heap.size w w5) := Lib.hid (HB4.out.trans (hb5.mono HB4.out.size))
  have HO25 := Lib.hid (own_later HO24.out hb5)
  have HSZ5 := Lib.hid HB5.out.size
  rw [show (Wl.be32 s).length = 4 from rfl]
  clear ho5 hy5 hb5 HO24 HU2 HSUM
  go_wp2_with (first
    | (at_builtin; refine wpList_append_any _ rfl (.tmp 10) (.tmp 16) _ rfl w.heap.size 5 i0 _ 1 1 Try.underlying22 hi0 hz0 hz1 hz2 rfl (by omega) _ 4 _ rfl HO25.out w5.heap.size A5 4 c5 _ rfl HY5.out.reads (bytes_one _) (by unfold maxLen; omega) (by omega) HSZ5.out ?_; intro v6 w6 hown6 hg6 hat6; have HB6 : Hid (Below w.heap.size w w6) := Lib.hid (HB5.out.grown hg6 HB5.out.size (fun k hk => (HO25.out.lt k hk).1)); rw [← List.map_append] at hown6; have HO6 := Lib.hid hown6; obtain ⟨A6, c6, rfl⟩ := own_shape hown6; clear hown6 hg6 hat6)
    | (at_builtin; refine wpList_append_any _ rfl (.tmp 17) (.tmp 18) _ rfl w.heap.size 5 i0 _ 1 1 Try.underlying22 hi0 hz0 hz1 hz2 rfl (by omega) _ 8 _ rfl HO6.out w.heap.size A n c _ rfl (HB.out.reads.below HB6.out) (bytes_one _) (by unfold maxLen; omega) (by omega) HB6.out.size ?_; intro v7 w7 hown7 hg7 hat7; have HB7 : Hid (Below w.heap.size w w7) := Lib.hid (HB6.out.grown hg7 HB6.out.size (fun k hk => (HO6.out.lt k hk).1)); rw [← List.map_append] at hown7; have HO7 := Lib.hid hown7; obtain ⟨A7, c7, rfl⟩ := own_shape hown7; clear hown7 hg7 hat7))
  have hraw : Wl.be32 n ++ Wl.be32 s ++ b = Wl.raw b := by unfold Wl.raw; rw [HL.out, ← HS.out]
  rw [hraw] at HO7
  have HO8 : Hid (w7.ownsRow w.heap.size 5 1 (.slice A7 (8 + n) c7) (8 + n) ((Wl.raw b ++ List.replicate 0 0).map fun x => Value.int .u8 ((x : Nat) : Int))) := Lib.hid (by rw [List.replicate_zero, List.append_nil]; exact HO7.out)
  have HRL := Lib.hid (Wl.raw_len b)
  clear hraw HO7 HO6 HO25 HY5 HS HSZ5 HO4 HO3 HO2 HB5 HB6 HB4 HU
  go_loopw [4] (fun a wr => ∃ (m k : Nat) (A' : Option Addr) (c' : Nat), a = .slice A' m c' ∧ Hid (m = 8 + n + k) ∧ Hid (wr.ownsRow w.heap.size 5 1 (.slice A' m c') m ((Wl.raw b ++ List.replicate k 0).map fun x => Value.int .u8 ((x : Nat) : Int))) ∧ Hid (Below w.heap.size w wr) ∧ m ≤ 64 * kn ∧ 64 * kn < m + 64) (fun a _ => 64 * kn - (match a with | .slice _ m _ => m | _ => 0))
  case atStart => exact ⟨8 + n, 0, _, _, rfl, Lib.hid rfl, HO8, HB7, by omega, by omega⟩
  case round =>
    obtain ⟨m, k, A', c', rfl, HM, HO, HBr, hm1, hm2⟩ := hrel
    by_cases hlt : m < 64 * kn
    · have hne : ¬ (m : Int) % 64 = 0 := by omega
      have hne2 : ((m : Int) % 64 == 0) = false := by simpa using hne
      go_wp2_with (at_builtin; refine wpList_append_own _ rfl (.tmp 24) (.tmp 25) 22 rfl w.heap.size 5 i0 (.int .u8 0) 1 1 Try.underlying22 hi0 hz0 hz1 hz2 rfl (by decide) _ m _ rfl (HO.out.alloc _) ⟨wr.heap.size, 0, none⟩ 1 1 [.int .u8 0] rfl rfl (cell_one_new _ _ _) (fun x hx => by simp at hx; subst hx; rfl) (by unfold maxLen; omega) (by omega) (Nat.le_trans HBr.out.size (by simp)) ?_; intro v5 w5 hown5 hg5 hn5; have HOW5 := Lib.hid hown5; have HBW5 : Hid (Below w.heap.size w w5) := Lib.hid ((HBr.out.alloc HBr.out.size _).grown hg5 (by have := HBr.out.size; simp; omega) (fun q hq => (HO.out.lt q hq).1)); obtain ⟨A5, c5, rfl⟩ := own_shape hown5; clear hown5 hg5 hn5)
      have HO6 : Hid (w5.ownsRow w.heap.size 5 1 (.slice A5 (m + 1) c5) (m + 1) ((Wl.raw b ++ List.replicate (k + 1) 0).map fun x => Value.int .u8 ((x : Nat) : Int))) := Lib.hid (ownsRow_cast HOW5.out rfl (by
        rw [List.replicate_succ', ← List.append_assoc, List.map_append (l₁ := Wl.raw b ++ List.replicate k 0)]; rfl))
      refine ⟨⟨m + 1, k + 1, A5, c5, rfl, Lib.hid (by have := HM.out; omega), HO6, HBW5, by omega, by omega⟩, ?_⟩
      show 64 * kn - (m + 1) < 64 * kn - m
      omega
    · have hm3 : m = 64 * kn := by omega
      have he : (m : Int) % 64 = 0 := by omega
      have he2 : ((m : Int) % 64 == 0) = true := by simpa using he
      have HM3 := Lib.hid hm3
      clear hm3
      go_wp2_with fail
      go_ret
      have hbin : Wl.bin b = Wl.raw b ++ List.replicate k 0 := bin_of (by rw [HL.out]; exact hn) (by rw [HRL.out, HL.out, ← HKN.out, ← HM3.out]; have := HM.out; omega)
      refine ⟨_, rfl, ownsRow_cast HO.out ?_ (by rw [hbin]), HBr.out⟩
      rw [hbin, List.length_append, HRL.out, HL.out, List.length_replicate]
      have := HM.out
      omega
end Go.Proofs.Ytiiegimnnngnnaa
