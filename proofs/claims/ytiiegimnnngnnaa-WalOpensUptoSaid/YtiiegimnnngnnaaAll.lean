/- All bytes of a disk: the law's own, the reference's. -/
import Derived.Test.YtiiegimnnngnnaaLog8
import Derived.Test.YtiiegimnnngnnaaRef2
namespace Go.Proofs.Ytiiegimnnngnnaa
open Go.RowKit
set_option linter.unusedVariables false

set_option maxRecDepth 100000 in
set_option maxHeartbeats 1000000 in
theorem all_any (p r s cr cs : Nat) (D : Dk) (w : World) (h : DiskAt w p r s cr cs D) (hd : D.down = false) :
    Calls Try.prog 55 #[.pointer (some ⟨p, 0, none⟩)] w fun e w' => ∃ v, e = .returned v ∧ Own w' w.heap.size v (Wl.part D.R 0 (64 * D.n)) ∧ Below w.heap.size w w' := by
  obtain ⟨i0, hi0, hz0, hz1, hz2⟩ := info_parts byte_row
  have HR := Lib.hid h.ok.R
  have hn4 := h.ok.n
  have HL := Lib.hid (Len_any p r s cr cs D w h)
  have HRD := Lib.hid (fun (i : Nat) (hi : i < D.n) (W : World) (hW : Below w.heap.size w W) => Read_ok p r s cr cs D i W (h.below hW) hd hi)
  obtain ⟨n, hn⟩ : ∃ n, n = D.n := ⟨_, rfl⟩
  rw [← hn] at hn4
  simp only [← hn] at HL HRD ⊢
  clear h hd hn
  go_enter Try.func55, Try.ntmps55
  go_wp2_with (go_at_call 32; refine HL.out.mono ?_; rintro e w1 ⟨rfl, rfl⟩)
  go_loopw [3, 9] (fun a t wr => ∃ (i m : Nat) (A : Option Addr) (c : Nat), a = .slice A m c ∧ t = .int .i64 i ∧ Hid (m = 64 * i) ∧ Hid (wr.ownsRow w.heap.size 5 1 (.slice A m c) m ((Wl.part D.R 0 (64 * i)).map fun x => Value.int .u8 ((x : Nat) : Int))) ∧ Hid (Below w.heap.size w wr) ∧ i ≤ n ∧ m ≤ 262144) (fun _ t _ => n - (match t with | .int _ x => x.toNat | _ => 0))
  case atStart => exact ⟨0, 0, none, 0, rfl, rfl, Lib.hid rfl, Lib.hid (World.ownsRow_nil _ _ _ _), Lib.hid (Below.refl _ _), Nat.zero_le _, by omega⟩
  case round =>
    obtain ⟨i, m, A, c, rfl, rfl, HM, HO, HB, hi, hm⟩ := hrel
    by_cases hlt : i < n
    · have hr := HRD.out i hlt wr HB.out
      have HR2 := Lib.hid hr
      clear hr
      go_wp2_with fail
      go_at_call 31
      refine HR2.out.mono ?_
      rintro e w4 ⟨v4, rfl, ho4, hb4⟩
      have HB4 := Lib.hid (HB.out.trans (hb4.mono HB.out.size))
      obtain ⟨A4, c4, rfl, hy4, _⟩ := ho4.bytes (Wl.part_lt HR.out _ _)
      rw [Wl.part_len] at hy4
      have HY4 := Lib.hid hy4
      have HO4 := Lib.hid (own_later HO.out hb4)
      have hm2 : m + 64 ≤ 262144 := by have := HM.out; omega
      rw [show (Wl.part D.R (64 * i) 64).length = 64 from Wl.part_len _ _ _]
      clear ho4 hb4 hy4
      go_wp2_with (at_builtin; refine wpList_append_any _ rfl (.tmp 18) (.tmp 19) _ rfl w.heap.size 5 i0 _ 1 1 Try.underlying22 hi0 hz0 hz1 hz2 rfl (by omega) _ m _ rfl HO4.out w4.heap.size A4 64 c4 _ rfl HY4.out.reads (bytes_one _) (by unfold maxLen; omega) (by omega) HB4.out.size ?_; intro v5 w5 hown5 hg5 hat5; have HW5 := Lib.hid (HB4.out.grown hg5 HB4.out.size (fun k hk => (HO4.out.lt k hk).1)); rw [← List.map_append] at hown5; have HO5 := Lib.hid hown5; obtain ⟨A5, c5, rfl⟩ := own_shape hown5; clear hown5 hg5 hat5)
      have HO6 : Hid (w5.ownsRow w.heap.size 5 1 (.slice A5 (m + 64) c5) (m + 64) ((Wl.part D.R 0 (64 * (i + 1))).map fun x => Value.int .u8 ((x : Nat) : Int))) := Lib.hid (by
        have e := Wl.part_app D.R 0 (64 * i) 64
        rw [Nat.zero_add] at e
        rw [show 64 * (i + 1) = 64 * i + 64 by omega, e]
        exact HO5.out)
      refine ⟨⟨i + 1, m + 64, A5, c5, rfl, by go_num, Lib.hid (by have := HM.out; omega), HO6, HW5, by omega, hm2⟩, ?_⟩
      show n - ((i : Int) + 1).toNat < n - (i : Int).toNat
      omega
    · have hin : i = n := by omega
      have HIN := Lib.hid hin
      clear hin
      go_wp2_with fail
      go_ret
      refine ⟨_, rfl, ?_, HB.out⟩
      exact ownsRow_cast HO.out (by rw [Wl.part_len, ← HIN.out, HM.out]) (by rw [← HIN.out])
set_option maxRecDepth 100000 in
set_option maxHeartbeats 1000000 in
theorem RefArea_any (w : World) (T : Nat → Prop) (m : Nat) (A B : Option Addr) (cA cB : Nat) (D : Dk) (k : Nat) (h : RefAt w T m A B cA cB D) (hk : k ≤ D.n) (hn : D.n ≤ 4096) :
    Calls Try.prog 60 #[.pointer (some ⟨m, 0, none⟩), .int .i64 0, .int .i64 (k : Int)] w fun e w' => ∃ v, e = .returned v ∧ Own w' w.heap.size v (Wl.part D.R 0 (64 * k)) ∧ Below w.heap.size w w' := by
  obtain ⟨i0, hi0, hz0, hz1, hz2⟩ := info_parts byte_row
  have hcell : ∀ W, Below w.heap.size w W → ∀ i, i < k → ∃ r g o c, A = some ⟨r, 0, none⟩ ∧ W.cell? ⟨m, 0, none⟩ = some (.slice (some ⟨r, 0, none⟩) D.n cA) ∧ W.cell? ⟨r, i, none⟩ = some (.slice (some ⟨g, o, none⟩) 64 c) ∧ Bytes W (some ⟨g, o, none⟩) 64 (D.sector i) := fun W hW i hi => by
    obtain ⟨r, C, hA, hb, hs, ht, hrow⟩ := h.now (by omega)
    obtain ⟨v, hv, g, o, c, rfl, hc1, hc2, hby, hg⟩ := hrow i (by omega)
    have c0 : w.cell? ⟨m, 0, none⟩ = some (.slice A D.n cA) := h.blk.cell 0
    refine ⟨r, g, o, c, hA, ?_, ?_, hby.below hW⟩
    · rw [← hA]; exact (hW.cell h.blk.lt).trans c0
    · exact (hW.cell hb.lt).trans ((hb.cell i).trans hv)
  have HC := Lib.hid hcell
  obtain ⟨dn, hdn⟩ : ∃ dn, dn = D.n := ⟨_, rfl⟩
  rw [← hdn] at hk hn
  simp only [← hdn] at HC
  clear hcell h hdn
  go_enter Try.func60, Try.ntmps60
  go_wp2_with fail
  go_loopw [7, 8] (fun a t wr => ∃ (i n : Nat) (A' : Option Addr) (c : Nat), a = .slice A' n c ∧ t = .int .i64 i ∧ Hid (n = 64 * i) ∧ Hid (wr.ownsRow w.heap.size 5 1 (.slice A' n c) n ((Wl.part D.R 0 (64 * i)).map fun x => Value.int .u8 ((x : Nat) : Int))) ∧ Hid (Below w.heap.size w wr) ∧ i ≤ k ∧ n ≤ 262144) (fun _ t _ => k - (match t with | .int _ x => x.toNat | _ => 0))
  case atStart => exact ⟨0, 0, none, 0, rfl, rfl, Lib.hid rfl, Lib.hid (World.ownsRow_nil _ _ _ _), Lib.hid (Below.refl _ _), Nat.zero_le _, by omega⟩
  case round =>
    obtain ⟨i, n, A', c, rfl, rfl, HM, HO, HB, hi, hm⟩ := hrel
    by_cases hlt : i < k
    · obtain ⟨rr, g, o, cc, hA, k0, k1, hby⟩ := HC.out wr HB.out i hlt
      have HY := Lib.hid hby
      have i1 : (0 : Int) ≤ (i : Int) := by omega
      have i2 : (i : Int) < (dn : Int) := by omega
      have hm2 : n + 64 ≤ 262144 := by have := HM.out; omega
      have HBs := Lib.hid HB.out.size
      clear hby hA
      go_wp2_with (at_builtin; refine wpList_append_any _ rfl (.tmp 15) (.tmp 22) _ rfl w.heap.size 5 i0 _ 1 1 Try.underlying22 hi0 hz0 hz1 hz2 rfl (by omega) _ n _ rfl HO.out wr.heap.size (some ⟨g, o, none⟩) 64 cc _ rfl HY.out.reads (bytes_one _) (by unfold maxLen; omega) (by omega) HBs.out ?_; intro v5 w5 hown5 hg5 hat5; have HW5 := Lib.hid (HB.out.grown hg5 HB.out.size (fun k hk => (HO.out.lt k hk).1)); rw [← List.map_append] at hown5; have HO5 := Lib.hid hown5; obtain ⟨A5, c5, rfl⟩ := own_shape hown5; clear hown5 hg5 hat5)
      have HO6 : Hid (w5.ownsRow w.heap.size 5 1 (.slice A5 (n + 64) c5) (n + 64) ((Wl.part D.R 0 (64 * (i + 1))).map fun x => Value.int .u8 ((x : Nat) : Int))) := Lib.hid (by
        have e := Wl.part_app D.R 0 (64 * i) 64
        rw [Nat.zero_add] at e
        rw [show 64 * (i + 1) = 64 * i + 64 by omega, e]
        exact HO5.out)
      refine ⟨⟨i + 1, n + 64, A5, c5, rfl, by go_num, Lib.hid (by have := HM.out; omega), HO6, HW5, by omega, hm2⟩, ?_⟩
      show k - ((i : Int) + 1).toNat < k - (i : Int).toNat
      omega
    · have hin : i = k := by omega
      have HIN := Lib.hid hin
      clear hin
      go_wp2_with fail
      go_ret
      refine ⟨_, rfl, ?_, HB.out⟩
      exact ownsRow_cast HO.out (by rw [Wl.part_len, ← HIN.out, HM.out]) (by rw [← HIN.out])
end Go.Proofs.Ytiiegimnnngnnaa
