/- wal: a record's bytes. -/
import Derived.Test.YtiiegimnnngnnaaLog1
import Derived.Test.YtiiegimnnngnnaaZeros
namespace Go.Proofs.Ytiiegimnnngnnaa
open Go.RowKit
set_option linter.unusedVariables false

theorem Own.shape {w : World} {base : Nat} {v : Value} {bs : List Nat} (h : Own w base v bs) : ∃ A c, v = .slice A bs.length c := by
  rcases h.2 with ⟨rfl, hn⟩ | ⟨g, cap, cur, rfl, _⟩
  · exact ⟨none, 0, by rw [hn]⟩
  · exact ⟨_, _, rfl⟩
theorem own_shape {w : World} {base : Nat} {e : TypeId} {size n : Nat} {v : Value} {xs : List Value} (h : w.ownsRow base e size v n xs) : ∃ A c, v = .slice A n c := by
  rcases h.2 with ⟨rfl, hn⟩ | ⟨g, cap, cur, rfl, _⟩
  · exact ⟨none, 0, by rw [hn]⟩
  · exact ⟨_, _, rfl⟩
theorem own_later {w w' : World} {base : Nat} {e : TypeId} {size n : Nat} {v : Value} {xs : List Value} (h : w.ownsRow base e size v n xs) (hb : Below w.heap.size w w') : w'.ownsRow base e size v n xs := by
  refine ⟨h.1, ?_⟩
  rcases h.2 with h2 | ⟨g, cap, cur, hv, hg, hh, h3⟩
  · exact .inl h2
  · exact .inr ⟨g, cap, cur, hv, hg, (hb.block g (Blk.lt hh)).trans hh, h3⟩
theorem Own.later {w w' : World} {base : Nat} {v : Value} {bs : List Nat} (h : Own w base v bs) (hb : Below w.heap.size w w') : Own w' base v bs := own_later h hb
theorem be_lt (k : Nat) : ∀ x ∈ ([] : List Nat) ++ Wl.be32 k, x < 256 := Wl.be32_lt k
theorem two_lt (k j : Nat) : ∀ x ∈ Wl.be32 k ++ Wl.be32 j, x < 256 := fun x hx => by
  rcases List.mem_append.1 hx with h | h
  · exact Wl.be32_lt _ x h
  · exact Wl.be32_lt _ x h
set_option maxRecDepth 100000 in
set_option maxHeartbeats 1000000 in
theorem put_any (A : Option Addr) (n c : Nat) (b : List Nat) (w : World) (hb : Bytes w A n b) (hn : n ≤ 8192) :
    Calls Try.prog 78 #[.slice A n c] w fun e w' => ∃ v, e = .returned v ∧ Own w' w.heap.size v (Wl.bin b) ∧ Below w.heap.size w w' := by
  obtain ⟨i0, hi0, hz0, hz1, hz2⟩ := info_parts byte_row
  have hl := hb.1
  have HB := Lib.hid hb
  have HL := Lib.hid hl
  have HP1 := Lib.hid (put32_any w.heap.size (.slice none 0 0) [] n w (World.ownsRow_nil _ _ _ _) (by omega) (by simp) (Nat.le_refl _))
  have HND := Lib.hid (fun W => Need_nat n W (by omega))
  obtain ⟨kn, hkn⟩ : ∃ kn, kn = Wl.need n := ⟨_, rfl⟩
  have hge := Wl.need_ge hn
  rw [← hkn] at hge
  simp only [← hkn] at HND
  have HKN := Lib.hid hkn
  clear hb hl hkn
  go_enter Try.func78, Try.ntmps78
  go_wp2_with fail
  go_at_call 80
  refine HP1.out.mono ?_
  rintro e w1 ⟨v1, rfl, ho1, hb1⟩
  have HO1 : Hid (Own w1 w.heap.size v1 (Wl.be32 n)) := Lib.hid ho1
  obtain ⟨A1, c1, rfl, hy1, _⟩ := ho1.bytes (be_lt n)
  have HY1 : Hid (Bytes w1 A1 4 (Wl.be32 n)) := Lib.hid hy1
  have HB1 := Lib.hid (HB.out.below hb1)
  have HW1 := Lib.hid hb1
  clear ho1 hy1 hb1
  go_wp2_with fail
  go_at_call 23
  refine (Sum_any A1 4 c1 _ w1 HY1.out (by unfold maxLen; omega)).mono ?_
  rintro e w2 ⟨rfl, rfl⟩
  have hs1 : CrcLaw.sum (Wl.be32 n) < 4294967296 := CrcLaw.more_lt (by omega) _ (Wl.be32_lt n)
  have HM := Lib.hid (More_any (CrcLaw.sum (Wl.be32 n)) A n c b _ hs1 HB1.out (by unfold maxLen; omega))
  clear hs1
  go_wp2_with fail
  go_at_call 25
  refine HM.out.mono ?_
  rintro e w3 ⟨rfl, rfl⟩
  have es : CrcLaw.more (CrcLaw.sum (Wl.be32 n)) b = CrcLaw.sum (Wl.be32 n ++ b) := CrcLaw.more_append 0 _ _
  have hs2 : CrcLaw.sum (Wl.be32 n ++ b) < 4294967296 := by
    rw [← es]; exact CrcLaw.more_lt (CrcLaw.more_lt (by omega) _ (Wl.be32_lt n)) _ HB1.out.2.1
  rw [es]
  have HP2 := Lib.hid (put32_any w.heap.size _ (Wl.be32 n) (CrcLaw.sum (Wl.be32 n ++ b)) _ HO1.out hs2 (by simp [Wl.be32_len]) HW1.out.size)
  clear hs2 es
  go_wp2_with fail
  go_at_call 80
  refine HP2.out.mono ?_
  rintro e w4 ⟨v4, rfl, ho4, hb4⟩
  have HW4 := Lib.hid (HW1.out.trans hb4)
  have HO4 := Lib.hid ho4
  have HB4 := Lib.hid (HB.out.below HW4.out)
  obtain ⟨A4, c4, rfl⟩ := ho4.shape
  have HO4' : Hid (w4.ownsRow w.heap.size 5 1 (.slice A4 8 c4) 8 ((Wl.be32 n ++ Wl.be32 (CrcLaw.sum (Wl.be32 n ++ b))).map fun x => Value.int .u8 ((x : Nat) : Int))) := Lib.hid ho4
  clear ho4 hb4 HO4
  obtain ⟨hd, hhd⟩ : ∃ hd, hd = Wl.be32 n ++ Wl.be32 (CrcLaw.sum (Wl.be32 n ++ b)) := ⟨_, rfl⟩
  rw [← hhd] at HO4'
  have HHD := Lib.hid hhd
  rw [show (Wl.be32 n ++ Wl.be32 (CrcLaw.sum (Wl.be32 n ++ b))).length = 8 from rfl]
  clear hhd
  go_wp2_with (at_builtin; refine wpList_append_any _ rfl (.tmp 14) (.tmp 15) _ rfl w.heap.size 5 i0 _ 1 1 Try.underlying22 hi0 hz0 hz1 hz2 rfl (by omega) _ 8 _ rfl HO4'.out w.heap.size A n c _ rfl (HB.out.reads.below HW4.out) (bytes_one b) (by unfold maxLen; omega) (by omega) HW4.out.size ?_; intro v5 w5 hown5 hg5 hat5; have HW5 := Lib.hid (HW4.out.grown hg5 HW4.out.size (fun k hk => (HO4'.out.lt k hk).1)); rw [← List.map_append] at hown5; have HO5 := Lib.hid hown5; obtain ⟨A5, c5, rfl⟩ := own_shape hown5; clear hown5 hg5 hat5)
  go_at_call 45
  refine (HND.out _).mono ?_
  rintro e w6 ⟨rfl, rfl⟩
  obtain ⟨v7, w7, hr7, ho7, hg7⟩ := run_append_zeros (P := Try.prog) w5 w.heap.size 22 3 22 5 i0 (.int .u8 0) .i64 .i64 Try.underlying22 Try.underlying3 hi0 hz0 hz1 hz2 rfl rfl _ (8 + n) _ HO5.out (by omega) (kn * 64 - (8 + n)) (by omega) HW5.out.size
  have em : ((kn * 64 - (8 + n) : Nat) : Int) = (kn : Int) * 64 - (8 + (n : Int)) := by omega
  rw [em] at hr7
  have HR := Lib.hid hr7
  have HO7 := Lib.hid ho7
  have HG7 := Lib.hid hg7
  clear hr7 ho7 hg7
  go_wp2_with (at_builtin; refine Lib.wpList_append_run _ rfl (.tmp 17) (.tmp 24) _ _ rfl _ _ rfl rfl v7 w7 HR.out ?_)
  go_ret
  refine ⟨v7, rfl, ?_, HW5.out.grown HG7.out HW5.out.size (fun k hk => (HO5.out.lt k hk).1)⟩
  have e1 : Wl.bin b = (hd ++ b) ++ List.replicate (kn * 64 - (8 + n)) 0 := by
    unfold Wl.bin Wl.raw
    rw [HL.out, ← HHD.out, HKN.out, Nat.add_comm n 8]
  have e2 : 8 + n + (kn * 64 - (8 + n)) = (Wl.bin b).length := by
    rw [e1, List.length_append, List.length_append, HHD.out, List.length_append, Wl.be32_len, Wl.be32_len, HL.out, List.length_replicate]
  unfold Own
  refine ownsRow_cast HO7.out e2 ?_
  rw [e1, List.map_append (l₁ := hd ++ b), List.map_replicate]
  rfl
end Go.Proofs.Ytiiegimnnngnnaa
