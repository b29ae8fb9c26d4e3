/- Bytes laid on a new disk. -/
import Derived.Test.YtiiegimnnngnnaaLog8
namespace Go.Proofs.Ytiiegimnnngnnaa
open Go.RowKit
set_option linter.unusedVariables false

theorem pad64 (f : Nat → Nat) (a m : Nat) (hf : ∀ k, a + m ≤ k → f k = 0) : splice (noughts 64).toList 0 (((Wl.part f a m).take 64).map fun x => Value.int .u8 ((x : Nat) : Int)) = (Wl.part f a 64).map fun x => Value.int .u8 ((x : Nat) : Int) := by
  apply List.ext_getElem?
  intro j
  have hl : (((Wl.part f a m).take 64).map fun x => Value.int .u8 ((x : Nat) : Int)).length = min 64 m := by rw [List.length_map, List.length_take, Wl.part_len]
  unfold splice
  rw [List.take_zero, List.nil_append, Nat.zero_add, hl]
  rcases Nat.lt_or_ge j (min 64 m) with h | h
  · rw [List.getElem?_append_left (by rw [hl]; exact h), List.getElem?_map, List.getElem?_map, List.getElem?_take, if_pos (by omega), Wl.part_get _ _ _ _ (by omega), Wl.part_get _ _ _ _ (by omega)]
  · rw [List.getElem?_append_right (by rw [hl]; exact h), hl, List.getElem?_drop]
    have hz : ∀ q, (noughts 64).toList[q]? = if q < 64 then some (Value.int .u8 0) else none := fun q => by
      unfold noughts
      rw [List.getElem?_replicate]
    rw [hz]
    rcases Nat.lt_or_ge j 64 with h2 | h2
    · rw [if_pos (by omega), List.getElem?_map, Wl.part_get _ _ _ _ h2, hf (a + j) (by omega)]; rfl
    · rw [if_neg (by omega), List.getElem?_eq_none (by rw [List.length_map, Wl.part_len]; exact h2)]
theorem wpList_copy64 {w : World} {ops : Array Oper} {rest : List Oper} {o : Oper} {a : Act} {Q : Exit → Act → World → Prop} (hgd : o.guard = none) (d s : Operand)
    (ho : o.op = .call { callee := .builtin .copy, args := #[d, s], argTypes := #[22, 22] })
    (g : Nat) (sp : Option Addr) (m sCap : Nat) (hd : a.eval d = .slice (some ⟨g, 0, none⟩) 64 64) (hs : a.eval s = .slice sp m sCap)
    (hg : Blk w g 5 (noughts 64)) (f : Nat → Nat) (p : Nat) (hy : Bytes w sp m (Wl.part f p m)) (hf : ∀ k, p + m ≤ k → f k = 0) (hlt : ∀ k, f k < 256) (B : Nat) (w0 : World) (hb : Below B w0 w) (hBg : B ≤ g)
    (h : ∀ w' v, Hid (Bytes w' (some ⟨g, 0, none⟩) 64 (Wl.part f p 64)) → Hid (Blk w' g 5 ((Wl.part f p 64).map fun x => Value.int .u8 ((x : Nat) : Int)).toArray) → Below B w0 w' → wpList Try.prog ops Q rest (a.put o.dst v) w') :
    wpList Try.prog ops Q (o :: rest) a w := by
  have hn : (((Wl.part f p m).take 64).map fun x => Value.int .u8 ((x : Nat) : Int)).length = Nat.min m 64 := by rw [List.length_map, List.length_take, Wl.part_len]; exact Nat.min_comm _ _
  have hzl : (noughts 64).toList.length = 64 := rfl
  refine wpList_copy_splice hgd d s 22 22 ho 5 Try.underlying22 byte_size _ _ 64 64 m sCap hd hs g 0 (noughts 64).toList 5 (by rw [Array.toArray_toList]; exact hg) _ hn ?_ (by rw [hn, hzl]; have : Nat.min m 64 ≤ 64 := Nat.min_le_right _ _; omega) (bytes_one _) B w0 hb hBg ?_
  · intro h0
    rw [hn] at h0
    have h00 : 0 < m := by have : Nat.min m 64 ≤ m := Nat.min_le_left _ _; omega
    obtain ⟨b, o, rfl, hbl, hsrc⟩ := hy.src h00
    refine ⟨rfl, _, rfl, fun j v hj => hsrc j v ?_⟩
    rw [List.getElem?_map, List.getElem?_take] at hj
    rw [List.getElem?_map]
    split at hj
    · exact hj
    · cases hj
  · intro w2 HG hb2
    have hz8 : Blk w2 g 5 (splice (noughts 64).toList 0 (((Wl.part f p m).take 64).map fun x => Value.int .u8 ((x : Nat) : Int))).toArray := HG
    rw [pad64 f p m hf] at hz8
    exact h w2 _ (Lib.hid (hz8.bytes_ 64 _ (Wl.part_len _ _ _) (Wl.part_lt hlt _ _) (by simp))) (Lib.hid hz8) hb2
theorem bytes_part {w : World} {A : Option Addr} {n : Nat} {bs : List Nat} (h : Bytes w A n bs) : Bytes w A n (Wl.part (fun k => bs.getD k 0) 0 n) := by
  have e : Wl.part (fun k => bs.getD k 0) 0 n = bs := by
    have := Wl.part_of (R := fun k => bs.getD k 0) (i := 0) (l := bs) (fun j hj => by rw [Nat.zero_add])
    rw [h.1] at this
    exact this
  rw [e]; exact h
theorem getD_past {bs : List Nat} {k : Nat} (h : bs.length ≤ k) : bs.getD k 0 = 0 := by
  rw [List.getD_eq_getElem?_getD, List.getElem?_eq_none h]; rfl
/-- A disk on which the first so many bytes are laid. -/
structure Lay (n i : Nat) (f : Nat → Nat) (D : Dk) : Prop where
  n : D.n = n
  down : D.down = false
  fuse : D.fuse = 0
  calls : D.calls ≤ i
  R : ∀ j, j < 64 * i → D.R j = f j
theorem Lay.start (n : Nat) (f : Nat → Nat) : Lay n 0 f (Dk.new n) := ⟨rfl, rfl, rfl, Nat.le_refl _, fun j h => absurd h (by omega)⟩
theorem Lay.tick {n i : Nat} {f : Nat → Nat} {D : Dk} (h : Lay n i f D) : D.tick = { D with calls := D.calls + 1 } := by
  unfold Dk.tick
  rw [if_neg (by rw [h.down]; decide), if_pos h.fuse]
theorem Lay.write {n i : Nat} {f : Nat → Nat} {D : Dk} (h : Lay n i f D) (hi : i < n) : Lay n (i + 1) f (D.write (i : Int) (Wl.part f (64 * i) 64)) := by
  have e : D.write (i : Int) (Wl.part f (64 * i) 64) = { D.tick with R := Dk.lay D.R (i : Int).toNat (fun k => (Wl.part f (64 * i) 64).getD k 0) } := by
    unfold Dk.write
    rw [if_pos]
    rw [h.down]
    unfold Dk.may
    rw [Wl.part_len, decide_eq_true ⟨by omega, by have := h.n; omega⟩]; rfl
  rw [e, h.tick]
  refine ⟨h.n, h.down, h.fuse, by have := h.calls; show D.calls + 1 ≤ i + 1; omega, fun j hj => ?_⟩
  show Dk.lay D.R (i : Int).toNat (fun k => (Wl.part f (64 * i) 64).getD k 0) j = f j
  unfold Dk.lay
  rw [Int.toNat_natCast]
  by_cases hc : 64 * i ≤ j
  · rw [if_pos ⟨hc, by omega⟩]
    show (Wl.part f (64 * i) 64).getD (j - 64 * i) 0 = f j
    rw [Wl.part_getD _ _ _ _ (by omega)]
    congr 1; omega
  · rw [if_neg (fun hh => hc hh.1)]
    exact h.R j (by omega)
theorem Lay.flush {n i : Nat} {f : Nat → Nat} {D : Dk} (h : Lay n i f D) : D.flush.n = n ∧ D.flush.down = false ∧ D.flush.fuse = 0 ∧ D.flush.calls ≤ i + 1 ∧ ∀ j, j < 64 * i → D.flush.R j = f j := by
  have e : D.flush = { D.tick with S := D.R } := by
    unfold Dk.flush
    rw [if_neg]
    rw [h.tick]
    show ¬ D.down = true
    rw [h.down]; decide
  rw [e, h.tick]
  exact ⟨h.n, h.down, h.fuse, by have := h.calls; show D.calls + 1 ≤ i + 1; omega, h.R⟩
set_option maxRecDepth 100000 in
set_option maxHeartbeats 1000000 in
theorem laid_any (A : Option Addr) (l c n : Nat) (f : Nat → Nat) (w : World) (hy : Bytes w A l (Wl.part f 0 l)) (hlt : ∀ k, f k < 256) (hf : ∀ k, l ≤ k → f k = 0) (hl0 : 0 < l) (hlc : l ≤ c) (hc : c ≤ maxLen) (hn : n = (l + 63) / 64) (hn4 : n ≤ 4096) :
    Calls Try.prog 54 #[.slice A l c] w fun e w' => ∃ p r s D, e = .returned (.pointer (some ⟨p, 0, none⟩)) ∧ DiskAt w' p r s n n D ∧ D.n = n ∧ D.down = false ∧ D.fuse = 0 ∧ D.calls ≤ n + 1 ∧ (∀ j, j < 64 * n → D.R j = f j) ∧
      Below w.heap.size w w' ∧ w.heap.size ≤ p ∧ w.heap.size ≤ r ∧ w.heap.size ≤ s := by
  obtain ⟨g, o, rfl, hg, _⟩ := hy.2.2 hl0
  have HY := Lib.hid hy
  have HF := Lib.hid hf
  have HLT := Lib.hid hlt
  have HC := Lib.hid hc
  have e1 : ((l : Int) + 64 - 1) / 64 = (n : Int) := by omega
  have hl2 : l ≤ 262144 := by omega
  have HN := Lib.hid (New_any (n : Int) n (by omega) (by omega) (by omega) w)
  have hmk : ∀ W : World, (Instr.makeSlice 22 (.int .i64 64) (.int .i64 64)).run Try.prog W = .ok (.slice (some ⟨W.heap.size, 0, none⟩) 64 64) (W.alloc (.cells (noughts 64) 5)) := make_bytes 64 (by omega)
  have hln : 64 * n < l + 64 ∧ l ≤ 64 * n := by omega
  have hcl : (l : Int) ≤ (c : Int) := by omega
  clear hy hf hlt hn hc
  go_enter Try.func54, Try.ntmps54
  go_wp2_with (go_at_call 30; rw [e1]; refine HN.out.mono ?_; rintro e w1 ⟨p, r, s, rfl, hd1, hb1, hp, hr, hs⟩; have HD1 := Lib.hid hd1; have HB1 := Lib.hid hb1; clear hd1 hb1)
  go_loopw [15] (fun t wr => ∃ (i : Nat) (D : Dk), t = .int .i64 (i : Int) ∧ i ≤ n ∧ Hid (Lay n i f D) ∧ Hid (DiskAt wr p r s n n D) ∧ Hid (Below w.heap.size w wr)) (fun t _ => n - (match t with | .int _ x => x.toNat | _ => 0))
  case atStart => exact ⟨0, Dk.new n, rfl, Nat.zero_le _, Lib.hid (Lay.start n f), HD1, HB1⟩
  case round =>
    obtain ⟨i, D, rfl, hi, HL, HD, HB⟩ := hrel
    by_cases hlt : i < n
    · obtain ⟨gb, hgb⟩ : ∃ gb, gb = wr.heap.size := ⟨_, rfl⟩
      obtain ⟨W2, hW2⟩ : ∃ W2, W2 = wr.alloc (.cells (noughts 64) 5) := ⟨_, rfl⟩
      have hwg : w.heap.size ≤ gb := by rw [hgb]; exact HB.out.size
      have hb2 : Below gb wr W2 := by rw [hgb, hW2]; exact (Below.refl _ _).alloc (Nat.le_refl _) _
      have hZ : Blk W2 gb 5 (noughts 64) := by rw [hgb, hW2]; exact Blk.new _ _ _
      have hB2 : Below w.heap.size w W2 := HB.out.trans (hb2.mono hwg)
      have hsz : gb < W2.heap.size := hZ.lt
      have hlt2 := HD.out.lt
      have i1 : (64 * i : Int) ≤ (l : Int) := by omega
      have i2 : (0 : Int) ≤ 64 * (i : Int) := by omega
      have hsub : Bytes W2 (some ⟨g, o + i * 64, none⟩) (l - i * 64) (Wl.part f (64 * i) (l - i * 64)) := by
        have := part_at (HY.out.below hB2) (64 * i) (l - 64 * i) (by omega)
        rw [Nat.zero_add, Nat.mul_comm 64 i] at this
        rw [Nat.mul_comm 64 i]
        exact this
      have HSUB := Lib.hid hsub
      have HZ := Lib.hid hZ
      have Hb2 := Lib.hid hb2
      have HF2 : Hid (∀ k, 64 * i + (l - i * 64) ≤ k → f k = 0) := Lib.hid (fun k hk => HF.out k (by omega))
      clear hsub hZ hB2 hb2 HF
      subst hgb hW2
      go_wp2_with (refine wpList_copy64 rfl (.tmp 19) (.tmp 23) rfl wr.heap.size _ (l - i * 64) (c - i * 64) rfl rfl HZ.out f (64 * i) HSUB.out HF2.out HLT.out wr.heap.size wr Hb2.out (Nat.le_refl _) ?_; intro w3 v3 HY3 _ hb3; have HB3 := Lib.hid (HB.out.trans (hb3.mono HB.out.size)); have HD3 := Lib.hid (HD.out.below hb3); clear hb3 HZ HSUB Hb2)
      go_at_call 34
      refine (Write_any p r s n n D (i : Int) _ 64 64 _ w3 HD3.out HY3.out (fun g' o' h _ => by simp only [Option.some.injEq, Addr.mk.injEq, and_true] at h; obtain ⟨rfl, rfl⟩ := h; unfold dT; omega) (by have := HL.out.calls; omega)).mono ?_
      rintro e w4 ⟨rfl, hd4, hu4⟩
      have HD4 := Lib.hid hd4
      have HB4 := Lib.hid (HB3.out.trans (hu4.below (fun k hk => by unfold dT at hk; omega) HB3.out.size))
      clear hd4 hu4
      go_wp2_with fail
      refine ⟨⟨i + 1, _, by go_num, by omega, Lib.hid (HL.out.write hlt), HD4, HB4⟩, ?_⟩
      show n - ((i : Int) + 1).toNat < n - (i : Int).toNat
      omega
    · obtain rfl : i = n := by omega
      have HFL := Lib.hid (Flush_any p r s i i D wr HD.out (by have := HL.out.calls; omega))
      have hlt2 := HD.out.lt
      go_wp2_with (go_at_call 36; refine HFL.out.mono ?_; rintro e w4 ⟨rfl, hd4, hu4⟩; have HD4 := Lib.hid hd4; have HB4 := Lib.hid (HB.out.trans (hu4.below (fun k hk => by unfold dT at hk; omega) HB.out.size)); clear hd4 hu4)
      go_ret
      obtain ⟨f1, f2, f3, f4, f5⟩ := HL.out.flush
      exact ⟨p, r, s, _, rfl, HD4.out, f1, f2, f3, f4, f5, HB4.out, hp, hr, hs⟩
end Go.Proofs.Ytiiegimnnngnnaa
