/- wal: Need, the numbers of four bytes. -/
import Derived.Test.YtiiegimnnngnnaaWl2
import Derived.Test.YtiiegimnnngnnaaCrcGoesOnWalk
import Derived.Test.YtiiegimnnngnnaaDisk3
namespace Go.Proofs.Ytiiegimnnngnnaa
open Go.RowKit
set_option linter.unusedVariables false

def needI (i : Int) : Int := if i < 0 then 0 else (Wl.need i.toNat : Int)
theorem need_big {i : Int} (h : 8192 < i) : needI i = 0 := by
  unfold needI Wl.need
  rw [if_neg (by omega), if_neg (by omega)]; rfl
theorem need_small {i : Int} (h0 : 0 ≤ i) (h : i ≤ 8192) : needI i = (i + 71) / 64 := by
  unfold needI Wl.need
  rw [if_neg (by omega), if_pos (by omega)]
  omega
set_option maxRecDepth 100000 in
theorem Need_int (i : Int) (w : World) (hlo : -9223372036854775808 ≤ i) (hhi : i ≤ 9223372036854775807) :
    Calls Try.prog 45 #[.int .i64 i] w fun e w' => e = .returned (.int .i64 (needI i)) ∧ w = w' := by
  by_cases h1 : i < 0
  · have e : needI i = 0 := by unfold needI; rw [if_pos h1]
    rw [e]
    go_enter Try.func45, Try.ntmps45
    go_wp2
    go_ret
    exact ⟨rfl, rfl⟩
  · by_cases h2 : 8192 < i
    · rw [need_big h2]
      go_enter Try.func45, Try.ntmps45
      go_wp2
      go_ret
      exact ⟨rfl, rfl⟩
    · rw [need_small (by omega) (by omega)]
      go_enter Try.func45, Try.ntmps45
      go_wp2
      go_ret
      refine ⟨ret_int ?_, rfl⟩
      omega
set_option maxRecDepth 100000 in
theorem RefNeed_int (i : Int) (w : World) (hlo : -9223372036854775808 ≤ i) (hhi : i ≤ 9223372036854775807) :
    Calls Try.prog 46 #[.int .i64 i] w fun e w' => e = .returned (.int .i64 (needI i)) ∧ w = w' := by
  by_cases h1 : i < 0
  · have e : needI i = 0 := by unfold needI; rw [if_pos h1]
    rw [e]
    go_enter Try.func46, Try.ntmps46
    go_wp2
    go_ret
    exact ⟨rfl, rfl⟩
  · by_cases h2 : 8192 < i
    · rw [need_big h2]
      go_enter Try.func46, Try.ntmps46
      go_wp2
      go_ret
      exact ⟨rfl, rfl⟩
    · rw [need_small (by omega) (by omega)]
      go_enter Try.func46, Try.ntmps46
      go_wp2
      go_ret
      refine ⟨ret_int ?_, rfl⟩
      omega
theorem needI_nat (k : Nat) : needI (k : Int) = (Wl.need k : Int) := by unfold needI; rw [if_neg (by omega), Int.toNat_natCast]
theorem Need_nat (k : Nat) (w : World) (h : k ≤ 9223372036854775807) : Calls Try.prog 45 #[.int .i64 (k : Int)] w fun e w' => e = .returned (.int .i64 (Wl.need k : Int)) ∧ w = w' := by
  have := Need_int (k : Int) w (by omega) (by omega)
  rwa [needI_nat] at this
theorem RefNeed_nat (k : Nat) (w : World) (h : k ≤ 9223372036854775807) : Calls Try.prog 46 #[.int .i64 (k : Int)] w fun e w' => e = .returned (.int .i64 (Wl.need k : Int)) ∧ w = w' := by
  have := RefNeed_int (k : Int) w (by omega) (by omega)
  rwa [needI_nat] at this
/-- A row of bytes of the call's own. -/
def Own (w : World) (base : Nat) (v : Value) (bs : List Nat) : Prop := w.ownsRow base 5 1 v bs.length (bs.map fun x => Value.int .u8 ((x : Nat) : Int))
theorem Own.bytes {w : World} {base : Nat} {v : Value} {bs : List Nat} (h : Own w base v bs) (hb : ∀ x ∈ bs, x < 256) : ∃ A c, v = .slice A bs.length c ∧ Bytes w A bs.length bs ∧ bs.length ≤ c ∧ c ≤ maxLen ∧ (A = none → bs = []) ∧ ∀ g o, A = some ⟨g, o, none⟩ → base ≤ g := by
  rcases h.2 with ⟨rfl, hn⟩ | ⟨g, cap, cur, rfl, hbg, hg, hnc, hcm, hcs, htake⟩
  · have e : bs = [] := List.eq_nil_of_length_eq_zero hn
    subst e
    exact ⟨none, 0, rfl, Bytes.nil w, Nat.le_refl _, Nat.zero_le _, fun _ => rfl, fun g o he => by cases he⟩
  · refine ⟨some ⟨g, 0, none⟩, cap, rfl, ⟨rfl, hb, fun h0 => ⟨g, 0, rfl, Blk.lt hg, fun k hk => ?_⟩⟩, hnc, hcm, fun h => (by cases h), fun g' o he => (by cases he; exact hbg)⟩
    rw [Nat.zero_add, h.cellAt k (by omega), List.getElem?_map, List.getElem?_eq_getElem hk, List.getD_eq_getElem?_getD, List.getElem?_eq_getElem hk]
    rfl
theorem cells_new (w : World) (C : List Value) (e : TypeId) : ∀ j u, C[j]? = some u → (w.alloc (.cells C.toArray e)).cell? ((⟨w.heap.size, 0, none⟩ : Addr).add j) = some u := fun j u h => by
  rw [add_none, Nat.zero_add, World.cell?_alloc_new]
  simpa using h
theorem four_one (a b c d : Int) : ∀ u ∈ [Value.int .u8 a, .int .u8 b, .int .u8 c, .int .u8 d], u.oneCell' = true := fun u hu => by
  simp only [List.mem_cons, List.not_mem_nil, or_false] at hu
  rcases hu with rfl | rfl | rfl | rfl <;> rfl
theorem ownsRow_cast {w : World} {base size : Nat} {e : TypeId} {v : Value} {n m : Nat} {xs ys : List Value} (h : w.ownsRow base e size v n xs) (hn : n = m) (hx : xs = ys) : w.ownsRow base e size v m ys := hn ▸ hx ▸ h
set_option maxRecDepth 100000 in
set_option maxHeartbeats 1000000 in
theorem put32_any (base : Nat) (v : Value) (bs : List Nat) (k : Nat) (w : World) (h : Own w base v bs) (hk : k < 4294967296) (hn : bs.length ≤ 1048576) (hbase : base ≤ w.heap.size) :
    Calls Try.prog 80 #[v, .int .u32 (k : Int)] w fun e w' => ∃ v', e = .returned v' ∧ Own w' base v' (bs ++ Wl.be32 k) ∧ Below base w w' := by
  obtain ⟨i0, hi0, hz0, hz1, hz2⟩ := info_parts byte_row
  have H := Lib.hid h
  clear h
  obtain ⟨wo, rfl⟩ : ∃ wo : World, wo = w := ⟨_, rfl⟩
  go_enter Try.func80, Try.ntmps80
  go_wp2_with (at_builtin; refine wpList_append_own _ rfl (.tmp 5) (.tmp 17) 22 rfl base 5 i0 (.int .u8 0) 1 1 Try.underlying22 hi0 hz0 hz1 hz2 rfl (by decide) _ _ _ rfl (H.out.alloc _) ⟨wo.heap.size, 0, none⟩ 4 4 [.int .u8 ((k : Int) / 16777216), .int .u8 ((k : Int) / 65536 % 256), .int .u8 ((k : Int) / 256 % 256), .int .u8 ((k : Int) % 256)] rfl rfl (cells_new _ _ _) (four_one _ _ _ _) (by unfold maxLen; omega) (by omega) (by simp; omega) ?_; intro v' w3 hown' hgrow3 hnil3; have HO := Lib.hid hown'; have HG := Lib.hid hgrow3; clear hown' hgrow3 hnil3)
  go_ret
  refine ⟨v', rfl, ?_, ?_⟩
  · have h := HO.out
    unfold Own
    rw [List.length_append, List.map_append]
    refine ownsRow_cast h rfl ?_
    simp only [Wl.be32, List.map_cons, List.map_nil]
    rw [show (((k / 16777216 % 256 : Nat)) : Int) = (k : Int) / 16777216 by omega]
    rfl
  · exact ((Below.refl base wo).alloc hbase _).grown HG.out (by simp; omega) (fun q hq => (H.out.lt q hq).1)
end Go.Proofs.Ytiiegimnnngnnaa
