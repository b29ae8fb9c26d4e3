/- SatFirst: the walk. -/
import Derived.Test.YtghfelfljblkbaaSatU
namespace Go.Proofs.Ytghfelfljblkbaa
open Go.RowKit Go.Sort
set_option linter.unusedVariables false

/-- A model's first i values as literals. -/
def sgl (bs : List Bool) (i : Nat) : List Int := (List.range i).map fun j => if bs.getD j false then (j : Int) + 1 else -((j : Int) + 1)
theorem sgl_len (bs : List Bool) (i : Nat) : (sgl bs i).length = i := by simp [sgl]
theorem sgl_succ (bs : List Bool) (i : Nat) : sgl bs (i + 1) = sgl bs i ++ [if bs.getD i false then (i : Int) + 1 else -((i : Int) + 1)] := by
  unfold sgl; rw [List.range_succ, List.map_append]; rfl
theorem sgl_ok {bs : List Bool} {i : Nat} (h : i ≤ 200) : ∀ z ∈ sgl bs i, Ok z := fun z hz => by
  unfold sgl at hz
  obtain ⟨j, hj, rfl⟩ := List.mem_map.1 hz
  have := List.mem_range.1 hj
  unfold Ok
  split <;> omega
theorem first_less {n : Nat} {L : List (List Int)} {bs : List Bool} {i : Nat} {r : Option (List Bool)} (hn : n ≤ 200) (h : FirstIs n L [] (some bs)) (hi : i < n) (hb : bs.getD i false = true) (hr : FirstIs n L (sgl bs i ++ [-((i : Int) + 1)]) r) : r = none := by
  cases r with
  | none => rfl
  | some b2 =>
    obtain ⟨_, k, hk, e, _, hf⟩ := h
    obtain ⟨_, k2, hk2, e2, hm2, _⟩ := hr
    have hl : b2.length = n := by rw [e2]; exact Sr.vec_len n k2
    unfold mod at hm2
    rw [Bool.and_eq_true, List.all_eq_true] at hm2
    have hlex : Sr.Lex n b2 bs := by
      refine ⟨i, hi, fun j hj => ?_, ?_, hb⟩
      · have := hm2.2 (if bs.getD j false then (j : Int) + 1 else -((j : Int) + 1)) (List.mem_append_left _ (List.mem_map.2 ⟨j, List.mem_range.2 hj, rfl⟩))
        have hv1 : Cf.va (if bs.getD j false then (j : Int) + 1 else -((j : Int) + 1)) = j + 1 := by unfold Cf.va; split <;> omega
        rw [Sr.hv_bit hl (by omega) (by omega) hn, hv1, Nat.add_sub_cancel] at this
        rw [eq_of_beq this]
        cases hbj : bs.getD j false with
        | true => simp; try omega
        | false => simp; try omega
      · have := hm2.2 (-((i : Int) + 1)) (List.mem_append_right _ (by simp))
        have hv1 : Cf.va (-((i : Int) + 1)) = i + 1 := by unfold Cf.va; omega
        rw [Sr.hv_bit hl (by omega) (by omega) hn, hv1, Nat.add_sub_cancel] at this
        rw [eq_of_beq this]
        exact decide_eq_false (by omega)
    rw [e, e2] at hlex
    have hlt := Sr.vec_lex hk2 hk hlex
    have := hf k2 hlt
    unfold mod at this
    rw [← e2, hm2.1] at this
    simp at this
set_option maxRecDepth 100000 in
set_option maxHeartbeats 4000000 in
theorem satFirst_any (x : Int) (v : Value) (Z : List (List Int)) (w : World) (hz : ClsAt w v Z) (hZ : Z.length ≤ 4294967296) :
    Calls Try.prog 16 #[.int .i64 x, v] w fun e w' => e = .returned (.bool true) ∧ Below w.heap.size w w' := by
  obtain ⟨i0, hi0, hz0, hz1, hz2⟩ := info_parts lit_row
  have HBO := Lib.hid (bothS_any x v Z w hz hZ)
  obtain ⟨AZ, cZ, rfl, _⟩ := hz
  go_enter Try.func16, Try.ntmps16
  go_wp2_with fail
  go_at_call 53
  refine HBO.out.mono ?_
  rintro e w1 ⟨n, s, q0, A, B, ca, cb, rfl, hn, htw, hcl⟩
  obtain ⟨L, hL⟩ : ∃ L, L = bothQ 40 10 n Z 0 [] := ⟨_, rfl⟩
  rw [← hL] at htw hcl
  have HTW := Lib.hid htw
  have HCL := Lib.hid hcl
  have HSH : Hid (∀ c ∈ L, c.length ≤ 1048576) := Lib.hid (fun c hc => by have := htw.short c hc; omega)
  have HSV := Lib.hid (Solve0_any s ca n A L none 0 0 [] w1 HTW.out.s HSH.out HCL.out (Lits.nil _ _) (by omega) (by omega))
  clear htw hcl hL HBO
  go_wp2_with fail
  go_at_call 55
  refine HSV.out.mono ?_
  rintro e w2 ⟨r, A2, m2, c2, rfl, hf2, hm2, hbs2, hb2⟩
  have HB2 := Lib.hid (HTW.out.bel.trans (hb2.mono HTW.out.bel.size))
  have HB12 := Lib.hid hb2
  cases r with
  | none =>
    have HAW := Lib.hid (awakeS_any w2)
    clear hf2 hbs2 hb2 HSV
    go_wp2_with (go_at_call 57; refine HAW.out.mono ?_; rintro e w7 ⟨rfl, hb7⟩)
    go_ret
    exact ⟨rfl, HB2.out.trans (hb7.mono HB2.out.size)⟩
  | some bs =>
    have hmn : m2 = n := by
      obtain ⟨_, k, _, e, _⟩ := hf2
      have h1 := hbs2.1
      rw [show (Option.getD (some bs) []) = bs from rfl, e, Sr.vec_len] at h1
      exact h1.symm
    subst hmn
    have HS2 : Hid (Bools w2 A2 m2 bs) := Lib.hid hbs2
    have HF2 := Lib.hid hf2
    have HR0 : Hid (OwnL w2 w2.heap.size (.slice none 0 0) (sgl bs 0)) := Lib.hid (World.ownsRow_nil _ _ _ _)
    have HBR : Hid (Below w2.heap.size w2 w2) := Lib.hid (Below.refl _ _)
    clear hf2 hbs2 hb2 HSV
    go_wp2_with fail
    go_loopw [10, 42] (fun u t wr => ∃ (i cu : Nat) (U : Option Addr), u = .slice U i cu ∧ t = .int .i64 (i : Int) ∧ i ≤ m2 ∧ Hid (OwnL wr w2.heap.size (.slice U i cu) (sgl bs i)) ∧ Hid (Below w2.heap.size w2 wr)) (fun _ t _ => m2 - (match t with | .int _ x => x.toNat | _ => 0))
    case atStart => exact ⟨0, 0, none, rfl, rfl, Nat.zero_le _, HR0, HBR⟩
    case round =>
      obtain ⟨i, cu, U, rfl, rfl, hi, HR, HB⟩ := hrel
      clear HR0 HBR
      by_cases hlt : i < m2
      · obtain ⟨b, o, hA, hbl, hcell⟩ := HS2.out.2 (by omega)
        obtain ⟨bt, hbt⟩ : ∃ bt, bt = bs.getD i false := ⟨_, rfl⟩
        have kb : wr.cell? ⟨b, o + i, none⟩ = some (.bool bt) := by rw [hbt]; exact (HB.out.cell hbl).trans (hcell i hlt)
        have HSU := Lib.hid (sgl_succ bs i)
        have HBT := Lib.hid hbt
        have HRO : Hid (wr.ownsRow w2.heap.size 37 1 (.slice U i cu) i ((sgl bs i).map (Value.int .i64))) := Lib.hid (by have := HR.out; unfold OwnL at this; rw [sgl_len] at this; exact this)
        have HSRC : Hid (Lits wr U i (sgl bs i)) := Lib.hid (by
          obtain ⟨A9, c9, hv, hl9, _⟩ := HR.out.lits (sgl_ok (by omega))
          rw [sgl_len] at hv hl9
          cases hv
          exact hl9)
        have HSZ : Hid (w2.heap.size ≤ wr.heap.size) := Lib.hid HB.out.size
        have i1 : (i : Int) < (m2 : Int) := by omega
        subst hA
        clear hcell hbl hbt
        cases bt with
        | false =>
          have HST : Hid (sgl bs (i + 1) = sgl bs i ++ [-((i : Int) + 1)]) := Lib.hid (by rw [HSU.out, ← HBT.out]; rfl)
          go_wp2_with (at_builtin; refine wpList_append_any _ rfl (.tmp 67) (.tmp 70) 22 rfl w2.heap.size 37 i0 _ 1 8 Try.underlying22 hi0 hz0 hz1 hz2 rfl (by decide) _ i _ rfl (HRO.out.alloc _) (wr.heap.size + 1) (some ⟨wr.heap.size, 0, none⟩) 1 1 [.int .i64 (-((i : Int) + 1))] rfl (reads_one (Blk.new _ _ _) (by omega)) (ints_one [-((i : Int) + 1)]) (by unfold maxLen; omega) (by omega) (Nat.le_trans HSZ.out (by simp)) ?_; intro v7 w7 hown7 hg7 hat7; have HU7 : Hid (Upd (fun j => (Value.slice U 0 0).ownBlock = some j) wr w7) := Lib.hid (((Upd.refl _ wr).alloc _).grown hg7 (fun j hj => .inl (by rw [← hj]; exact ownB))); have HOW7 := Lib.hid hown7; obtain ⟨A7, c7, rfl⟩ := ownL_shape hown7; clear hown7 hg7 hat7)
          have HR7 : Hid (OwnL w7 w2.heap.size (.slice A7 (i + 1) c7) (sgl bs (i + 1))) := Lib.hid (by
            unfold OwnL
            rw [sgl_len, HST.out, List.map_append]
            exact HOW7.out)
          have HB7 : Hid (Below w2.heap.size w2 w7) := Lib.hid (HB.out.trans (HU7.out.below (fun j hj => (HRO.out.lt j (by rw [← hj]; exact ownB)).1) HB.out.size))
          clear HOW7 HU7
          refine ⟨⟨i + 1, c7, A7, rfl, by go_num, by omega, HR7, HB7⟩, ?_⟩
          show m2 - ((i : Int) + 1).toNat < m2 - (i : Int).toNat
          omega
        | true =>
          have HST : Hid (sgl bs (i + 1) = sgl bs i ++ [(i : Int) + 1]) := Lib.hid (by rw [HSU.out, ← HBT.out]; rfl)
          go_wp2_with (first
            | (at_builtin; refine wpList_append_any _ rfl (.const (.slice none 0 0)) (.tmp 52) 22 rfl wr.heap.size 37 i0 _ 1 8 Try.underlying22 hi0 hz0 hz1 hz2 rfl (by decide) _ 0 [] rfl (World.ownsRow_nil _ _ _ _) wr.heap.size U i cu ((sgl bs i).map (Value.int .i64)) rfl HSRC.out.reads (ints_one (sgl bs i)) (by unfold maxLen; omega) (by omega) (Nat.le_refl _) ?_; intro v6 w6 hown6 hg6 hat6; have HU6 : Hid (Upd (fun j => False) wr w6) := Lib.hid ((Upd.refl _ wr).grown hg6 (fun j hj => by cases hj)); rw [List.nil_append, Nat.zero_add] at hown6; have HOW6 := Lib.hid hown6; obtain ⟨A6, c6, rfl⟩ := ownL_shape hown6; clear hown6 hg6 hat6)
            | (at_builtin; refine wpList_append_any _ rfl (.tmp 53) (.tmp 56) 22 rfl wr.heap.size 37 i0 _ 1 8 Try.underlying22 hi0 hz0 hz1 hz2 rfl (by decide) _ i _ rfl (HOW6.out.alloc _) (w6.heap.size + 1) (some ⟨w6.heap.size, 0, none⟩) 1 1 [.int .i64 (-((i : Int) + 1))] rfl (reads_one (Blk.new _ _ _) (by omega)) (ints_one [-((i : Int) + 1)]) (by unfold maxLen; omega) (by omega) (Nat.le_trans HU6.out.size (by simp)) ?_; intro v7 w7 hown7 hg7 hat7; have HU7 : Hid (Upd (fun j => (Value.slice A6 0 0).ownBlock = some j) w6 w7) := Lib.hid (((Upd.refl _ w6).alloc _).grown hg7 (fun j hj => .inl (by rw [← hj]; exact ownB))); have HOW7 := Lib.hid hown7; obtain ⟨A7, c7, rfl⟩ := ownL_shape hown7; clear hown7 hg7 hat7))
          have hb6 : Below wr.heap.size wr w6 := HU6.out.below (fun i hi => hi.elim) (Nat.le_refl _)
          have hb7 : Below wr.heap.size wr w7 := hb6.trans (HU7.out.below (fun i hi => (HOW6.out.lt i (by rw [← hi]; exact ownB)).1) hb6.size)
          have hown : OwnL w7 wr.heap.size (.slice A7 (i + 1) c7) (sgl bs i ++ [-((i : Int) + 1)]) := by
            unfold OwnL
            rw [List.length_append, sgl_len, List.map_append]
            exact HOW7.out
          obtain ⟨A7', c7', hv, hl7, _⟩ := OwnL.lits hown (fun z hz => by
            rcases List.mem_append.1 hz with h | h
            · exact sgl_ok (by omega) z h
            · rw [List.mem_singleton.1 h]; exact ⟨by omega, by omega⟩)
          rw [List.length_append, sgl_len] at hv hl7
          cases hv
          have HB7 : Hid (Below w2.heap.size w2 w7) := Lib.hid (HB.out.trans (hb7.mono HB.out.size))
          have HR7 : Hid (w7.ownsRow w2.heap.size 37 1 (.slice U i cu) i ((sgl bs i).map (Value.int .i64))) := Lib.hid (ownL_later HRO.out hb7)
          have HSV7 := Lib.hid (Solve0_any s ca m2 A L A7 (i + 1) c7 _ w7 (HTW.out.s.below (HB12.out.trans (HB7.out.mono HB12.out.size))) HSH.out HCL.out hl7 (by omega) (by omega))
          have HNO : Hid (∀ r, FirstIs m2 L (sgl bs i ++ [-((i : Int) + 1)]) r → r = none) := Lib.hid (fun r hr => first_less (by omega) HF2.out hlt HBT.out.symm hr)
          clear hb6 hb7 hown hl7 HOW6 HOW7 HU6 HU7 HSRC HRO HR HB HSZ
          refine HSV7.out.mono ?_
          rintro e w8 ⟨r8, A8, m8, c8, rfl, hf8, _, _, hb8⟩
          obtain rfl := HNO.out r8 hf8
          have HB8 : Hid (Below w2.heap.size w2 w8) := Lib.hid (HB7.out.trans (hb8.mono HB7.out.size))
          have HR8 : Hid (w8.ownsRow w2.heap.size 37 1 (.slice U i cu) i ((sgl bs i).map (Value.int .i64))) := Lib.hid (ownL_later HR7.out hb8)
          have HSZ8 : Hid (w2.heap.size ≤ w8.heap.size) := Lib.hid HB8.out.size
          clear hf8 hb8 HSV7 HNO HR7 HB7
          go_wp2_with (at_builtin; refine wpList_append_any _ rfl (.tmp 63) (.tmp 65) 22 rfl w2.heap.size 37 i0 _ 1 8 Try.underlying22 hi0 hz0 hz1 hz2 rfl (by decide) _ i _ rfl (HR8.out.alloc _) (w8.heap.size + 1) (some ⟨w8.heap.size, 0, none⟩) 1 1 [.int .i64 ((i : Int) + 1)] rfl (reads_one (Blk.new _ _ _) (by omega)) (ints_one [((i : Int) + 1)]) (by unfold maxLen; omega) (by omega) (Nat.le_trans HSZ8.out (by simp)) ?_; intro v9 w9 hown9 hg9 hat9; have HU9 : Hid (Upd (fun j => (Value.slice U 0 0).ownBlock = some j) w8 w9) := Lib.hid (((Upd.refl _ w8).alloc _).grown hg9 (fun j hj => .inl (by rw [← hj]; exact ownB))); have HOW9 := Lib.hid hown9; obtain ⟨A9, c9, rfl⟩ := ownL_shape hown9; clear hown9 hg9 hat9)
          have HR9 : Hid (OwnL w9 w2.heap.size (.slice A9 (i + 1) c9) (sgl bs (i + 1))) := Lib.hid (by
            unfold OwnL
            rw [sgl_len, HST.out, List.map_append]
            exact HOW9.out)
          have HB9 : Hid (Below w2.heap.size w2 w9) := Lib.hid (HB8.out.trans (HU9.out.below (fun j hj => (HR8.out.lt j (by rw [← hj]; exact ownB)).1) HB8.out.size))
          clear HOW9 HU9
          refine ⟨⟨i + 1, c9, A9, rfl, by go_num, by omega, HR9, HB9⟩, ?_⟩
          show m2 - ((i : Int) + 1).toNat < m2 - (i : Int).toNat
          omega
      · have hnn : ¬ (i : Int) < (m2 : Int) := by omega
        have HVA := Lib.hid (Vars_any s ca m2 A L wr (HTW.out.s.below (HB12.out.trans (HB.out.mono HB12.out.size))))
        have HB9 := Lib.hid (HB2.out.trans (HB.out.mono HB2.out.size))
        have HAW := Lib.hid (fun W => awakeS_any W)
        go_wp2_with (first
          | (go_at_call 35; refine HVA.out.mono ?_; rintro e w8 ⟨rfl, rfl⟩)
          | (go_at_call 57; refine (HAW.out _).mono ?_; rintro e w7 ⟨rfl, hb7⟩))
        go_ret
        exact ⟨rfl, HB9.out.trans (hb7.mono HB9.out.size)⟩
open Go.ChangeShapes Go.WideShapes Go.ChangeAt in
set_option maxRecDepth 100000 in
theorem satFirst_walk {H : Type} {enc : TypeId × Value → H} (W : World) {base : Nat} (v0 v1 : Value) {d0 d1 : DataW H} {p0 p1 : List MemPlace}
    (h0 : DataW.Trod enc Try.prog W 0 (fun _ => true) true 3 v0 d0 p0) (o0 : Value.okWide Try.prog W .any base 3 v0)
    (h1 : DataW.Trod enc Try.prog W 0 (fun _ => true) true 28 v1 d1 p1) (o1 : Value.okWide Try.prog W .any base 28 v1)
    (hk : Rows.uptoBulkAll [d0, d1] ≤ 1048576) :
    Calls Try.prog 16 #[v0, v1] W fun e w' => e = .returned (.bool true) ∧ Below W.heap.size W w' := by
  obtain ⟨x, rfl, rfl, rfl, wx⟩ := open_int Try.underlying3 o0 h0
  obtain ⟨Z, hz, hZ, _⟩ := open_cls h1 o1
  simp only [Rows.uptoBulkAll] at hk
  exact satFirst_any x v1 Z W hz (by omega)
end Go.Proofs.Ytghfelfljblkbaa
