/- relation.ParseAtom. -/
import Derived.Test.YtdchnllflodmkaaRs
namespace Go.Proofs.Ytdchnllflodmkaa
open Go.RowKit
set_option linter.unusedVariables false

/-- The atom that a text is. -/
def oneP (T : List Rl.Bs) : Option Rl.Atm := match Rl.atomP nmL verL T with
  | (some a, []) => some a
  | _ => none
/-- What ParseAtom hands back. -/
def OneRes (e : Ending) : Option Rl.Atm → Prop
  | some a => e = .returned (.tuple #[atV (Rl.tob a.name) (a.rel : Int) (Rl.tob a.ver), .int .i64 0])
  | none => e = .returned (.tuple #[atV ⟨#[]⟩ 0 ⟨#[]⟩, .int .i64 3])
set_option maxRecDepth 100000 in
set_option maxHeartbeats 4000000 in
theorem ParseAtom_any (s : ByteArray) (w : World) (hs : s.size ≤ 1048576) :
    Calls Try.prog 30 #[.string s] w fun e w' => Below w.heap.size w w' ∧ OneRes e (oneP (Rl.toks (bl s))) := by
  obtain ⟨W1, hW1⟩ : ∃ W1, W1 = w.alloc (.cells #[.string ⟨#[]⟩, .int .i64 0, .string ⟨#[]⟩] 38) := ⟨_, rfl⟩
  have hb01 : Below w.heap.size w W1 := by rw [hW1]; exact (Below.refl _ _).alloc (Nat.le_refl _) _
  have hbr1 : Blk W1 w.heap.size 38 #[.string ⟨#[]⟩, .int .i64 0, .string ⟨#[]⟩] := by rw [hW1]; exact Blk.new _ _ _
  have HWD := Lib.hid (words_any s W1 hs)
  have HB01 := Lib.hid hb01
  have HBR1 := Lib.hid hbr1
  obtain ⟨T, hT⟩ : ∃ T, T = Rl.toks (bl s) := ⟨_, rfl⟩
  have HDN : Hid (Rl.done s = T.map Rl.tob) := Lib.hid (by rw [hT]; rfl)
  have htl : T.length ≤ 1048576 := by
    rw [hT]
    have := tk_len (bl s) [] 1
    rw [if_pos rfl, bl_len] at this
    unfold Rl.toks
    omega
  have HTE : Hid (∀ t ∈ T, t.length ≤ 1048576) := Lib.hid (fun t ht => by
    rw [hT] at ht
    have := tk_each (bl s) [] 1 t ht
    rw [bl_len] at this
    simp at this
    omega)
  rw [← hT]
  clear hT hb01 hbr1
  go_enter Try.func30, Try.ntmps30
  go_upto_region 1 with fail
  rw [← hW1]
  clear hW1
  go_wp2_with fail
  go_at_call 43
  refine HWD.out.mono ?_
  rintro e w1 ⟨v, rfl, ⟨A, c, rfl, hown⟩, hb1⟩
  rw [HDN.out] at hown
  obtain ⟨htx, htc, hlt⟩ := txts_of hown
  have hlm : (Rl.done s).length = T.length := by rw [HDN.out, List.length_map]
  rw [hlm]
  obtain ⟨N, hN⟩ : ∃ N, N = T.length := ⟨_, rfl⟩
  rw [← hN] at htx htc htl ⊢
  obtain ⟨q, hq⟩ : ∃ q, q = w1.heap.size := ⟨_, rfl⟩
  obtain ⟨W2, hW2⟩ : ∃ W2, W2 = w1.alloc (.cells #[.slice A N c] 72) := ⟨_, rfl⟩
  have hb2 : Below w1.heap.size w1 W2 := by rw [hW2]; exact (Below.refl _ _).alloc (Nat.le_refl _) _
  have hs2 : W2.heap.size = q + 1 := by rw [hW2, hq, World.size_alloc]
  have hrd : RdAt W2 q W2.heap.size A N c T := ⟨by rw [hW2, hq]; exact Blk.new _ _ _, htx.upd (Upd.of_below hb2 (T := fun k => w1.heap.size ≤ k) (fun _ _ h => h)) (fun b o e _ h9 => by have := hlt b o e; omega), htc, by omega, fun b o e => by have := hlt b o e; omega⟩
  have hRq : w.heap.size < q := by rw [hq]; exact Nat.lt_of_lt_of_le HBR1.out.lt hb1.size
  have hbr2 : Blk W2 w.heap.size 38 #[.string ⟨#[]⟩, .int .i64 0, .string ⟨#[]⟩] := (HBR1.out.below hb1 HBR1.out.lt).below hb2 (by omega)
  have hat := atom_any q W2.heap.size A N c T W2 hrd (Nat.le_refl _) (by omega) HTE.out
  have HB2 := Lib.hid (HB01.out.trans ((hb1.trans (hb2.mono hb1.size)).mono HB01.out.size))
  obtain ⟨o, T2, hap⟩ : ∃ o T2, Rl.atomP nmL verL T = (o, T2) := ⟨_, _, rfl⟩
  rw [hap] at hat
  have HONE : Hid (oneP T = match (o, T2) with | (some a, []) => some a | _ => none) := Lib.hid (by unfold oneP; rw [hap])
  have HAT := Lib.hid hat
  have HBR2 := Lib.hid hbr2
  clear hown htx htc hlt hb1 hb2 hs2 hrd HWD hlm hN hat hbr2 hap HB01 HBR1 HTE HDN
  go_upto_region 2 with fail
  rw [← hW2, ← hq]
  clear hW2 hq
  cases o with
  | none =>
    have HO : Hid (oneP T = none) := Lib.hid HONE.out
    go_wp2_with fail
    go_at_call 44
    refine HAT.out.mono ?_
    rintro e w3 ⟨hu3, x, r, y, rfl⟩
    have HBR3 := Lib.hid (HBR2.out.upd hu3 (fun e => by have e2 : w.heap.size = q := e; omega))
    have HB3 := Lib.hid (HB2.out.trans (hu3.below (fun k hk => by have e2 : k = q := hk; omega) HB2.out.size))
    clear hu3
    unfold atV
    obtain ⟨W4, hW4⟩ : ∃ W4, W4 = w3.alloc (.cells #[.string x, .int .i64 r, .string y] 38) := ⟨_, rfl⟩
    have hbr4 : Blk W4 w.heap.size 38 #[.string ⟨#[]⟩, .int .i64 0, .string ⟨#[]⟩] := by rw [hW4]; exact HBR3.out.alloc _
    have hb4 : Below w.heap.size w W4 := by rw [hW4]; exact HB3.out.alloc HB3.out.size _
    have HBR4 := Lib.hid hbr4
    have HB4 := Lib.hid hb4
    have r0 : W4.cell? ⟨w.heap.size, 0, none⟩ = some (.string ⟨#[]⟩) := hbr4.cell 0
    have r1 : W4.cell? ⟨w.heap.size, 1, none⟩ = some (.int .i64 0) := hbr4.cell 1
    have r2 : W4.cell? ⟨w.heap.size, 2, none⟩ = some (.string ⟨#[]⟩) := hbr4.cell 2
    have f0 : W4.frozen? ⟨w.heap.size, 0, none⟩ = false := hbr4.frozen 0
    have f1 : W4.frozen? ⟨w.heap.size, 1, none⟩ = false := hbr4.frozen 1
    have f2 : W4.frozen? ⟨w.heap.size, 2, none⟩ = false := hbr4.frozen 2
    clear hbr4 hb4
    go_upto_region 3 with fail
    rw [← hW4]
    clear hW4
    go_wp2_with fail
    have hbrz : Blk (((W4.setCell ⟨w.heap.size, 0, none⟩ (.string ⟨#[]⟩)).setCell ⟨w.heap.size, 1, none⟩ (.int .i64 0)).setCell ⟨w.heap.size, 2, none⟩ (.string ⟨#[]⟩)) w.heap.size 38 #[.string ⟨#[]⟩, .int .i64 0, .string ⟨#[]⟩] := by
      have := ((HBR4.out.set_ 0 (.string ⟨#[]⟩)).set_ 1 (.int .i64 0)).set_ 2 (.string ⟨#[]⟩)
      simpa using this
    refine ret_atom Try.results30 w.heap.size _ hbrz rfl rfl rfl ?_
    rw [HO.out]
    exact ⟨((HB4.out.setCell (p := ⟨w.heap.size, 0, none⟩) (Nat.le_refl _) _).setCell (p := ⟨w.heap.size, 1, none⟩) (Nat.le_refl _) _).setCell (p := ⟨w.heap.size, 2, none⟩) (Nat.le_refl _) _, rfl⟩
  | some a =>
    have HAT2 : Hid (Calls Try.prog 44 #[.pointer (some ⟨q, 0, none⟩)] W2 fun e w' => Upd (fun k => k = q) W2 w' ∧ e = .returned (.tuple #[.agg #[.string (Rl.tob a.name), .int .i64 (a.rel : Int), .string (Rl.tob a.ver)], .bool true]) ∧ ∃ A' n' c', RdAt w' q W2.heap.size A' n' c' T2 ∧ n' ≤ N) := HAT
    obtain ⟨X, hX⟩ : ∃ X, X = Rl.tob a.name := ⟨_, rfl⟩
    obtain ⟨Y, hY⟩ : ∃ Y, Y = Rl.tob a.ver := ⟨_, rfl⟩
    obtain ⟨k, hk⟩ : ∃ k, k = a.rel := ⟨_, rfl⟩
    rw [← hX, ← hY, ← hk] at HAT2
    have HX := Lib.hid (And.intro hX (And.intro hY hk))
    clear hX hY hk HAT
    go_wp2_with fail
    go_at_call 44
    refine HAT2.out.mono ?_
    rintro e w3 ⟨hu3, rfl, A3, n3, c3, hr3, hn3⟩
    have HBR3 := Lib.hid (HBR2.out.upd hu3 (fun e => by have e2 : w.heap.size = q := e; omega))
    have HB3 := Lib.hid (HB2.out.trans (hu3.below (fun k hk => by have e2 : k = q := hk; omega) HB2.out.size))
    obtain ⟨g, hg⟩ : ∃ g, g = w3.heap.size := ⟨_, rfl⟩
    obtain ⟨W4, hW4⟩ : ∃ W4, W4 = w3.alloc (.cells #[.string X, .int .i64 (k : Int), .string Y] 38) := ⟨_, rfl⟩
    have hbg4 : Blk W4 g 38 #[.string X, .int .i64 (k : Int), .string Y] := by rw [hW4, hg]; exact Blk.new _ _ _
    have hbr4 : Blk W4 w.heap.size 38 #[.string ⟨#[]⟩, .int .i64 0, .string ⟨#[]⟩] := by rw [hW4]; exact HBR3.out.alloc _
    have hb4 : Below w.heap.size w W4 := by rw [hW4]; exact HB3.out.alloc HB3.out.size _
    have hbw4 : Below w3.heap.size w3 W4 := by rw [hW4]; exact (Below.refl _ _).alloc (Nat.le_refl _) _
    have hr4 := hr3.below hbw4
    have kq : W4.cell? ⟨q, 0, none⟩ = some (.slice A3 n3 c3) := hr4.blk.cell 0
    have hT2 : T2.length = n3 := hr4.tx.1
    have HT2 := Lib.hid hT2
    have HBR4 := Lib.hid hbr4
    have HB4 := Lib.hid hb4
    have j0 : W4.cell? ⟨g, 0, none⟩ = some (.string X) := hbg4.cell 0
    have j1 : W4.cell? ⟨g, 1, none⟩ = some (.int .i64 (k : Int)) := hbg4.cell 1
    have j2 : W4.cell? ⟨g, 2, none⟩ = some (.string Y) := hbg4.cell 2
    have r0 : W4.cell? ⟨w.heap.size, 0, none⟩ = some (.string ⟨#[]⟩) := hbr4.cell 0
    have r1 : W4.cell? ⟨w.heap.size, 1, none⟩ = some (.int .i64 0) := hbr4.cell 1
    have r2 : W4.cell? ⟨w.heap.size, 2, none⟩ = some (.string ⟨#[]⟩) := hbr4.cell 2
    have f0 : W4.frozen? ⟨w.heap.size, 0, none⟩ = false := hbr4.frozen 0
    have f1 : W4.frozen? ⟨w.heap.size, 1, none⟩ = false := hbr4.frozen 1
    have f2 : W4.frozen? ⟨w.heap.size, 2, none⟩ = false := hbr4.frozen 2
    clear hbr4 hb4 hbg4 hbw4 hr3 hr4 hu3 hT2
    go_upto_region 3 with fail
    rw [← hW4, ← hg]
    clear hW4 hg
    by_cases hz : n3 = 0
    · have hnp : ¬ (0 : Int) < (n3 : Int) := by omega
      have HO : Hid (oneP T = some a) := Lib.hid (by
        have e : T2 = [] := List.eq_nil_of_length_eq_zero (by rw [HT2.out]; exact hz)
        rw [HONE.out, e])
      clear hz
      go_wp2_with fail
      have hbrz : Blk (((W4.setCell ⟨w.heap.size, 0, none⟩ (.string X)).setCell ⟨w.heap.size, 1, none⟩ (.int .i64 (k : Int))).setCell ⟨w.heap.size, 2, none⟩ (.string Y)) w.heap.size 38 #[.string X, .int .i64 (k : Int), .string Y] := by
        have := ((HBR4.out.set_ 0 (.string X)).set_ 1 (.int .i64 (k : Int))).set_ 2 (.string Y)
        simpa using this
      refine ret_atom Try.results30 w.heap.size _ hbrz rfl rfl rfl ?_
      rw [HO.out]
      exact ⟨((HB4.out.setCell (p := ⟨w.heap.size, 0, none⟩) (Nat.le_refl _) _).setCell (p := ⟨w.heap.size, 1, none⟩) (Nat.le_refl _) _).setCell (p := ⟨w.heap.size, 2, none⟩) (Nat.le_refl _) _, by
        show Ending.returned (.tuple #[.agg #[.string X, .int .i64 (k : Int), .string Y], .int .i64 0]) = Ending.returned (.tuple #[.agg #[.string (Rl.tob a.name), .int .i64 (a.rel : Int), .string (Rl.tob a.ver)], .int .i64 0])
        rw [HX.out.1, HX.out.2.1, HX.out.2.2]⟩
    · have hnp : (0 : Int) < (n3 : Int) := by omega
      have HO : Hid (oneP T = none) := Lib.hid (by
        rw [HONE.out]
        cases hT : T2 with
        | nil => exact absurd (by rw [← HT2.out, hT]; rfl) hz
        | cons x r => rfl)
      clear hz
      go_wp2_with fail
      have hbrz : Blk (((W4.setCell ⟨w.heap.size, 0, none⟩ (.string ⟨#[]⟩)).setCell ⟨w.heap.size, 1, none⟩ (.int .i64 0)).setCell ⟨w.heap.size, 2, none⟩ (.string ⟨#[]⟩)) w.heap.size 38 #[.string ⟨#[]⟩, .int .i64 0, .string ⟨#[]⟩] := by
        have := ((HBR4.out.set_ 0 (.string ⟨#[]⟩)).set_ 1 (.int .i64 0)).set_ 2 (.string ⟨#[]⟩)
        simpa using this
      refine ret_atom Try.results30 w.heap.size _ hbrz rfl rfl rfl ?_
      rw [HO.out]
      exact ⟨((HB4.out.setCell (p := ⟨w.heap.size, 0, none⟩) (Nat.le_refl _) _).setCell (p := ⟨w.heap.size, 1, none⟩) (Nat.le_refl _) _).setCell (p := ⟨w.heap.size, 2, none⟩) (Nat.le_refl _) _, rfl⟩
end Go.Proofs.Ytdchnllflodmkaa
