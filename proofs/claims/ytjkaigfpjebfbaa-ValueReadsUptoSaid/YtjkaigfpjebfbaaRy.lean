/- chandlerref4's reader: atom. -/
import Derived.Test.YtjkaigfpjebfbaaRu
import Derived.StillTailTactics
namespace Go.Proofs.Ytjkaigfpjebfbaa
open Go.RowKit
set_option linter.unusedVariables false

/-- The last relation below i whose sign a text begins with. -/
def rlU (m : Rl.Bs) : Nat → Nat
  | 0 => 0
  | i + 1 => if i ≠ 0 ∧ m.take (Rl.sgn i).length = Rl.sgn i then i else rlU m i
theorem rlU_six (m : Rl.Bs) : rlU m 6 = Rl.relP m := by
  have e : rlU m 6 = if m.take 2 = [62, 62] then 5 else if m.take 2 = [62, 61] then 4 else if m.take 1 = [61] then 3 else if m.take 2 = [60, 61] then 2 else if m.take 2 = [60, 60] then 1 else 0 := by
    simp [rlU, Rl.sgn]
  rw [e]
  unfold Rl.relP
  cases m with
  | nil => simp
  | cons a r =>
    cases r with
    | nil => simp
    | cons b r =>
      simp only [List.take_succ_cons, List.take_zero, List.cons.injEq, and_true]
      by_cases h1 : a = 60
      · subst h1
        by_cases h2 : b = 60
        · subst h2; simp
        · by_cases h3 : b = 61
          · subst h3; simp
          · simp [h2, h3]
      · by_cases h2 : a = 61
        · subst h2; simp
        · by_cases h3 : a = 62
          · subst h3
            by_cases h4 : b = 61
            · subst h4; simp
            · simp [h4]
          · simp [h1, h2, h3]
theorem results_one {fn : Func} {p : Tmp} (h : fn.results = #[.cell p 79]) (tmps : Array Value) (w : World) (g : Nat) (cs : Array Value) (hp : tmps.getD p undef = .pointer (some ⟨g, 0, none⟩)) (hg : Blk w g 79 cs) (hs : cs.size = 3) :
    (results fn tmps).run Try.prog w = .ok (.agg cs) w := by
  have hp' : tmps[p]?.getD undef = .pointer (some ⟨g, 0, none⟩) := by simpa using hp
  have hl := run_loadVar_row (P := Try.prog) w g 79 79 cs (0, 0) _ hg Try.underlying79 rfl (by rw [atom_size, hs])
  simp [results, h, hp', asAddr, hl]
theorem ret_one {fn : Func} {p : Tmp} {R : Ending → World → Prop} {a : Act} {w : World} (h : fn.results = #[.cell p 79]) (g : Nat) (cs : Array Value) (hg : Blk w g 79 cs) (hs : cs.size = 3)
    (hp : a.tmps.getD p undef = .pointer (some ⟨g, 0, none⟩)) (hd : a.defers = []) (hR : R (.returned (.agg cs)) w) : bodyPost Try.prog fn R .ret a w :=
  bodyPost_ret (results_one h _ w g cs hp hg hs) hd hR
theorem fin3 {w5 : World} {R q : Nat} {l : Rl.Bs} {bad : Bool} {a b c x y z : Value} (hb : Blk w5 R 79 #[a, b, c]) (hr : RR w5 q l bad) (hne : q ≠ R) : Blk (((w5.setCell ⟨R, 0, none⟩ x).setCell ⟨R, 1, none⟩ y).setCell ⟨R, 2, none⟩ z) R 79 #[x, y, z] ∧ RR (((w5.setCell ⟨R, 0, none⟩ x).setCell ⟨R, 1, none⟩ y).setCell ⟨R, 2, none⟩ z) q l bad := by
  refine ⟨?_, ((Blk.far hr (p := ⟨R, 0, none⟩) hne x).far (p := ⟨R, 1, none⟩) hne y).far (p := ⟨R, 2, none⟩) hne z⟩
  have := ((hb.set_ 0 x).set_ 1 y).set_ 2 z
  simpa using this
theorem upd3 {w w5 : World} {q : Nat} {x y z : Value} (h : Upd (fun k => k = q) w w5) : Upd (fun k => k = q) w (((w5.setCell ⟨w.heap.size, 0, none⟩ x).setCell ⟨w.heap.size, 1, none⟩ y).setCell ⟨w.heap.size, 2, none⟩ z) :=
  ((h.setCell (p := ⟨w.heap.size, 0, none⟩) (.inr (Nat.le_refl _)) x).setCell (p := ⟨w.heap.size, 1, none⟩) (.inr (Nat.le_refl _)) y).setCell (p := ⟨w.heap.size, 2, none⟩) (.inr (Nat.le_refl _)) z
/-- What the reference's atom hands back. -/
def RAtomRes (w' : World) (q : Nat) (e : Ending) : Option (Rl.Atm × Rl.Bs) → Prop
  | some (a, l') => e = .returned (atV (Rl.tob a.name) (a.rel : Int) (Rl.tob a.ver)) ∧ RR w' q l' false
  | none => ∃ x r y l', e = .returned (atV x r y) ∧ RR w' q l' true
set_option maxRecDepth 100000 in
set_option maxHeartbeats 8000000 in
theorem ratom_any (q : Nat) (l : Rl.Bs) (w : World) (h : RR w q l false) (hl : l.length ≤ 1048576) :
    Calls Try.prog 78 #[.pointer (some ⟨q, 0, none⟩)] w fun e w' => Upd (fun k => k = q) w w' ∧ RAtomRes w' q e (Rl.atomR nmL verL l) := by
  obtain ⟨W1, hW1⟩ : ∃ W1, W1 = w.alloc (.cells #[.string ⟨#[]⟩, .int .i64 0, .string ⟨#[]⟩] 79) := ⟨_, rfl⟩
  have hq : q < w.heap.size := h.lt
  have hbr1 : Blk W1 w.heap.size 79 #[.string ⟨#[]⟩, .int .i64 0, .string ⟨#[]⟩] := by rw [hW1]; exact Blk.new _ _ _
  have hr1 : RR W1 q l false := by rw [hW1]; exact Blk.alloc h _
  have HU1 : Hid (Upd (fun k => k = q) w W1) := Lib.hid (by rw [hW1]; exact (Upd.refl _ w).alloc _)
  have HWO := Lib.hid (rword_any q l false W1 hr1 hl)
  have HBR1 := Lib.hid hbr1
  obtain ⟨N, hN⟩ : ∃ N, N = (Rl.skw l).takeWhile Rl.ink := ⟨_, rfl⟩
  obtain ⟨l1, hl1⟩ : ∃ l1, l1 = (Rl.skw l).dropWhile Rl.ink := ⟨_, rfl⟩
  rw [← hN, ← hl1] at HWO
  have hNl : N.length ≤ 1048576 := by
    rw [hN]
    exact Nat.le_trans (List.IsPrefix.length_le (List.takeWhile_prefix _)) (Nat.le_trans (List.IsSuffix.length_le (List.dropWhile_suffix _)) hl)
  have hll1 : l1.length ≤ 1048576 := by
    rw [hl1]
    exact Nat.le_trans (List.IsSuffix.length_le (List.dropWhile_suffix _)) (Nat.le_trans (List.IsSuffix.length_le (List.dropWhile_suffix _)) hl)
  have HAR : Hid (Rl.atomR nmL verL l = if nmL N then (match Rl.skw l1 with
      | [] => some (⟨N, 0, []⟩, [])
      | b :: r => if b = 40 then (match Rl.parR verL r with | none => none | some (k, v, q) => some (⟨N, k, v⟩, q)) else some (⟨N, 0, []⟩, b :: r)) else none) := Lib.hid (by rw [hN, hl1]; rfl)
  obtain ⟨X, hX⟩ : ∃ X, X = Rl.tob N := ⟨_, rfl⟩
  rw [← hX] at HWO
  have hXl : X.size ≤ 1048576 := by rw [hX]; exact hNl
  have hnm := fun W => RefName_any X W (by omega)
  obtain ⟨nb, hnb⟩ : ∃ nb, nb = nameB X := ⟨_, rfl⟩
  rw [← hnb] at hnm
  have HNB : Hid (nmL N = nb) := Lib.hid (by rw [hnb, hX]; rfl)
  have HNM := Lib.hid hnm
  have HX := Lib.hid hX
  have HPK : Hid (∀ (W : World) (l : Rl.Bs) (bad : Bool), RR W q l bad → l.length ≤ 1048576 → Calls Try.prog 77 #[.pointer (some ⟨q, 0, none⟩)] W fun e w' => e = .returned (.int .u8 (hd0 (Rl.skw l))) ∧ RR w' q (Rl.skw l) bad ∧ Upd (fun k => k = q) W w') := Lib.hid (fun W l bad h hl => peek_any q l bad W h hl)
  clear h hr1 hbr1 hN hl1 hX hnm hnb hl hNl
  go_enter Try.func78, Try.ntmps78
  go_upto_region 1 with fail
  rw [← hW1]
  clear hW1
  go_wp2_with fail
  go_at_call 93
  refine HWO.out.mono ?_
  rintro e w2 ⟨rfl, hr2, hu2⟩
  have hbr2 := HBR1.out.upd hu2 (fun e => by have e2 : w.heap.size = q := e; omega)
  obtain ⟨B, hB⟩ : ∃ B, B = w2.heap.size := ⟨_, rfl⟩
  obtain ⟨W3, hW3⟩ : ∃ W3, W3 = w2.alloc (.cells #[.string X, .int .i64 0, .string ⟨#[]⟩] 79) := ⟨_, rfl⟩
  have hbb3 : Blk W3 B 79 #[.string X, .int .i64 0, .string ⟨#[]⟩] := by rw [hW3, hB]; exact Blk.new _ _ _
  have hbr3 : Blk W3 w.heap.size 79 #[.string ⟨#[]⟩, .int .i64 0, .string ⟨#[]⟩] := by rw [hW3]; exact hbr2.alloc _
  have hr3 : RR W3 q l1 false := by rw [hW3]; exact Blk.alloc hr2 _
  have HU3 : Hid (Upd (fun k => k = q) w W3) := Lib.hid (by rw [hW3]; exact (HU1.out.trans hu2).alloc _)
  have hRB : w.heap.size < B := by have := hbr2.lt; omega
  have hqB : ¬ B = q := by omega
  have k0 : W3.cell? ⟨B, 0, none⟩ = some (.string X) := hbb3.cell 0
  have k1 : W3.cell? ⟨B, 1, none⟩ = some (.int .i64 0) := hbb3.cell 1
  have k2 : W3.cell? ⟨B, 2, none⟩ = some (.string ⟨#[]⟩) := hbb3.cell 2
  have HBB3 := Lib.hid hbb3
  have HBR3 := Lib.hid hbr3
  have HR3 := Lib.hid hr3
  clear hr2 hu2 hbr2 hbb3 hbr3 hr3 HWO HU1 HBR1
  go_upto_region 2 with fail
  rw [← hW3, ← hB]
  clear hW3 hB
  cases nb with
  | false =>
    have HAN : Hid (Rl.atomR nmL verL l = none) := Lib.hid (by rw [HAR.out, HNB.out]; rfl)
    have fq : W3.frozen? ⟨q, 1, none⟩ = false := Blk.frozen HR3.out 1
    have kq : W3.cell? ⟨q, 1, none⟩ = some (.bool false) := Blk.cell HR3.out 1
    obtain ⟨W4, hW4⟩ : ∃ W4, W4 = W3.setCell ⟨q, 1, none⟩ (.bool true) := ⟨_, rfl⟩
    have hr4 : RR W4 q l1 true := by
      have := Blk.set_ HR3.out 1 (.bool true)
      rw [hW4]
      unfold RR
      simpa using this
    have hu34 : Upd (fun k => k = q) W3 W4 := by rw [hW4]; exact (Upd.refl (fun k => k = q) W3).setCell (p := ⟨q, 1, none⟩) (.inl rfl) _
    have HBB4 := Lib.hid (HBB3.out.upd hu34 hqB)
    have HBR4 := Lib.hid (HBR3.out.upd hu34 (fun e => by have e2 : w.heap.size = q := e; omega))
    have HU4 := Lib.hid (HU3.out.trans hu34)
    have HP4 := Lib.hid (HPK.out W4 l1 true hr4 hll1)
    clear hr4 hu34
    go_upto_region 4 with (go_at_call 62; refine (HNM.out _).mono ?_; rintro e w4 ⟨rfl, rfl⟩)
    rw [← hW4]
    clear hW4 fq kq k0 k1 k2
    go_wp2_with (go_at_call 77; refine HP4.out.mono ?_; rintro e w5 ⟨rfl, hr5, hu5⟩; have HR5 := Lib.hid hr5; have HU5 := Lib.hid (HU4.out.trans hu5); have HBB5 := Lib.hid (HBB4.out.upd hu5 hqB); have HBR5 := Lib.hid (HBR4.out.upd hu5 (fun e => by have e2 : w.heap.size = q := e; omega)); have kq5 : w5.cell? ⟨q, 1, none⟩ = some (.bool true) := Blk.cell hr5 1; have k0 : w5.cell? ⟨B, 0, none⟩ = some (.string X) := HBB5.out.cell 0; have k1 : w5.cell? ⟨B, 1, none⟩ = some (.int .i64 0) := HBB5.out.cell 1; have k2 : w5.cell? ⟨B, 2, none⟩ = some (.string ⟨#[]⟩) := HBB5.out.cell 2; have f0 : w5.frozen? ⟨w.heap.size, 0, none⟩ = false := HBR5.out.frozen 0; have f1 : w5.frozen? ⟨w.heap.size, 1, none⟩ = false := HBR5.out.frozen 1; have f2 : w5.frozen? ⟨w.heap.size, 2, none⟩ = false := HBR5.out.frozen 2; have r0 : w5.cell? ⟨w.heap.size, 0, none⟩ = some (.string ⟨#[]⟩) := HBR5.out.cell 0; have r1 : w5.cell? ⟨w.heap.size, 1, none⟩ = some (.int .i64 0) := HBR5.out.cell 1; have r2 : w5.cell? ⟨w.heap.size, 2, none⟩ = some (.string ⟨#[]⟩) := HBR5.out.cell 2; clear hr5 hu5)
    all_goals
      refine ret_one Try.results78 w.heap.size _ (fin3 HBR5.out HR5.out (by omega)).1 rfl rfl rfl ?_
      rw [HAN.out]
      exact ⟨upd3 HU5.out, _, _, _, _, rfl, (fin3 HBR5.out HR5.out (by omega)).2⟩
  | true =>
    have HP3 := Lib.hid (HPK.out W3 l1 false HR3.out hll1)
    obtain ⟨l2, hl2⟩ : ∃ l2, l2 = Rl.skw l1 := ⟨_, rfl⟩
    rw [← hl2] at HP3 HAR
    have hll2 : l2.length ≤ 1048576 := by rw [hl2]; exact Nat.le_trans (List.IsSuffix.length_le (List.dropWhile_suffix _)) hll1
    obtain ⟨h0, hh0⟩ : ∃ h0, h0 = hd0 l2 := ⟨_, rfl⟩
    rw [← hh0] at HP3
    have HH0 := Lib.hid hh0
    clear hl2 hh0
    by_cases hp40 : h0 = 40
    case neg =>
      have q40 : (h0 == 40) = false := by rw [beq_eq_false_iff_ne]; exact hp40
      have HAN : Hid (Rl.atomR nmL verL l = some (⟨N, 0, []⟩, l2)) := Lib.hid (by
        rw [HAR.out, HNB.out, if_pos rfl]
        cases hl : l2 with
        | nil => rfl
        | cons b r =>
          have hne : ¬ b = 40 := fun e => hp40 (by rw [HH0.out, hl, e]; rfl)
          simp only [if_neg hne])
      clear hp40
      go_wp2_with (first
        | (go_at_call 62; refine (HNM.out _).mono ?_; rintro e w4 ⟨rfl, rfl⟩)
        | (go_at_call 77; refine HP3.out.mono ?_; rintro e w5 ⟨rfl, hr5, hu5⟩; have HRx := Lib.hid hr5; have HUx := Lib.hid (HU3.out.trans hu5); have HBBx := Lib.hid (HBB3.out.upd hu5 hqB); have HBRx := Lib.hid (HBR3.out.upd hu5 (fun e => by have e2 : w.heap.size = q := e; omega)); have kq5 : w5.cell? ⟨q, 1, none⟩ = some (.bool false) := Blk.cell hr5 1; clear k0 k1 k2; have k0 : w5.cell? ⟨B, 0, none⟩ = some (.string X) := HBBx.out.cell 0; have k1 : w5.cell? ⟨B, 1, none⟩ = some (.int .i64 0) := HBBx.out.cell 1; have k2 : w5.cell? ⟨B, 2, none⟩ = some (.string ⟨#[]⟩) := HBBx.out.cell 2; have f0 : w5.frozen? ⟨w.heap.size, 0, none⟩ = false := HBRx.out.frozen 0; have f1 : w5.frozen? ⟨w.heap.size, 1, none⟩ = false := HBRx.out.frozen 1; have f2 : w5.frozen? ⟨w.heap.size, 2, none⟩ = false := HBRx.out.frozen 2; have r0 : w5.cell? ⟨w.heap.size, 0, none⟩ = some (.string ⟨#[]⟩) := HBRx.out.cell 0; have r1 : w5.cell? ⟨w.heap.size, 1, none⟩ = some (.int .i64 0) := HBRx.out.cell 1; have r2 : w5.cell? ⟨w.heap.size, 2, none⟩ = some (.string ⟨#[]⟩) := HBRx.out.cell 2; clear hr5 hu5))
      refine ret_one Try.results78 w.heap.size _ (fin3 HBRx.out HRx.out (by omega)).1 rfl rfl rfl ?_
      rw [HAN.out]
      exact ⟨upd3 HUx.out, by rw [HX.out]; rfl, (fin3 HBRx.out HRx.out (by omega)).2⟩
    have q40 : (h0 == 40) = true := by rw [beq_iff_eq]; exact hp40
    obtain ⟨b, r, hlr⟩ : ∃ b r, l2 = b :: r := by
      cases hl : l2 with
      | nil => rw [HH0.out, hl] at hp40; exact absurd hp40 (by decide)
      | cons b r => exact ⟨b, r, rfl⟩
    subst hlr
    have hb40 : b = 40 := by
      rw [HH0.out] at hp40
      have h9 : b.toNat = 40 := by have : ((b.toNat : Nat) : Int) = 40 := hp40; omega
      exact UInt8.toNat_inj.1 h9
    subst hb40
    have HAP : Hid (Rl.atomR nmL verL l = match Rl.parR verL r with | none => none | some (k, v, q) => some (⟨N, k, v⟩, q)) := Lib.hid (by rw [HAR.out, HNB.out, if_pos rfl]; rfl)
    have hrl : r.length ≤ 1048576 := by have : (40 :: r : Rl.Bs).length = r.length + 1 := rfl; omega
    obtain ⟨S, hS⟩ : ∃ S, S = Rl.tob (40 :: r) := ⟨_, rfl⟩
    have hz3 : (1 : Int) ≤ (S.size : Int) := by rw [hS, tob_size]; have : (40 :: r : Rl.Bs).length = r.length + 1 := rfl; omega
    have HTL : Hid (S.extract 1 S.size = Rl.tob r) := Lib.hid (by rw [hS]; exact tob_drop (40 :: r) 1)
    have HSS := Lib.hid hS
    clear hp40 hS HAR
    go_upto_region 5 with (first
      | (go_at_call 62; refine (HNM.out _).mono ?_; rintro e w4 ⟨rfl, rfl⟩)
      | (go_at_call 77; refine HP3.out.mono ?_; rintro e w5 ⟨rfl, hr5, hu5⟩; have kq5 : w5.cell? ⟨q, 1, none⟩ = some (.bool false) := Blk.cell hr5 1))
    have HU5 := Lib.hid (HU3.out.trans hu5)
    have HBB5 := Lib.hid (HBB3.out.upd hu5 hqB)
    have HBR5 := Lib.hid (HBR3.out.upd hu5 (fun e => by have e2 : w.heap.size = q := e; omega))
    have ks5 : w5.cell? ⟨q, 0, none⟩ = some (.string S) := by rw [HSS.out]; exact Blk.cell hr5 0
    have fs5 : w5.frozen? ⟨q, 0, none⟩ = false := Blk.frozen hr5 0
    obtain ⟨W6, hW6⟩ : ∃ W6, W6 = w5.setCell ⟨q, 0, none⟩ (.string (S.extract 1 S.size)) := ⟨_, rfl⟩
    have hr6 : RR W6 q r false := by
      have := Blk.set_ hr5 0 (.string (S.extract 1 S.size))
      rw [hW6]
      unfold RR
      rw [← HTL.out]
      simpa using this
    have hu56 : Upd (fun k => k = q) w5 W6 := by rw [hW6]; exact (Upd.refl (fun k => k = q) w5).setCell (p := ⟨q, 0, none⟩) (.inl rfl) _
    have HBB6 := Lib.hid (HBB5.out.upd hu56 hqB)
    have HBR6 := Lib.hid (HBR5.out.upd hu56 (fun e => by have e2 : w.heap.size = q := e; omega))
    have HU6 := Lib.hid (HU5.out.trans hu56)
    have HP6 := Lib.hid (HPK.out W6 r false hr6 hrl)
    clear hr5 hu5 hr6 hu56 k0 k1 k2 HP3 HBB3 HBR3 HR3 HU3
    go_upto_region 6 with fail
    rw [← hW6]
    clear hW6 ks5 fs5 kq5
    obtain ⟨m, hm⟩ : ∃ m, m = Rl.skw r := ⟨_, rfl⟩
    rw [← hm] at HP6
    have hml : m.length ≤ 1048576 := by rw [hm]; exact Nat.le_trans (List.IsSuffix.length_le (List.dropWhile_suffix _)) hrl
    have HM := Lib.hid hm
    clear hm
    go_wp2_with fail
    go_at_call 77
    refine HP6.out.mono ?_
    rintro e w7 ⟨rfl, hr7, hu7⟩
    have HR7 := Lib.hid hr7
    have HU7 := Lib.hid (HU6.out.trans hu7)
    have HBB7 := Lib.hid (HBB6.out.upd hu7 hqB)
    have HBR7 := Lib.hid (HBR6.out.upd hu7 (fun e => by have e2 : w.heap.size = q := e; omega))
    clear hr7 hu7
    have HSGN := Lib.hid (fun k W => RSign_any k W)
    obtain ⟨S2, hS2⟩ : ∃ S2, S2 = Rl.tob m := ⟨_, rfl⟩
    have hs2l : S2.size ≤ 1048576 := by rw [hS2]; exact hml
    have HS2 := Lib.hid hS2
    clear hS2
    go_wp2_with fail
    go_loopw [36] (fun t wr => ∃ (i k : Nat), t = .int .i64 (i : Int) ∧ i ≤ 6 ∧ Hid (k = rlU m i) ∧ Hid (Blk wr B 79 #[.string X, .int .i64 (k : Int), .string ⟨#[]⟩]) ∧ Hid (Blk wr w.heap.size 79 #[.string ⟨#[]⟩, .int .i64 0, .string ⟨#[]⟩]) ∧ Hid (RR wr q m false) ∧ Hid (Upd (fun k => k = q) w wr)) (fun t _ => 6 - (match t with | .int _ x => x.toNat | _ => 0))
    case atStart => exact ⟨0, 0, rfl, Nat.zero_le _, Lib.hid rfl, HBB7, HBR7, HR7, HU7⟩
    case round =>
      obtain ⟨i, k, rfl, hi, HK, HBB, HBR, HRR, HU⟩ := hrel
      clear HBB7 HBR7 HR7 HU7
      by_cases hlt : i < 6
      · have i1 : (i : Int) < 6 := by omega
        have HSI := Lib.hid (HSGN.out (i : Int))
        obtain ⟨x, hx⟩ : ∃ x, x = sgnB (i : Int) := ⟨_, rfl⟩
        rw [← hx] at HSI
        have ks : wr.cell? ⟨q, 0, none⟩ = some (.string S2) := by rw [HS2.out]; exact Blk.cell HRR.out 0
        have hbx : bl x = Rl.sgn i := by rw [hx]; exact sgnB_bl i
        have hxs : x.size = (Rl.sgn i).length := by rw [← hbx]; rfl
        have hstep : rlU m (i + 1) = if i ≠ 0 ∧ m.take (Rl.sgn i).length = Rl.sgn i then i else rlU m i := rfl
        have hcmp : x.size ≤ S2.size → ((S2.extract 0 x.size).toList == x.toList) = decide (m.take (Rl.sgn i).length = Rl.sgn i) := fun _ => by
          rw [str_eqv, HS2.out, tob_take, hxs, Bool.eq_iff_iff, decide_eq_true_eq, decide_eq_true_eq]
          constructor
          · intro h9; have := congrArg bl h9; rw [hbx] at this; exact this
          · intro h9; exact bl_inj (by rw [hbx, Rl.bl_tob, h9])
        have HK2 : Hid (∀ k2, rlU m (i + 1) = k2 → k2 = rlU m (i + 1)) := Lib.hid (fun _ h => h.symm)
        by_cases hx1 : 1 ≤ x.size
        case neg =>
          have hx0 := str_nil hx1
          have ne : x.toList.isEmpty = true := by rw [hx0, ByteArray.toList_eq]; rfl
          have hi0 : i = 0 := by
            have : i = 0 ∨ i = 1 ∨ i = 2 ∨ i = 3 ∨ i = 4 ∨ i = 5 := by omega
            rcases this with h9 | h9 | h9 | h9 | h9 | h9
            · exact h9
            all_goals (rw [h9] at hxs; simp [Rl.sgn] at hxs; omega)
          have HKN : Hid (k = rlU m (i + 1)) := Lib.hid (by rw [hstep, if_neg (by omega)]; exact HK.out)
          clear hx hbx hxs hstep hcmp hx1 hx0 hi0 HK2
          go_wp2_with (go_at_call 94; refine (HSI.out _).mono ?_; rintro e w8 ⟨rfl, rfl⟩)
          refine ⟨⟨i + 1, k, by go_num, by omega, HKN, HBB, HBR, HRR, HU⟩, ?_⟩
          show 6 - ((i : Int) + 1).toNat < 6 - (i : Int).toNat
          omega
        have ne := str_ne hx1
        have hi0 : i ≠ 0 := fun e => by rw [hx, e] at hx1; exact absurd hx1 (by decide)
        by_cases hle : x.size ≤ S2.size
        case neg =>
          have nle : ¬ (x.size : Int) ≤ (S2.size : Int) := by omega
          have HKN : Hid (k = rlU m (i + 1)) := Lib.hid (by
            rw [hstep, if_neg]
            · exact HK.out
            · rintro ⟨_, h9⟩
              have h8 := congrArg List.length h9
              rw [List.length_take] at h8
              have h7 : S2.size = m.length := by rw [HS2.out]; rfl
              omega)
          clear hx hbx hxs hstep hcmp hx1 hi0 hle HK2
          go_wp2_with (go_at_call 94; refine (HSI.out _).mono ?_; rintro e w8 ⟨rfl, rfl⟩)
          refine ⟨⟨i + 1, k, by go_num, by omega, HKN, HBB, HBR, HRR, HU⟩, ?_⟩
          show 6 - ((i : Int) + 1).toNat < 6 - (i : Int).toNat
          omega
        have ile : (x.size : Int) ≤ (S2.size : Int) := by omega
        have hq := hcmp hle
        by_cases hmt : m.take (Rl.sgn i).length = Rl.sgn i
        · rw [decide_eq_true hmt] at hq
          have HKN : Hid (i = rlU m (i + 1)) := Lib.hid (by rw [hstep, if_pos ⟨hi0, hmt⟩])
          have fB : wr.frozen? ⟨B, 1, none⟩ = false := HBB.out.frozen 1
          have kB : wr.cell? ⟨B, 1, none⟩ = some (.int .i64 (k : Int)) := HBB.out.cell 1
          have hub : Upd (fun j => j = B) wr (wr.setCell ⟨B, 1, none⟩ (.int .i64 (i : Int))) := (Upd.refl (fun j => j = B) wr).setCell (p := ⟨B, 1, none⟩) (.inl rfl) _
          have HBN : Hid (Blk (wr.setCell ⟨B, 1, none⟩ (.int .i64 (i : Int))) B 79 #[.string X, .int .i64 (i : Int), .string ⟨#[]⟩]) := Lib.hid (by have := HBB.out.set_ 1 (.int .i64 (i : Int)); simpa using this)
          have HBRN := Lib.hid (HBR.out.upd hub (fun e => by have e2 : w.heap.size = B := e; omega))
          have HRN : Hid (RR (wr.setCell ⟨B, 1, none⟩ (.int .i64 (i : Int))) q m false) := Lib.hid (Blk.upd HRR.out hub (fun e => hqB (by have e2 : q = B := e; exact e2.symm)))
          have HUN := Lib.hid (HU.out.setCell (p := ⟨B, 1, none⟩) (.inr (by show w.heap.size ≤ B; omega)) (.int .i64 (i : Int)))
          clear hx hbx hxs hstep hcmp hx1 hi0 hle hmt hub HK2
          go_wp2_with (go_at_call 94; refine (HSI.out _).mono ?_; rintro e w8 ⟨rfl, rfl⟩)
          refine ⟨⟨i + 1, i, by go_num, by omega, HKN, HBN, HBRN, HRN, HUN⟩, ?_⟩
          show 6 - ((i : Int) + 1).toNat < 6 - (i : Int).toNat
          omega
        · rw [decide_eq_false hmt] at hq
          have HKN : Hid (k = rlU m (i + 1)) := Lib.hid (by rw [hstep, if_neg (fun h9 => hmt h9.2)]; exact HK.out)
          clear hx hbx hxs hstep hcmp hx1 hi0 hle hmt HK2
          go_wp2_with (go_at_call 94; refine (HSI.out _).mono ?_; rintro e w8 ⟨rfl, rfl⟩)
          refine ⟨⟨i + 1, k, by go_num, by omega, HKN, HBB, HBR, HRR, HU⟩, ?_⟩
          show 6 - ((i : Int) + 1).toNat < 6 - (i : Int).toNat
          omega
      · have hi6 : i = 6 := by omega
        have i1 : ¬ (i : Int) < 6 := by omega
        have HKP : Hid (k = Rl.relP m) := Lib.hid (by rw [HK.out, hi6, rlU_six])
        clear hi6
        have HSK := Lib.hid (HSGN.out (k : Int))
        obtain ⟨t, ht⟩ : ∃ t, t = sgnB (k : Int) := ⟨_, rfl⟩
        rw [← ht] at HSK
        have hts : t.size = (Rl.sgn k).length := by rw [ht]; exact congrArg List.length (sgnB_bl k)
        have htle : t.size ≤ S2.size := by
          rw [hts, HS2.out, tob_size]
          by_cases hk0 : Rl.relP m = 0
          · rw [HKP.out, hk0]; exact Nat.zero_le _
          · have h9 := (Rl.relP_some rfl hk0).2.2
            rw [HKP.out]
            have h8 := congrArg List.length h9
            rw [List.length_append] at h8
            omega
        obtain ⟨m2, hm2⟩ : ∃ m2, m2 = m.drop (Rl.sgn k).length := ⟨_, rfl⟩
        have HTD2 : Hid (S2.extract t.size S2.size = Rl.tob m2) := Lib.hid (by rw [hts, HS2.out, hm2]; exact tob_drop m _)
        have hm2l : m2.length ≤ 1048576 := by rw [hm2, List.length_drop]; omega
        have HPARR : Hid (Rl.parR verL r = if k = 0 ∨ verL ((Rl.skw m2).takeWhile Rl.ink) = false then none else match Rl.skw ((Rl.skw m2).dropWhile Rl.ink) with | [] => none | c :: q => if c = 41 then some (k, (Rl.skw m2).takeWhile Rl.ink, q) else none) := Lib.hid (by rw [hm2, HKP.out, HM.out]; rfl)
        have ks : wr.cell? ⟨q, 0, none⟩ = some (.string S2) := by rw [HS2.out]; exact Blk.cell HRR.out 0
        have kB : wr.cell? ⟨B, 1, none⟩ = some (.int .i64 (k : Int)) := HBB.out.cell 1
        have fq : wr.frozen? ⟨q, 0, none⟩ = false := Blk.frozen HRR.out 0
        have hmn : min (S2.size : Int) (t.size : Int) = (t.size : Int) := by omega
        have htl0 : (0 : Int) ≤ (t.size : Int) := by omega
        have htl1 : (t.size : Int) ≤ (S2.size : Int) := by omega
        clear ht hts htle hm2
        go_wp2_with fail
        go_still_tail 18, (by kernel_rfl)
        still_call ((HSK.out _).mono fun e w' h => ⟨h.1, h.2.symm⟩)
        repeat still_step
        refine wpStill_nil ?_
        change wpList _ _ _ _ _ wr.drew
        go_wp2_with fail
        obtain ⟨W9, hW9⟩ : ∃ W9, W9 = (wr.setCell ⟨q, 0, none⟩ (.string (S2.extract t.size S2.size))).drew := ⟨_, rfl⟩
        have hr9 : RR W9 q m2 false := by
          have := Blk.set_ HRR.out 0 (.string (S2.extract t.size S2.size))
          rw [hW9]
          unfold RR
          rw [← HTD2.out]
          have h8 := this.drew
          simpa using h8
        have hu9 : Upd (fun k => k = q) wr W9 := by rw [hW9]; exact ((Upd.refl (fun k => k = q) wr).setCell (p := ⟨q, 0, none⟩) (.inl rfl) _).drew
        have HBB9 := Lib.hid (HBB.out.upd hu9 hqB)
        have HBR9 := Lib.hid (HBR.out.upd hu9 (fun e => by have e2 : w.heap.size = q := e; omega))
        have HU9 := Lib.hid (HU.out.trans hu9)
        have hwo9 := rword_any q m2 false W9 hr9 hm2l
        obtain ⟨V, hV⟩ : ∃ V, V = (Rl.skw m2).takeWhile Rl.ink := ⟨_, rfl⟩
        obtain ⟨l10, hl10⟩ : ∃ l10, l10 = (Rl.skw m2).dropWhile Rl.ink := ⟨_, rfl⟩
        obtain ⟨Y, hY⟩ : ∃ Y, Y = Rl.tob V := ⟨_, rfl⟩
        rw [← hV, ← hl10, ← hY] at hwo9
        rw [← hV, ← hl10] at HPARR
        have hVl : V.length ≤ 1048576 := by rw [hV]; exact Nat.le_trans (List.IsPrefix.length_le (List.takeWhile_prefix _)) (Nat.le_trans (List.IsSuffix.length_le (List.dropWhile_suffix _)) hm2l)
        have hYl : Y.size ≤ 1048576 := by rw [hY]; exact hVl
        have hl10l : l10.length ≤ 1048576 := by rw [hl10]; exact Nat.le_trans (List.IsSuffix.length_le (List.dropWhile_suffix _)) (Nat.le_trans (List.IsSuffix.length_le (List.dropWhile_suffix _)) hm2l)
        have HWO9 := Lib.hid hwo9
        have HY := Lib.hid hY
        have his := fun W => is_ver_any Y W hYl
        obtain ⟨vb, hvb⟩ : ∃ vb, vb = verB Y := ⟨_, rfl⟩
        rw [← hvb] at his
        have HVB : Hid (verL V = vb) := Lib.hid (by rw [hvb, hY]; rfl)
        have HIS : Hid (∀ W, Calls Try.prog 63 #[.string Y] W fun e w' => e = .returned (.bool vb) ∧ Below W.heap.size W w') := Lib.hid (fun W => (his W).mono fun e w' ⟨he, n, hn⟩ => ⟨he, by rw [hn]; exact ⟨rfl, rfl, rfl, Nat.le_refl _, fun _ _ => rfl⟩⟩)
        rw [← hW9]
        clear hr9 hu9 hwo9 hV hl10 hY his hvb hW9 ks kB fq hmn htl0 htl1 HBB HBR HRR HU HSK HSGN HTD2 hVl
        go_at_call 93
        refine HWO9.out.mono ?_
        rintro e w10 ⟨rfl, hr10, hu10⟩
        have HBB10 := Lib.hid (HBB9.out.upd hu10 hqB)
        have HBR10 := Lib.hid (HBR9.out.upd hu10 (fun e => by have e2 : w.heap.size = q := e; omega))
        have HU10 := Lib.hid (HU9.out.trans hu10)
        have f2B : w10.frozen? ⟨B, 2, none⟩ = false := HBB10.out.frozen 2
        have k2B : w10.cell? ⟨B, 2, none⟩ = some (.string ⟨#[]⟩) := HBB10.out.cell 2
        obtain ⟨W11, hW11⟩ : ∃ W11, W11 = w10.setCell ⟨B, 2, none⟩ (.string Y) := ⟨_, rfl⟩
        have hub : Upd (fun j => j = B) w10 W11 := by rw [hW11]; exact (Upd.refl (fun j => j = B) w10).setCell (p := ⟨B, 2, none⟩) (.inl rfl) _
        have hbb11 : Blk W11 B 79 #[.string X, .int .i64 (k : Int), .string Y] := by have := HBB10.out.set_ 2 (.string Y); rw [hW11]; simpa using this
        have hbr11 := HBR10.out.upd hub (fun e => by have e2 : w.heap.size = B := e; omega)
        have hr11 : RR W11 q l10 false := Blk.upd hr10 hub (fun e => hqB (by have e2 : q = B := e; exact e2.symm))
        have HU11 : Hid (Upd (fun k => k = q) w W11) := Lib.hid (by rw [hW11]; exact HU10.out.setCell (p := ⟨B, 2, none⟩) (.inr (by show w.heap.size ≤ B; omega)) _)
        have HBB11 := Lib.hid hbb11
        have HBR11 := Lib.hid hbr11
        have HR11 := Lib.hid hr11
        have kk1 : W11.cell? ⟨B, 1, none⟩ = some (.int .i64 (k : Int)) := hbb11.cell 1
        have kk2 : W11.cell? ⟨B, 2, none⟩ = some (.string Y) := hbb11.cell 2
        clear hr10 hu10 hub hbb11 hbr11 hr11 HBB9 HBR9 HU9 HBB10 HBR10 HU10
        go_upto_region 16 with fail
        rw [← hW11]
        clear hW11 f2B k2B
        by_cases hk0 : k = 0
        · have q0 : ((k : Int) == 0) = true := by rw [beq_iff_eq]; omega
          have HAN : Hid (Rl.atomR nmL verL l = none) := Lib.hid (by rw [HAP.out, HPARR.out, if_pos (.inl hk0)])
          have fq1 : W11.frozen? ⟨q, 1, none⟩ = false := Blk.frozen HR11.out 1
          have kq1 : W11.cell? ⟨q, 1, none⟩ = some (.bool false) := Blk.cell HR11.out 1
          clear hk0
          go_upto_region 18 with fail
          obtain ⟨W17, hW17⟩ : ∃ W17, W17 = W11.setCell ⟨q, 1, none⟩ (.bool true) := ⟨_, rfl⟩
          rw [← hW17]
          have hr17 : RR W17 q l10 true := by
            have := Blk.set_ HR11.out 1 (.bool true)
            rw [hW17]
            unfold RR
            simpa using this
          have hu17 : Upd (fun k => k = q) W11 W17 := by rw [hW17]; exact (Upd.refl (fun k => k = q) _).setCell (p := ⟨q, 1, none⟩) (.inl rfl) _
          have HBB17 := Lib.hid (HBB11.out.upd hu17 hqB)
          have HBR17 := Lib.hid (HBR11.out.upd hu17 (fun e => by have e2 : w.heap.size = q := e; omega))
          have HU17 := Lib.hid (HU11.out.trans hu17)
          have HR17 := Lib.hid hr17
          clear hW17 hr17 hu17
          have k0 : W17.cell? ⟨B, 0, none⟩ = some (.string X) := HBB17.out.cell 0
          have k1 : W17.cell? ⟨B, 1, none⟩ = some (.int .i64 (k : Int)) := HBB17.out.cell 1
          have k2 : W17.cell? ⟨B, 2, none⟩ = some (.string Y) := HBB17.out.cell 2
          have f0 : W17.frozen? ⟨w.heap.size, 0, none⟩ = false := HBR17.out.frozen 0
          have f1 : W17.frozen? ⟨w.heap.size, 1, none⟩ = false := HBR17.out.frozen 1
          have f2 : W17.frozen? ⟨w.heap.size, 2, none⟩ = false := HBR17.out.frozen 2
          have r0 : W17.cell? ⟨w.heap.size, 0, none⟩ = some (.string ⟨#[]⟩) := HBR17.out.cell 0
          have r1 : W17.cell? ⟨w.heap.size, 1, none⟩ = some (.int .i64 0) := HBR17.out.cell 1
          have r2 : W17.cell? ⟨w.heap.size, 2, none⟩ = some (.string ⟨#[]⟩) := HBR17.out.cell 2
          go_wp2_with fail
          refine ret_one Try.results78 w.heap.size _ (fin3 HBR17.out HR17.out (by omega)).1 rfl rfl rfl ?_
          rw [HAN.out]
          exact ⟨upd3 HU17.out, _, _, _, _, rfl, (fin3 HBR17.out HR17.out (by omega)).2⟩
        · have q0 : ((k : Int) == 0) = false := by rw [beq_eq_false_iff_ne]; omega
          cases vb with
          | false =>
            have HAN : Hid (Rl.atomR nmL verL l = none) := Lib.hid (by rw [HAP.out, HPARR.out, if_pos (.inr HVB.out)])
            clear hk0
            go_upto_region 18 with (go_at_call 63; refine (HIS.out _).mono ?_; rintro e w12 ⟨rfl, hb12⟩; have hu12 : Upd (fun k => k = q) W11 w12 := Upd.of_below hb12 (T := fun k => k = q) (fun j h1 h2 => by omega); have HBB12 := Lib.hid (HBB11.out.upd hu12 hqB); have HBR12 := Lib.hid (HBR11.out.upd hu12 (fun e => by have e2 : w.heap.size = q := e; omega)); have HU12 := Lib.hid (HU11.out.trans hu12); have hr12 : RR w12 q l10 false := Blk.below HR11.out hb12 (Blk.lt HR11.out); have HR12 := Lib.hid hr12; have fq1 : w12.frozen? ⟨q, 1, none⟩ = false := Blk.frozen hr12 1; have kq1 : w12.cell? ⟨q, 1, none⟩ = some (.bool false) := Blk.cell hr12 1; clear hb12 hu12 hr12)
            obtain ⟨W17, hW17⟩ : ∃ W17, W17 = w12.setCell ⟨q, 1, none⟩ (.bool true) := ⟨_, rfl⟩
            rw [← hW17]
            have hr17 : RR W17 q l10 true := by
              have := Blk.set_ HR12.out 1 (.bool true)
              rw [hW17]
              unfold RR
              simpa using this
            have hu17 : Upd (fun k => k = q) w12 W17 := by rw [hW17]; exact (Upd.refl (fun k => k = q) _).setCell (p := ⟨q, 1, none⟩) (.inl rfl) _
            have HBB17 := Lib.hid (HBB12.out.upd hu17 hqB)
            have HBR17 := Lib.hid (HBR12.out.upd hu17 (fun e => by have e2 : w.heap.size = q := e; omega))
            have HU17 := Lib.hid (HU12.out.trans hu17)
            have HR17 := Lib.hid hr17
            clear hW17 hr17 hu17
            have k0 : W17.cell? ⟨B, 0, none⟩ = some (.string X) := HBB17.out.cell 0
            have k1 : W17.cell? ⟨B, 1, none⟩ = some (.int .i64 (k : Int)) := HBB17.out.cell 1
            have k2 : W17.cell? ⟨B, 2, none⟩ = some (.string Y) := HBB17.out.cell 2
            have f0 : W17.frozen? ⟨w.heap.size, 0, none⟩ = false := HBR17.out.frozen 0
            have f1 : W17.frozen? ⟨w.heap.size, 1, none⟩ = false := HBR17.out.frozen 1
            have f2 : W17.frozen? ⟨w.heap.size, 2, none⟩ = false := HBR17.out.frozen 2
            have r0 : W17.cell? ⟨w.heap.size, 0, none⟩ = some (.string ⟨#[]⟩) := HBR17.out.cell 0
            have r1 : W17.cell? ⟨w.heap.size, 1, none⟩ = some (.int .i64 0) := HBR17.out.cell 1
            have r2 : W17.cell? ⟨w.heap.size, 2, none⟩ = some (.string ⟨#[]⟩) := HBR17.out.cell 2
            go_wp2_with fail
            refine ret_one Try.results78 w.heap.size _ (fin3 HBR17.out HR17.out (by omega)).1 rfl rfl rfl ?_
            rw [HAN.out]
            exact ⟨upd3 HU17.out, _, _, _, _, rfl, (fin3 HBR17.out HR17.out (by omega)).2⟩
          | true =>
            have HP2 : Hid (Rl.parR verL r = match Rl.skw l10 with | [] => none | c :: q => if c = 41 then some (k, V, q) else none) := Lib.hid (by rw [HPARR.out, if_neg (by rw [HVB.out]; simp [hk0])])
            obtain ⟨l11, hl11⟩ : ∃ l11, l11 = Rl.skw l10 := ⟨_, rfl⟩
            rw [← hl11] at HP2
            obtain ⟨c0, hc0⟩ : ∃ c0, c0 = hd0 l11 := ⟨_, rfl⟩
            have HL11 := Lib.hid hl11
            have HC0 := Lib.hid hc0
            clear hk0 hl11 hc0
            by_cases hc41 : c0 = 41
            case neg =>
              have q41 : (c0 != 41) = true := by rw [bne_iff_ne]; exact hc41
              have HAN : Hid (Rl.atomR nmL verL l = none) := Lib.hid (by
                rw [HAP.out, HP2.out]
                cases hl : l11 with
                | nil => rfl
                | cons b r9 =>
                  have hne : ¬ b = 41 := fun e => hc41 (by rw [HC0.out, hl, e]; rfl)
                  simp only [if_neg hne])
              clear hc41
              go_upto_region 18 with (first
                | (go_at_call 63; refine (HIS.out _).mono ?_; rintro e w12 ⟨rfl, hb12⟩; have hu12 : Upd (fun k => k = q) W11 w12 := Upd.of_below hb12 (T := fun k => k = q) (fun j h1 h2 => by omega); have HBB12 := Lib.hid (HBB11.out.upd hu12 hqB); have HBR12 := Lib.hid (HBR11.out.upd hu12 (fun e => by have e2 : w.heap.size = q := e; omega)); have HU12 := Lib.hid (HU11.out.trans hu12); have hr12 : RR w12 q l10 false := Blk.below HR11.out hb12 (Blk.lt HR11.out); have hpk := HPK.out w12 l10 false hr12 hl10l; rw [← HL11.out, ← HC0.out] at hpk; have HPK12 := Lib.hid hpk; clear hb12 hu12 hr12 hpk)
                | (go_at_call 77; refine HPK12.out.mono ?_; rintro e w13 ⟨rfl, hr13, hu13⟩; have HBB13 := Lib.hid (HBB12.out.upd hu13 hqB); have HBR13 := Lib.hid (HBR12.out.upd hu13 (fun e => by have e2 : w.heap.size = q := e; omega)); have HU13 := Lib.hid (HU12.out.trans hu13); have HR13 := Lib.hid hr13; have fq1 : w13.frozen? ⟨q, 1, none⟩ = false := Blk.frozen hr13 1; have kq1 : w13.cell? ⟨q, 1, none⟩ = some (.bool false) := Blk.cell hr13 1; clear hu13 hr13))
              obtain ⟨W17, hW17⟩ : ∃ W17, W17 = w13.setCell ⟨q, 1, none⟩ (.bool true) := ⟨_, rfl⟩
              rw [← hW17]
              have hr17 : RR W17 q l11 true := by
                have := Blk.set_ HR13.out 1 (.bool true)
                rw [hW17]
                unfold RR
                simpa using this
              have hu17 : Upd (fun k => k = q) w13 W17 := by rw [hW17]; exact (Upd.refl (fun k => k = q) _).setCell (p := ⟨q, 1, none⟩) (.inl rfl) _
              have HBB17 := Lib.hid (HBB13.out.upd hu17 hqB)
              have HBR17 := Lib.hid (HBR13.out.upd hu17 (fun e => by have e2 : w.heap.size = q := e; omega))
              have HU17 := Lib.hid (HU13.out.trans hu17)
              have HR17 := Lib.hid hr17
              clear hW17 hr17 hu17
              have k0 : W17.cell? ⟨B, 0, none⟩ = some (.string X) := HBB17.out.cell 0
              have k1 : W17.cell? ⟨B, 1, none⟩ = some (.int .i64 (k : Int)) := HBB17.out.cell 1
              have k2 : W17.cell? ⟨B, 2, none⟩ = some (.string Y) := HBB17.out.cell 2
              have f0 : W17.frozen? ⟨w.heap.size, 0, none⟩ = false := HBR17.out.frozen 0
              have f1 : W17.frozen? ⟨w.heap.size, 1, none⟩ = false := HBR17.out.frozen 1
              have f2 : W17.frozen? ⟨w.heap.size, 2, none⟩ = false := HBR17.out.frozen 2
              have r0 : W17.cell? ⟨w.heap.size, 0, none⟩ = some (.string ⟨#[]⟩) := HBR17.out.cell 0
              have r1 : W17.cell? ⟨w.heap.size, 1, none⟩ = some (.int .i64 0) := HBR17.out.cell 1
              have r2 : W17.cell? ⟨w.heap.size, 2, none⟩ = some (.string ⟨#[]⟩) := HBR17.out.cell 2
              go_wp2_with fail
              refine ret_one Try.results78 w.heap.size _ (fin3 HBR17.out HR17.out (by omega)).1 rfl rfl rfl ?_
              rw [HAN.out]
              exact ⟨upd3 HU17.out, _, _, _, _, rfl, (fin3 HBR17.out HR17.out (by omega)).2⟩
            have q41 : (c0 != 41) = false := by rw [hc41]; rfl
            obtain ⟨b, r9, hlr⟩ : ∃ b r9, l11 = b :: r9 := by
              cases hl : l11 with
              | nil => rw [HC0.out, hl] at hc41; exact absurd hc41 (by decide)
              | cons b r9 => exact ⟨b, r9, rfl⟩
            have hb41 : b = 41 := by
              rw [HC0.out, hlr] at hc41
              have h9 : b.toNat = 41 := by have : ((b.toNat : Nat) : Int) = 41 := hc41; omega
              exact UInt8.toNat_inj.1 h9
            have HAN : Hid (Rl.atomR nmL verL l = some (⟨N, k, V⟩, r9)) := Lib.hid (by rw [HAP.out, HP2.out, hlr, hb41]; rfl)
            obtain ⟨S3, hS3⟩ : ∃ S3, S3 = Rl.tob l11 := ⟨_, rfl⟩
            have hz4 : (1 : Int) ≤ (S3.size : Int) := by rw [hS3, tob_size, hlr]; have : (b :: r9 : Rl.Bs).length = r9.length + 1 := rfl; omega
            have HTL3 : Hid (S3.extract 1 S3.size = Rl.tob r9) := Lib.hid (by rw [hS3, hlr]; exact tob_drop (b :: r9) 1)
            have HS3 := Lib.hid hS3
            clear hc41 hb41 hlr hS3
            go_upto_region 19 with (first
              | (go_at_call 63; refine (HIS.out _).mono ?_; rintro e w12 ⟨rfl, hb12⟩; have hu12 : Upd (fun k => k = q) W11 w12 := Upd.of_below hb12 (T := fun k => k = q) (fun j h1 h2 => by omega); have HBB12 := Lib.hid (HBB11.out.upd hu12 hqB); have HBR12 := Lib.hid (HBR11.out.upd hu12 (fun e => by have e2 : w.heap.size = q := e; omega)); have HU12 := Lib.hid (HU11.out.trans hu12); have hr12 : RR w12 q l10 false := Blk.below HR11.out hb12 (Blk.lt HR11.out); have hpk := HPK.out w12 l10 false hr12 hl10l; rw [← HL11.out, ← HC0.out] at hpk; have HPK12 := Lib.hid hpk; clear hb12 hu12 hr12 hpk)
              | (go_at_call 77; refine HPK12.out.mono ?_; rintro e w13 ⟨rfl, hr13, hu13⟩; have HBB13 := Lib.hid (HBB12.out.upd hu13 hqB); have HBR13 := Lib.hid (HBR12.out.upd hu13 (fun e => by have e2 : w.heap.size = q := e; omega)); have HU13 := Lib.hid (HU12.out.trans hu13); have HR13 := Lib.hid hr13; have fq1 : w13.frozen? ⟨q, 1, none⟩ = false := Blk.frozen hr13 1; have kq1 : w13.cell? ⟨q, 1, none⟩ = some (.bool false) := Blk.cell hr13 1; clear hu13 hr13))
            have ks3 : w13.cell? ⟨q, 0, none⟩ = some (.string S3) := by rw [HS3.out]; exact Blk.cell HR13.out 0
            have fs3 : w13.frozen? ⟨q, 0, none⟩ = false := Blk.frozen HR13.out 0
            obtain ⟨W14, hW14⟩ : ∃ W14, W14 = w13.setCell ⟨q, 0, none⟩ (.string (S3.extract 1 S3.size)) := ⟨_, rfl⟩
            have hr14 : RR W14 q r9 false := by
              have := Blk.set_ HR13.out 0 (.string (S3.extract 1 S3.size))
              rw [hW14]
              unfold RR
              rw [← HTL3.out]
              simpa using this
            have hu14 : Upd (fun k => k = q) w13 W14 := by rw [hW14]; exact (Upd.refl (fun k => k = q) _).setCell (p := ⟨q, 0, none⟩) (.inl rfl) _
            have HBB14 := Lib.hid (HBB13.out.upd hu14 hqB)
            have HBR14 := Lib.hid (HBR13.out.upd hu14 (fun e => by have e2 : w.heap.size = q := e; omega))
            have HU14 := Lib.hid (HU13.out.trans hu14)
            have HR14 := Lib.hid hr14
            clear hr14 hu14
            go_upto_region 20 with fail
            rw [← hW14]
            clear hW14 ks3 fs3 fq1 kq1 kk1 kk2
            have k0 : W14.cell? ⟨B, 0, none⟩ = some (.string X) := HBB14.out.cell 0
            have k1 : W14.cell? ⟨B, 1, none⟩ = some (.int .i64 (k : Int)) := HBB14.out.cell 1
            have k2 : W14.cell? ⟨B, 2, none⟩ = some (.string Y) := HBB14.out.cell 2
            have f0 : W14.frozen? ⟨w.heap.size, 0, none⟩ = false := HBR14.out.frozen 0
            have f1 : W14.frozen? ⟨w.heap.size, 1, none⟩ = false := HBR14.out.frozen 1
            have f2 : W14.frozen? ⟨w.heap.size, 2, none⟩ = false := HBR14.out.frozen 2
            have r0 : W14.cell? ⟨w.heap.size, 0, none⟩ = some (.string ⟨#[]⟩) := HBR14.out.cell 0
            have r1 : W14.cell? ⟨w.heap.size, 1, none⟩ = some (.int .i64 0) := HBR14.out.cell 1
            have r2 : W14.cell? ⟨w.heap.size, 2, none⟩ = some (.string ⟨#[]⟩) := HBR14.out.cell 2
            go_wp2_with fail
            refine ret_one Try.results78 w.heap.size _ (fin3 HBR14.out HR14.out (by omega)).1 rfl rfl rfl ?_
            rw [HAN.out]
            exact ⟨upd3 HU14.out, by rw [HX.out, HY.out]; rfl, (fin3 HBR14.out HR14.out (by omega)).2⟩
end Go.Proofs.Ytjkaigfpjebfbaa
