/- Put together: chandlerref4.Number; TextNames: the walk; chandlerref9.Read, by kind; value.Read and chandlerref9.Read hand back the same, at any field, any text. -/
import Derived.Test.YtjkaigfpjebfbaaX2
import Derived.Test.YtjkaigfpjebfbaaX1
import Derived.Test.YtjkaigfpjebfbaaW4
import Derived.Test.YtjkaigfpjebfbaaRz
import Derived.Test.YtjkaigfpjebfbaaRl2
import Derived.Test.YtjkaigfpjebfbaaRm
import Derived.Test.YtjkaigfpjebfbaaVk
import Derived.ProofKit
import Derived.OpenShut
import Derived.ShutString
/- chandlerref4.Number; TextNames: the walk. -/
namespace Go.Proofs.Ytjkaigfpjebfbaa
open Go.RowKit
set_option linter.unusedVariables false

set_option maxRecDepth 100000 in
set_option maxHeartbeats 4000000 in
theorem RefNumber_any (s : ByteArray) (w : World) (hs : s.size ≤ 9223372036854775807) :
    Calls Try.prog 60 #[.string s] w fun e w' => e = .returned (numV (numZ s)) ∧ w = w' := by
  go_enter Try.func60, Try.ntmps60
  go_wp2
  go_loop [4, 8] (fun v8 v => ∃ (pos fuel acc : Nat), v = .int .i64 pos ∧ v8 = .int .i64 acc ∧ Hid (numFrom s fuel pos acc = numFrom s s.size 0 0) ∧ pos ≤ s.size ∧ s.size ≤ pos + fuel ∧ pos ≤ 9 ∧ acc < 10 ^ pos) (fun _ v => s.size - (intOf v).toNat)
  case atStart => exact ⟨0, s.size, 0, rfl, rfl, rfl, by omega, by omega, by omega, by simp⟩
  case round =>
    obtain ⟨pos, fuel, acc, rfl, rfl, HS, hps, hb, hp9, hacc⟩ := hrel
    have hacc9 := pow_nine pos acc hp9 hacc
    have HAcc := Lib.hid hacc
    clear hacc
    by_cases hp : pos < s.size
    · obtain ⟨fuel, rfl⟩ : ∃ f', fuel = f' + 1 := ⟨fuel - 1, by omega⟩
      have hx2 : ((s[pos]'hp).toNat : Nat) = byteAt s pos := (byteAt_get s pos hp).symm
      have hno := numFrom_no s fuel pos acc hp
      have hyes := numFrom_yes s fuel pos acc hp
      have hc8 := byteAt_lt s pos
      have HNo := Lib.hid hno
      have HYes := Lib.hid hyes
      clear hno hyes
      obtain ⟨c, hc⟩ : ∃ c, c = byteAt s pos := ⟨_, rfl⟩
      rw [← hc] at hx2 hc8 HNo HYes
      clear hc
      by_cases hd : 48 ≤ c ∧ c ≤ 57
      · have dg : digB c = true := decide_eq_true hd
        obtain ⟨hd1, hd2⟩ := hd
        by_cases h9 : 9 ≤ pos
        · have e : numZ s = (0, false) := by unfold numZ; rw [if_pos (.inr (.inl (by omega)))]
          have HE := Lib.hid e
          clear HNo HYes e
          go_wp2_with (go_at_call 79; refine (digit_any c _ hc8).mono ?_; rintro e w' ⟨rfl, rfl⟩)
          go_ret2
          exact ⟨ret_num (a := (0, false)) HE.out.symm, rfl⟩
        · have HF := Lib.hid (HYes.out dg)
          clear HNo HYes
          go_wp2_with (go_at_call 79; refine (digit_any c _ hc8).mono ?_; rintro e w' ⟨rfl, rfl⟩)
          go_round
          case rel => exact ⟨pos + 1, fuel, acc * 10 + (c - 48), by go_num, by go_num, by show _ = _; rw [← HS.out]; exact HF.out.symm, by omega, by omega, by omega, pow_step pos acc (c - 48) HAcc.out (by omega)⟩
          case measure => simp [intOf]; omega
      · have dg : digB c = false := decide_eq_false hd
        have HF := Lib.hid (HNo.out dg)
        clear HNo HYes hd
        go_wp2_with (go_at_call 79; refine (digit_any c _ hc8).mono ?_; rintro e w' ⟨rfl, rfl⟩)
        go_ret2
        exact ⟨ret_num (a := (0, false)) (numZ_no s (by rw [← HS.out]; exact HF.out)).symm, rfl⟩
    · have e : numFrom s s.size 0 0 = (acc, true) := by rw [← HS.out]; exact numFrom_end s fuel pos acc hp
      by_cases h0 : s.size = 0
      · have HE := Lib.hid (show numZ s = (0, false) by unfold numZ; rw [if_pos (.inl h0)])
        have h00 : ((s.size : Int) == 0) = true := beq_iff_eq.2 (by omega)
        clear e h0
        go_wp2
        go_ret2
        exact ⟨ret_num (a := (0, false)) HE.out.symm, rfl⟩
      · have h00 : ((s.size : Int) == 0) = false := beq_eq_false_iff_ne.2 (by omega)
        have hpos : 0 < s.size := by omega
        obtain ⟨b, hb⟩ : ∃ b, b = byteAt s 0 := ⟨_, rfl⟩
        have hx2 : ((s[0]'hpos).toNat : Nat) = b := by rw [hb, byteAt_get s 0 hpos]
        by_cases h1 : 1 < s.size ∧ b = 48
        · obtain ⟨h1, hb48⟩ := h1
          have HE := Lib.hid (show numZ s = (0, false) by unfold numZ; rw [if_pos (.inr (.inr ⟨h1, by rw [← hb]; exact hb48⟩))])
          have q48 : ((b : Int) == 48) = true := by (simp <;> omega)
          clear e h0 hb hb48
          go_wp2
          go_ret2
          exact ⟨ret_num (a := (0, false)) HE.out.symm, rfl⟩
        · have HE := Lib.hid (show numZ s = (acc, true) by
            unfold numZ
            rw [if_neg]
            · exact e
            · rintro (h | h | h)
              · exact h0 h
              · omega
              · exact h1 ⟨h.1, by rw [hb]; exact h.2⟩)
          have hcs : s.size ≤ 1 ∨ (2 ≤ s.size ∧ b ≠ 48) := by omega
          clear e h0 hb h1
          rcases hcs with h1 | ⟨h1, h2⟩
          · go_wp2
            go_ret2
            exact ⟨ret_num (a := (acc, true)) HE.out.symm, rfl⟩
          · have q48 : ((b : Int) == 48) = false := by (simp <;> omega)
            clear h2
            go_wp2
            go_ret2
            exact ⟨ret_num (a := (acc, true)) HE.out.symm, rfl⟩
end Go.Proofs.Ytjkaigfpjebfbaa
/- chandlerref9.Read, by kind. -/
namespace Go.Proofs.Ytjkaigfpjebfbaa
open Go.RowKit
set_option linter.unusedVariables false

theorem results_rv2 {fn : Func} {t p : Tmp} (h : fn.results = #[.cell p 37, .tmp t]) (tmps : Array Value) (w : World) (g : Nat) (cs : Array Value) (hp : tmps.getD p undef = .pointer (some ⟨g, 0, none⟩)) (hg : Blk w g 37 cs) (hs : cs.size = 7) :
    (results fn tmps).run Try.prog w = .ok (.tuple #[.agg cs, tmps.getD t undef]) w := by
  have hp' : tmps[p]?.getD undef = .pointer (some ⟨g, 0, none⟩) := by simpa using hp
  have hl := run_loadVar_row (P := Try.prog) w g 37 37 cs (0, 0) _ hg Try.underlying37 rfl (by rw [rv_size, hs])
  simp [results, h, hp', asAddr, hl]
theorem ret_rv2 {fn : Func} {t p : Tmp} {R : Ending → World → Prop} {a : Act} {w : World} (h : fn.results = #[.cell p 37, .tmp t]) (g : Nat) (cs : Array Value) (hg : Blk w g 37 cs) (hs : cs.size = 7)
    (hp : a.tmps.getD p undef = .pointer (some ⟨g, 0, none⟩)) (hd : a.defers = []) (hR : R (.returned (.tuple #[.agg cs, a.tmps.getD t undef])) w) : bodyPost Try.prog fn R .ret a w :=
  bodyPost_ret (results_rv2 h _ w g cs hp hg hs) hd hR
theorem blk_seven {w : World} {B : Nat} {t : TypeId} {a0 a1 a2 a3 a4 a5 a6 : Value} (h : Blk w B t #[a0, a1, a2, a3, a4, a5, a6]) (y0 y1 y2 y3 y4 y5 y6 : Value) :
    Blk (((((((w.setCell ⟨B, 0, none⟩ y0).setCell ⟨B, 1, none⟩ y1).setCell ⟨B, 2, none⟩ y2).setCell ⟨B, 3, none⟩ y3).setCell ⟨B, 4, none⟩ y4).setCell ⟨B, 5, none⟩ y5).setCell ⟨B, 6, none⟩ y6) B t #[y0, y1, y2, y3, y4, y5, y6] := by
  have h0 : Blk (w.setCell ⟨B, 0, none⟩ y0) B t #[y0, a1, a2, a3, a4, a5, a6] := h.set_ 0 y0
  have h1 : Blk ((w.setCell ⟨B, 0, none⟩ y0).setCell ⟨B, 1, none⟩ y1) B t #[y0, y1, a2, a3, a4, a5, a6] := h0.set_ 1 y1
  have h2 : Blk (((w.setCell ⟨B, 0, none⟩ y0).setCell ⟨B, 1, none⟩ y1).setCell ⟨B, 2, none⟩ y2) B t #[y0, y1, y2, a3, a4, a5, a6] := h1.set_ 2 y2
  have h3 : Blk ((((w.setCell ⟨B, 0, none⟩ y0).setCell ⟨B, 1, none⟩ y1).setCell ⟨B, 2, none⟩ y2).setCell ⟨B, 3, none⟩ y3) B t #[y0, y1, y2, y3, a4, a5, a6] := h2.set_ 3 y3
  have h4 : Blk (((((w.setCell ⟨B, 0, none⟩ y0).setCell ⟨B, 1, none⟩ y1).setCell ⟨B, 2, none⟩ y2).setCell ⟨B, 3, none⟩ y3).setCell ⟨B, 4, none⟩ y4) B t #[y0, y1, y2, y3, y4, a5, a6] := h3.set_ 4 y4
  have h5 : Blk ((((((w.setCell ⟨B, 0, none⟩ y0).setCell ⟨B, 1, none⟩ y1).setCell ⟨B, 2, none⟩ y2).setCell ⟨B, 3, none⟩ y3).setCell ⟨B, 4, none⟩ y4).setCell ⟨B, 5, none⟩ y5) B t #[y0, y1, y2, y3, y4, y5, a6] := h4.set_ 5 y5
  have h6 : Blk (((((((w.setCell ⟨B, 0, none⟩ y0).setCell ⟨B, 1, none⟩ y1).setCell ⟨B, 2, none⟩ y2).setCell ⟨B, 3, none⟩ y3).setCell ⟨B, 4, none⟩ y4).setCell ⟨B, 5, none⟩ y5).setCell ⟨B, 6, none⟩ y6) B t #[y0, y1, y2, y3, y4, y5, y6] := h5.set_ 6 y6
  exact h6
theorem upd_seven {T : Nat → Prop} (w : World) (B : Nat) (hT : T B) (y0 y1 y2 y3 y4 y5 y6 : Value) : Upd T w (((((((w.setCell ⟨B, 0, none⟩ y0).setCell ⟨B, 1, none⟩ y1).setCell ⟨B, 2, none⟩ y2).setCell ⟨B, 3, none⟩ y3).setCell ⟨B, 4, none⟩ y4).setCell ⟨B, 5, none⟩ y5).setCell ⟨B, 6, none⟩ y6) :=
  have s : ∀ (w' : World) (i : Nat) (u : Value), Upd T w w' → Upd T w (w'.setCell ⟨B, i, none⟩ u) := fun w' i u h => h.setCell (p := ⟨B, i, none⟩) (.inl hT) u
  s _ _ _ (s _ _ _ (s _ _ _ (s _ _ _ (s _ _ _ (s _ _ _ (s _ _ _ (Upd.refl _ w)))))))
/-- What the reference's Read hands back. -/
def RR9 (q : Nat) (s : ByteArray) (n : Int) (b : Bool) (C : List (List RA)) (A : List RA) (P : List RP) (E : Int) (w : World) (e : Ending) (w' : World) : Prop :=
  ∃ K vs vn vb Ac nc cc Aa na ca Ap np cp, e = .returned (.tuple #[.agg #[.string K, .string vs, .int .i64 vn, .bool vb, .slice Ac nc cc, .slice Aa na ca, .slice Ap np cp], .int .i64 E]) ∧ (E = 0 → K = kindB q ∧ vs = s ∧ vn = n ∧ vb = b ∧ ClsAt w' (.slice Ac nc cc) C ∧ AtsAt w' (.slice Aa na ca) A ∧ PrsAt w' (.slice Ap np cp) P) ∧ Below w.heap.size w w'

set_option maxRecDepth 100000 in
set_option maxHeartbeats 4000000 in
theorem RRead_clauses (nm s : ByteArray) (hn : nm.size ≤ 1048576) (hs : s.size ≤ 1048576) (hf : sortN nm = 4) (L : List (List RA)) (n : Int) (hp : ∀ W, Calls Try.prog 57 #[.string s] W fun e w' => Below W.heap.size W w' ∧ ∃ A m c, e = .returned (.tuple #[.slice A m c, .int .i64 n]) ∧ ∀ W', Upd (fun k => k < W.heap.size ∧ ¬ IsA w' k) w' W' → ClsAt W' (.slice A m c) L) (w : World) :
    Calls Try.prog 32 #[.string nm, .string s] w (fun e w' => RR9 4 ⟨#[]⟩ 0 false L [] [] n w e w') := by
  have hso := fun W => Sort_any nm W hn
  rw [hf] at hso
  have HSO : Hid (∀ W, Calls Try.prog 56 #[.string nm] W fun e w' => e = .returned (.string ⟨#[99, 108, 97, 117, 115, 101, 115]⟩) ∧ Below W.heap.size W w') := Lib.hid hso
  obtain ⟨w1, hw1⟩ : ∃ w1, w1 = w.alloc (.cells #[.string ⟨#[]⟩, .string ⟨#[]⟩, .int .i64 0, .bool false, .slice none 0 0, .slice none 0 0, .slice none 0 0] 37) := ⟨_, rfl⟩
  have HK : Hid (Blk w1 w.heap.size 37 #[.string ⟨#[]⟩, .string ⟨#[]⟩, .int .i64 0, .bool false, .slice none 0 0, .slice none 0 0, .slice none 0 0]) := Lib.hid (by rw [hw1]; exact Blk.new w _ _)
  have HZ : Hid (w1.heap.size = w.heap.size + 1) := Lib.hid (by rw [hw1]; simp)
  have HB : Hid (Below w.heap.size w w1) := Lib.hid (by rw [hw1]; exact (Below.refl _ w).alloc (Nat.le_refl _) _)
  clear hso hf
  have HP := Lib.hid hp
  clear hp
  by_cases h0 : n = 0
  · subst h0
    go_enter Try.func32, Try.ntmps32
    go_upto_region 1 with fail
    rw [← hw1]
    clear hw1
    go_upto_region 2 with (go_at_call 56; refine (HSO.out _).mono ?_; rintro e w2 ⟨rfl, hb⟩; have HK2 := Lib.hid (HK.out.below hb HK.out.lt); have HB2 := Lib.hid (HB.out.trans (hb.mono HB.out.size)); have hlt : w.heap.size < w2.heap.size := (by have := hb.size; have := HZ.out; omega); clear hb)
    obtain ⟨w3, hw3⟩ : ∃ w3, w3 = w2.alloc (.cells #[.string ⟨#[99, 108, 97, 117, 115, 101, 115]⟩, .string ⟨#[]⟩, .int .i64 0, .bool false, .slice none 0 0, .slice none 0 0, .slice none 0 0] 37) := ⟨_, rfl⟩
    rw [← hw3]
    have HK3 : Hid (Blk w3 w.heap.size 37 #[.string ⟨#[]⟩, .string ⟨#[]⟩, .int .i64 0, .bool false, .slice none 0 0, .slice none 0 0, .slice none 0 0]) := Lib.hid (by rw [hw3]; exact HK2.out.alloc _)
    have HV3 : Hid (Blk w3 w2.heap.size 37 #[.string ⟨#[99, 108, 97, 117, 115, 101, 115]⟩, .string ⟨#[]⟩, .int .i64 0, .bool false, .slice none 0 0, .slice none 0 0, .slice none 0 0]) := Lib.hid (by rw [hw3]; exact Blk.new w2 _ _)
    have HB3 : Hid (Below w.heap.size w w3) := Lib.hid (by rw [hw3]; exact HB2.out.alloc HB2.out.size _)
    obtain ⟨G, hG⟩ : ∃ G, G = w2.heap.size := ⟨_, rfl⟩
    rw [← hG] at hlt HV3 ⊢
    have HG := Lib.hid hlt
    clear hw3 hG hlt
    have c0 : w3.cell? ⟨G, 0, none⟩ = some (.string ⟨#[99, 108, 97, 117, 115, 101, 115]⟩) := HV3.out.cell 0
    go_upto_region 22 with (go_at_call 57; refine (HP.out _).mono ?_; rintro e w4 ⟨hb, VA, vm, vc, rfl, hc⟩; have HK4 := Lib.hid (HK3.out.below hb HK3.out.lt); have HV4 := Lib.hid (HV3.out.below hb HV3.out.lt); have HB4 := Lib.hid (HB3.out.trans (hb.mono HB3.out.size)); have HC4 := Lib.hid hc; have d4 : w4.cell? ⟨G, 4, none⟩ = some (.slice none 0 0) := HV4.out.cell 4; have e4 : w4.frozen? ⟨G, 4, none⟩ = false := HV4.out.frozen 4; clear hb hc)
    have HTB : Hid (w.heap.size < w3.heap.size ∧ ¬ IsA w4 w.heap.size) := Lib.hid ⟨HK3.out.lt, fun h => h.no HK4.out (by decide)⟩
    have HTG : Hid (G < w3.heap.size ∧ ¬ IsA w4 G) := Lib.hid ⟨HV3.out.lt, fun h => h.no HV4.out (by decide)⟩
    obtain ⟨w5, hw5⟩ : ∃ w5, w5 = w4.setCell ⟨G, 4, none⟩ (.slice VA vm vc) := ⟨_, rfl⟩
    rw [← hw5]
    have HK5 : Hid (Blk w5 w.heap.size 37 #[.string ⟨#[]⟩, .string ⟨#[]⟩, .int .i64 0, .bool false, .slice none 0 0, .slice none 0 0, .slice none 0 0]) := Lib.hid (by rw [hw5]; exact HK4.out.far (by have := HG.out; simp; omega) _)
    have HV5 : Hid (Blk w5 G 37 #[.string ⟨#[99, 108, 97, 117, 115, 101, 115]⟩, .string ⟨#[]⟩, .int .i64 0, .bool false, .slice VA vm vc, .slice none 0 0, .slice none 0 0]) := Lib.hid (by rw [hw5]; exact HV4.out.set_ 4 _)
    have HB5 : Hid (Below w.heap.size w w5) := Lib.hid (by rw [hw5]; exact HB4.out.setCell (by have := HG.out; simp; omega) _)
    have HS5 : Hid (Upd (fun k => k < w3.heap.size ∧ ¬ IsA w4 k) w4 w5) := Lib.hid (by rw [hw5]; exact (Upd.refl _ _).setCell (.inl HTG.out) _)
    have b0 : w5.cell? ⟨w.heap.size, 0, none⟩ = some (.string ⟨#[]⟩) := HK5.out.cell 0
    have f0 : w5.frozen? ⟨w.heap.size, 0, none⟩ = false := HK5.out.frozen 0
    have g0 : w5.cell? ⟨G, 0, none⟩ = some (.string ⟨#[99, 108, 97, 117, 115, 101, 115]⟩) := HV5.out.cell 0
    have b1 : w5.cell? ⟨w.heap.size, 1, none⟩ = some (.string ⟨#[]⟩) := HK5.out.cell 1
    have f1 : w5.frozen? ⟨w.heap.size, 1, none⟩ = false := HK5.out.frozen 1
    have g1 : w5.cell? ⟨G, 1, none⟩ = some (.string ⟨#[]⟩) := HV5.out.cell 1
    have b2 : w5.cell? ⟨w.heap.size, 2, none⟩ = some (.int .i64 0) := HK5.out.cell 2
    have f2 : w5.frozen? ⟨w.heap.size, 2, none⟩ = false := HK5.out.frozen 2
    have g2 : w5.cell? ⟨G, 2, none⟩ = some (.int .i64 0) := HV5.out.cell 2
    have b3 : w5.cell? ⟨w.heap.size, 3, none⟩ = some (.bool false) := HK5.out.cell 3
    have f3 : w5.frozen? ⟨w.heap.size, 3, none⟩ = false := HK5.out.frozen 3
    have g3 : w5.cell? ⟨G, 3, none⟩ = some (.bool false) := HV5.out.cell 3
    have b4 : w5.cell? ⟨w.heap.size, 4, none⟩ = some (.slice none 0 0) := HK5.out.cell 4
    have f4 : w5.frozen? ⟨w.heap.size, 4, none⟩ = false := HK5.out.frozen 4
    have g4 : w5.cell? ⟨G, 4, none⟩ = some (.slice VA vm vc) := HV5.out.cell 4
    have b5 : w5.cell? ⟨w.heap.size, 5, none⟩ = some (.slice none 0 0) := HK5.out.cell 5
    have f5 : w5.frozen? ⟨w.heap.size, 5, none⟩ = false := HK5.out.frozen 5
    have g5 : w5.cell? ⟨G, 5, none⟩ = some (.slice none 0 0) := HV5.out.cell 5
    have b6 : w5.cell? ⟨w.heap.size, 6, none⟩ = some (.slice none 0 0) := HK5.out.cell 6
    have f6 : w5.frozen? ⟨w.heap.size, 6, none⟩ = false := HK5.out.frozen 6
    have g6 : w5.cell? ⟨G, 6, none⟩ = some (.slice none 0 0) := HV5.out.cell 6
    clear hw5
    go_wp2_with fail
    refine ret_rv2 Try.results32 w.heap.size #[.string ⟨#[99, 108, 97, 117, 115, 101, 115]⟩, .string ⟨#[]⟩, .int .i64 0, .bool false, .slice VA vm vc, .slice none 0 0, .slice none 0 0] (blk_seven HK5.out (.string ⟨#[99, 108, 97, 117, 115, 101, 115]⟩) (.string ⟨#[]⟩) (.int .i64 0) (.bool false) (.slice VA vm vc) (.slice none 0 0) (.slice none 0 0)) rfl rfl rfl ⟨_, _, _, _, _, _, _, _, _, _, _, _, _, rfl, fun _ => ⟨rfl, rfl, rfl, rfl, HC4.out _ (HS5.out.trans (upd_seven _ _ HTB.out _ _ _ _ _ _ _)), AtsAt.nil _, PrsAt.nil _⟩, HB5.out.trans ((upd_seven (T := fun k => k = w.heap.size) _ _ rfl _ _ _ _ _ _ _).below (fun k hk => by have hk : k = w.heap.size := hk; omega) HB5.out.size)⟩
  · have q1 : (n != 0) = true := by rw [bne_iff_ne]; exact h0
    have H0 := Lib.hid h0
    clear h0
    go_enter Try.func32, Try.ntmps32
    go_upto_region 1 with fail
    rw [← hw1]
    clear hw1
    go_upto_region 2 with (go_at_call 56; refine (HSO.out _).mono ?_; rintro e w2 ⟨rfl, hb⟩; have HK2 := Lib.hid (HK.out.below hb HK.out.lt); have HB2 := Lib.hid (HB.out.trans (hb.mono HB.out.size)); have hlt : w.heap.size < w2.heap.size := (by have := hb.size; have := HZ.out; omega); clear hb)
    obtain ⟨w3, hw3⟩ : ∃ w3, w3 = w2.alloc (.cells #[.string ⟨#[99, 108, 97, 117, 115, 101, 115]⟩, .string ⟨#[]⟩, .int .i64 0, .bool false, .slice none 0 0, .slice none 0 0, .slice none 0 0] 37) := ⟨_, rfl⟩
    rw [← hw3]
    have HK3 : Hid (Blk w3 w.heap.size 37 #[.string ⟨#[]⟩, .string ⟨#[]⟩, .int .i64 0, .bool false, .slice none 0 0, .slice none 0 0, .slice none 0 0]) := Lib.hid (by rw [hw3]; exact HK2.out.alloc _)
    have HV3 : Hid (Blk w3 w2.heap.size 37 #[.string ⟨#[99, 108, 97, 117, 115, 101, 115]⟩, .string ⟨#[]⟩, .int .i64 0, .bool false, .slice none 0 0, .slice none 0 0, .slice none 0 0]) := Lib.hid (by rw [hw3]; exact Blk.new w2 _ _)
    have HB3 : Hid (Below w.heap.size w w3) := Lib.hid (by rw [hw3]; exact HB2.out.alloc HB2.out.size _)
    obtain ⟨G, hG⟩ : ∃ G, G = w2.heap.size := ⟨_, rfl⟩
    rw [← hG] at hlt HV3 ⊢
    have HG := Lib.hid hlt
    clear hw3 hG hlt
    have c0 : w3.cell? ⟨G, 0, none⟩ = some (.string ⟨#[99, 108, 97, 117, 115, 101, 115]⟩) := HV3.out.cell 0
    go_upto_region 22 with (go_at_call 57; refine (HP.out _).mono ?_; rintro e w4 ⟨hb, VA, vm, vc, rfl, hc⟩; have HK4 := Lib.hid (HK3.out.below hb HK3.out.lt); have HV4 := Lib.hid (HV3.out.below hb HV3.out.lt); have HB4 := Lib.hid (HB3.out.trans (hb.mono HB3.out.size)); have HC4 := Lib.hid hc; have d4 : w4.cell? ⟨G, 4, none⟩ = some (.slice none 0 0) := HV4.out.cell 4; have e4 : w4.frozen? ⟨G, 4, none⟩ = false := HV4.out.frozen 4; clear hb hc)
    obtain ⟨w5, hw5⟩ : ∃ w5, w5 = w4.setCell ⟨G, 4, none⟩ (.slice VA vm vc) := ⟨_, rfl⟩
    rw [← hw5]
    have HK5 : Hid (Blk w5 w.heap.size 37 #[.string ⟨#[]⟩, .string ⟨#[]⟩, .int .i64 0, .bool false, .slice none 0 0, .slice none 0 0, .slice none 0 0]) := Lib.hid (by rw [hw5]; exact HK4.out.far (by have := HG.out; simp; omega) _)
    have HV5 : Hid (Blk w5 G 37 #[.string ⟨#[99, 108, 97, 117, 115, 101, 115]⟩, .string ⟨#[]⟩, .int .i64 0, .bool false, .slice VA vm vc, .slice none 0 0, .slice none 0 0]) := Lib.hid (by rw [hw5]; exact HV4.out.set_ 4 _)
    have HB5 : Hid (Below w.heap.size w w5) := Lib.hid (by rw [hw5]; exact HB4.out.setCell (by have := HG.out; simp; omega) _)
    have b0 : w5.cell? ⟨w.heap.size, 0, none⟩ = some (.string ⟨#[]⟩) := HK5.out.cell 0
    have f0 : w5.frozen? ⟨w.heap.size, 0, none⟩ = false := HK5.out.frozen 0
    have g0 : w5.cell? ⟨G, 0, none⟩ = some (.string ⟨#[99, 108, 97, 117, 115, 101, 115]⟩) := HV5.out.cell 0
    have b1 : w5.cell? ⟨w.heap.size, 1, none⟩ = some (.string ⟨#[]⟩) := HK5.out.cell 1
    have f1 : w5.frozen? ⟨w.heap.size, 1, none⟩ = false := HK5.out.frozen 1
    have g1 : w5.cell? ⟨G, 1, none⟩ = some (.string ⟨#[]⟩) := HV5.out.cell 1
    have b2 : w5.cell? ⟨w.heap.size, 2, none⟩ = some (.int .i64 0) := HK5.out.cell 2
    have f2 : w5.frozen? ⟨w.heap.size, 2, none⟩ = false := HK5.out.frozen 2
    have g2 : w5.cell? ⟨G, 2, none⟩ = some (.int .i64 0) := HV5.out.cell 2
    have b3 : w5.cell? ⟨w.heap.size, 3, none⟩ = some (.bool false) := HK5.out.cell 3
    have f3 : w5.frozen? ⟨w.heap.size, 3, none⟩ = false := HK5.out.frozen 3
    have g3 : w5.cell? ⟨G, 3, none⟩ = some (.bool false) := HV5.out.cell 3
    have b4 : w5.cell? ⟨w.heap.size, 4, none⟩ = some (.slice none 0 0) := HK5.out.cell 4
    have f4 : w5.frozen? ⟨w.heap.size, 4, none⟩ = false := HK5.out.frozen 4
    have g4 : w5.cell? ⟨G, 4, none⟩ = some (.slice VA vm vc) := HV5.out.cell 4
    have b5 : w5.cell? ⟨w.heap.size, 5, none⟩ = some (.slice none 0 0) := HK5.out.cell 5
    have f5 : w5.frozen? ⟨w.heap.size, 5, none⟩ = false := HK5.out.frozen 5
    have g5 : w5.cell? ⟨G, 5, none⟩ = some (.slice none 0 0) := HV5.out.cell 5
    have b6 : w5.cell? ⟨w.heap.size, 6, none⟩ = some (.slice none 0 0) := HK5.out.cell 6
    have f6 : w5.frozen? ⟨w.heap.size, 6, none⟩ = false := HK5.out.frozen 6
    have g6 : w5.cell? ⟨G, 6, none⟩ = some (.slice none 0 0) := HV5.out.cell 6
    clear hw5
    go_wp2_with fail
    refine ret_rv2 Try.results32 w.heap.size #[.string ⟨#[]⟩, .string ⟨#[]⟩, .int .i64 0, .bool false, .slice none 0 0, .slice none 0 0, .slice none 0 0] (blk_seven HK5.out (.string ⟨#[]⟩) (.string ⟨#[]⟩) (.int .i64 0) (.bool false) (.slice none 0 0) (.slice none 0 0) (.slice none 0 0)) rfl rfl rfl ⟨_, _, _, _, _, _, _, _, _, _, _, _, _, rfl, fun h => absurd h H0.out, HB5.out.trans ((upd_seven (T := fun k => k = w.heap.size) _ _ rfl _ _ _ _ _ _ _).below (fun k hk => by have hk : k = w.heap.size := hk; omega) HB5.out.size)⟩
set_option maxRecDepth 100000 in
set_option maxHeartbeats 4000000 in
theorem RRead_atoms (nm s : ByteArray) (hn : nm.size ≤ 1048576) (hs : s.size ≤ 1048576) (hf : sortN nm = 5) (L : List RA) (n : Int) (hp : ∀ W, Calls Try.prog 58 #[.string s] W fun e w' => Below W.heap.size W w' ∧ ∃ A m c, e = .returned (.tuple #[.slice A m c, .int .i64 n]) ∧ ∀ W', Upd (fun k => k < W.heap.size ∧ ¬ IsA w' k) w' W' → AtsAt W' (.slice A m c) L) (w : World) :
    Calls Try.prog 32 #[.string nm, .string s] w (fun e w' => RR9 5 ⟨#[]⟩ 0 false [] L [] n w e w') := by
  have hso := fun W => Sort_any nm W hn
  rw [hf] at hso
  have HSO : Hid (∀ W, Calls Try.prog 56 #[.string nm] W fun e w' => e = .returned (.string ⟨#[97, 116, 111, 109, 115]⟩) ∧ Below W.heap.size W w') := Lib.hid hso
  obtain ⟨w1, hw1⟩ : ∃ w1, w1 = w.alloc (.cells #[.string ⟨#[]⟩, .string ⟨#[]⟩, .int .i64 0, .bool false, .slice none 0 0, .slice none 0 0, .slice none 0 0] 37) := ⟨_, rfl⟩
  have HK : Hid (Blk w1 w.heap.size 37 #[.string ⟨#[]⟩, .string ⟨#[]⟩, .int .i64 0, .bool false, .slice none 0 0, .slice none 0 0, .slice none 0 0]) := Lib.hid (by rw [hw1]; exact Blk.new w _ _)
  have HZ : Hid (w1.heap.size = w.heap.size + 1) := Lib.hid (by rw [hw1]; simp)
  have HB : Hid (Below w.heap.size w w1) := Lib.hid (by rw [hw1]; exact (Below.refl _ w).alloc (Nat.le_refl _) _)
  clear hso hf
  have HP := Lib.hid hp
  clear hp
  by_cases h0 : n = 0
  · subst h0
    go_enter Try.func32, Try.ntmps32
    go_upto_region 1 with fail
    rw [← hw1]
    clear hw1
    go_upto_region 2 with (go_at_call 56; refine (HSO.out _).mono ?_; rintro e w2 ⟨rfl, hb⟩; have HK2 := Lib.hid (HK.out.below hb HK.out.lt); have HB2 := Lib.hid (HB.out.trans (hb.mono HB.out.size)); have hlt : w.heap.size < w2.heap.size := (by have := hb.size; have := HZ.out; omega); clear hb)
    obtain ⟨w3, hw3⟩ : ∃ w3, w3 = w2.alloc (.cells #[.string ⟨#[97, 116, 111, 109, 115]⟩, .string ⟨#[]⟩, .int .i64 0, .bool false, .slice none 0 0, .slice none 0 0, .slice none 0 0] 37) := ⟨_, rfl⟩
    rw [← hw3]
    have HK3 : Hid (Blk w3 w.heap.size 37 #[.string ⟨#[]⟩, .string ⟨#[]⟩, .int .i64 0, .bool false, .slice none 0 0, .slice none 0 0, .slice none 0 0]) := Lib.hid (by rw [hw3]; exact HK2.out.alloc _)
    have HV3 : Hid (Blk w3 w2.heap.size 37 #[.string ⟨#[97, 116, 111, 109, 115]⟩, .string ⟨#[]⟩, .int .i64 0, .bool false, .slice none 0 0, .slice none 0 0, .slice none 0 0]) := Lib.hid (by rw [hw3]; exact Blk.new w2 _ _)
    have HB3 : Hid (Below w.heap.size w w3) := Lib.hid (by rw [hw3]; exact HB2.out.alloc HB2.out.size _)
    obtain ⟨G, hG⟩ : ∃ G, G = w2.heap.size := ⟨_, rfl⟩
    rw [← hG] at hlt HV3 ⊢
    have HG := Lib.hid hlt
    clear hw3 hG hlt
    have c0 : w3.cell? ⟨G, 0, none⟩ = some (.string ⟨#[97, 116, 111, 109, 115]⟩) := HV3.out.cell 0
    go_upto_region 22 with (go_at_call 58; refine (HP.out _).mono ?_; rintro e w4 ⟨hb, VA, vm, vc, rfl, hc⟩; have HK4 := Lib.hid (HK3.out.below hb HK3.out.lt); have HV4 := Lib.hid (HV3.out.below hb HV3.out.lt); have HB4 := Lib.hid (HB3.out.trans (hb.mono HB3.out.size)); have HC4 := Lib.hid hc; have d4 : w4.cell? ⟨G, 5, none⟩ = some (.slice none 0 0) := HV4.out.cell 5; have e4 : w4.frozen? ⟨G, 5, none⟩ = false := HV4.out.frozen 5; clear hb hc)
    have HTB : Hid (w.heap.size < w3.heap.size ∧ ¬ IsA w4 w.heap.size) := Lib.hid ⟨HK3.out.lt, fun h => h.no HK4.out (by decide)⟩
    have HTG : Hid (G < w3.heap.size ∧ ¬ IsA w4 G) := Lib.hid ⟨HV3.out.lt, fun h => h.no HV4.out (by decide)⟩
    obtain ⟨w5, hw5⟩ : ∃ w5, w5 = w4.setCell ⟨G, 5, none⟩ (.slice VA vm vc) := ⟨_, rfl⟩
    rw [← hw5]
    have HK5 : Hid (Blk w5 w.heap.size 37 #[.string ⟨#[]⟩, .string ⟨#[]⟩, .int .i64 0, .bool false, .slice none 0 0, .slice none 0 0, .slice none 0 0]) := Lib.hid (by rw [hw5]; exact HK4.out.far (by have := HG.out; simp; omega) _)
    have HV5 : Hid (Blk w5 G 37 #[.string ⟨#[97, 116, 111, 109, 115]⟩, .string ⟨#[]⟩, .int .i64 0, .bool false, .slice none 0 0, .slice VA vm vc, .slice none 0 0]) := Lib.hid (by rw [hw5]; exact HV4.out.set_ 5 _)
    have HB5 : Hid (Below w.heap.size w w5) := Lib.hid (by rw [hw5]; exact HB4.out.setCell (by have := HG.out; simp; omega) _)
    have HS5 : Hid (Upd (fun k => k < w3.heap.size ∧ ¬ IsA w4 k) w4 w5) := Lib.hid (by rw [hw5]; exact (Upd.refl _ _).setCell (.inl HTG.out) _)
    have b0 : w5.cell? ⟨w.heap.size, 0, none⟩ = some (.string ⟨#[]⟩) := HK5.out.cell 0
    have f0 : w5.frozen? ⟨w.heap.size, 0, none⟩ = false := HK5.out.frozen 0
    have g0 : w5.cell? ⟨G, 0, none⟩ = some (.string ⟨#[97, 116, 111, 109, 115]⟩) := HV5.out.cell 0
    have b1 : w5.cell? ⟨w.heap.size, 1, none⟩ = some (.string ⟨#[]⟩) := HK5.out.cell 1
    have f1 : w5.frozen? ⟨w.heap.size, 1, none⟩ = false := HK5.out.frozen 1
    have g1 : w5.cell? ⟨G, 1, none⟩ = some (.string ⟨#[]⟩) := HV5.out.cell 1
    have b2 : w5.cell? ⟨w.heap.size, 2, none⟩ = some (.int .i64 0) := HK5.out.cell 2
    have f2 : w5.frozen? ⟨w.heap.size, 2, none⟩ = false := HK5.out.frozen 2
    have g2 : w5.cell? ⟨G, 2, none⟩ = some (.int .i64 0) := HV5.out.cell 2
    have b3 : w5.cell? ⟨w.heap.size, 3, none⟩ = some (.bool false) := HK5.out.cell 3
    have f3 : w5.frozen? ⟨w.heap.size, 3, none⟩ = false := HK5.out.frozen 3
    have g3 : w5.cell? ⟨G, 3, none⟩ = some (.bool false) := HV5.out.cell 3
    have b4 : w5.cell? ⟨w.heap.size, 4, none⟩ = some (.slice none 0 0) := HK5.out.cell 4
    have f4 : w5.frozen? ⟨w.heap.size, 4, none⟩ = false := HK5.out.frozen 4
    have g4 : w5.cell? ⟨G, 4, none⟩ = some (.slice none 0 0) := HV5.out.cell 4
    have b5 : w5.cell? ⟨w.heap.size, 5, none⟩ = some (.slice none 0 0) := HK5.out.cell 5
    have f5 : w5.frozen? ⟨w.heap.size, 5, none⟩ = false := HK5.out.frozen 5
    have g5 : w5.cell? ⟨G, 5, none⟩ = some (.slice VA vm vc) := HV5.out.cell 5
    have b6 : w5.cell? ⟨w.heap.size, 6, none⟩ = some (.slice none 0 0) := HK5.out.cell 6
    have f6 : w5.frozen? ⟨w.heap.size, 6, none⟩ = false := HK5.out.frozen 6
    have g6 : w5.cell? ⟨G, 6, none⟩ = some (.slice none 0 0) := HV5.out.cell 6
    clear hw5
    go_wp2_with fail
    refine ret_rv2 Try.results32 w.heap.size #[.string ⟨#[97, 116, 111, 109, 115]⟩, .string ⟨#[]⟩, .int .i64 0, .bool false, .slice none 0 0, .slice VA vm vc, .slice none 0 0] (blk_seven HK5.out (.string ⟨#[97, 116, 111, 109, 115]⟩) (.string ⟨#[]⟩) (.int .i64 0) (.bool false) (.slice none 0 0) (.slice VA vm vc) (.slice none 0 0)) rfl rfl rfl ⟨_, _, _, _, _, _, _, _, _, _, _, _, _, rfl, fun _ => ⟨rfl, rfl, rfl, rfl, ClsAt.nil _, HC4.out _ (HS5.out.trans (upd_seven _ _ HTB.out _ _ _ _ _ _ _)), PrsAt.nil _⟩, HB5.out.trans ((upd_seven (T := fun k => k = w.heap.size) _ _ rfl _ _ _ _ _ _ _).below (fun k hk => by have hk : k = w.heap.size := hk; omega) HB5.out.size)⟩
  · have q1 : (n != 0) = true := by rw [bne_iff_ne]; exact h0
    have H0 := Lib.hid h0
    clear h0
    go_enter Try.func32, Try.ntmps32
    go_upto_region 1 with fail
    rw [← hw1]
    clear hw1
    go_upto_region 2 with (go_at_call 56; refine (HSO.out _).mono ?_; rintro e w2 ⟨rfl, hb⟩; have HK2 := Lib.hid (HK.out.below hb HK.out.lt); have HB2 := Lib.hid (HB.out.trans (hb.mono HB.out.size)); have hlt : w.heap.size < w2.heap.size := (by have := hb.size; have := HZ.out; omega); clear hb)
    obtain ⟨w3, hw3⟩ : ∃ w3, w3 = w2.alloc (.cells #[.string ⟨#[97, 116, 111, 109, 115]⟩, .string ⟨#[]⟩, .int .i64 0, .bool false, .slice none 0 0, .slice none 0 0, .slice none 0 0] 37) := ⟨_, rfl⟩
    rw [← hw3]
    have HK3 : Hid (Blk w3 w.heap.size 37 #[.string ⟨#[]⟩, .string ⟨#[]⟩, .int .i64 0, .bool false, .slice none 0 0, .slice none 0 0, .slice none 0 0]) := Lib.hid (by rw [hw3]; exact HK2.out.alloc _)
    have HV3 : Hid (Blk w3 w2.heap.size 37 #[.string ⟨#[97, 116, 111, 109, 115]⟩, .string ⟨#[]⟩, .int .i64 0, .bool false, .slice none 0 0, .slice none 0 0, .slice none 0 0]) := Lib.hid (by rw [hw3]; exact Blk.new w2 _ _)
    have HB3 : Hid (Below w.heap.size w w3) := Lib.hid (by rw [hw3]; exact HB2.out.alloc HB2.out.size _)
    obtain ⟨G, hG⟩ : ∃ G, G = w2.heap.size := ⟨_, rfl⟩
    rw [← hG] at hlt HV3 ⊢
    have HG := Lib.hid hlt
    clear hw3 hG hlt
    have c0 : w3.cell? ⟨G, 0, none⟩ = some (.string ⟨#[97, 116, 111, 109, 115]⟩) := HV3.out.cell 0
    go_upto_region 22 with (go_at_call 58; refine (HP.out _).mono ?_; rintro e w4 ⟨hb, VA, vm, vc, rfl, hc⟩; have HK4 := Lib.hid (HK3.out.below hb HK3.out.lt); have HV4 := Lib.hid (HV3.out.below hb HV3.out.lt); have HB4 := Lib.hid (HB3.out.trans (hb.mono HB3.out.size)); have HC4 := Lib.hid hc; have d4 : w4.cell? ⟨G, 5, none⟩ = some (.slice none 0 0) := HV4.out.cell 5; have e4 : w4.frozen? ⟨G, 5, none⟩ = false := HV4.out.frozen 5; clear hb hc)
    obtain ⟨w5, hw5⟩ : ∃ w5, w5 = w4.setCell ⟨G, 5, none⟩ (.slice VA vm vc) := ⟨_, rfl⟩
    rw [← hw5]
    have HK5 : Hid (Blk w5 w.heap.size 37 #[.string ⟨#[]⟩, .string ⟨#[]⟩, .int .i64 0, .bool false, .slice none 0 0, .slice none 0 0, .slice none 0 0]) := Lib.hid (by rw [hw5]; exact HK4.out.far (by have := HG.out; simp; omega) _)
    have HV5 : Hid (Blk w5 G 37 #[.string ⟨#[97, 116, 111, 109, 115]⟩, .string ⟨#[]⟩, .int .i64 0, .bool false, .slice none 0 0, .slice VA vm vc, .slice none 0 0]) := Lib.hid (by rw [hw5]; exact HV4.out.set_ 5 _)
    have HB5 : Hid (Below w.heap.size w w5) := Lib.hid (by rw [hw5]; exact HB4.out.setCell (by have := HG.out; simp; omega) _)
    have b0 : w5.cell? ⟨w.heap.size, 0, none⟩ = some (.string ⟨#[]⟩) := HK5.out.cell 0
    have f0 : w5.frozen? ⟨w.heap.size, 0, none⟩ = false := HK5.out.frozen 0
    have g0 : w5.cell? ⟨G, 0, none⟩ = some (.string ⟨#[97, 116, 111, 109, 115]⟩) := HV5.out.cell 0
    have b1 : w5.cell? ⟨w.heap.size, 1, none⟩ = some (.string ⟨#[]⟩) := HK5.out.cell 1
    have f1 : w5.frozen? ⟨w.heap.size, 1, none⟩ = false := HK5.out.frozen 1
    have g1 : w5.cell? ⟨G, 1, none⟩ = some (.string ⟨#[]⟩) := HV5.out.cell 1
    have b2 : w5.cell? ⟨w.heap.size, 2, none⟩ = some (.int .i64 0) := HK5.out.cell 2
    have f2 : w5.frozen? ⟨w.heap.size, 2, none⟩ = false := HK5.out.frozen 2
    have g2 : w5.cell? ⟨G, 2, none⟩ = some (.int .i64 0) := HV5.out.cell 2
    have b3 : w5.cell? ⟨w.heap.size, 3, none⟩ = some (.bool false) := HK5.out.cell 3
    have f3 : w5.frozen? ⟨w.heap.size, 3, none⟩ = false := HK5.out.frozen 3
    have g3 : w5.cell? ⟨G, 3, none⟩ = some (.bool false) := HV5.out.cell 3
    have b4 : w5.cell? ⟨w.heap.size, 4, none⟩ = some (.slice none 0 0) := HK5.out.cell 4
    have f4 : w5.frozen? ⟨w.heap.size, 4, none⟩ = false := HK5.out.frozen 4
    have g4 : w5.cell? ⟨G, 4, none⟩ = some (.slice none 0 0) := HV5.out.cell 4
    have b5 : w5.cell? ⟨w.heap.size, 5, none⟩ = some (.slice none 0 0) := HK5.out.cell 5
    have f5 : w5.frozen? ⟨w.heap.size, 5, none⟩ = false := HK5.out.frozen 5
    have g5 : w5.cell? ⟨G, 5, none⟩ = some (.slice VA vm vc) := HV5.out.cell 5
    have b6 : w5.cell? ⟨w.heap.size, 6, none⟩ = some (.slice none 0 0) := HK5.out.cell 6
    have f6 : w5.frozen? ⟨w.heap.size, 6, none⟩ = false := HK5.out.frozen 6
    have g6 : w5.cell? ⟨G, 6, none⟩ = some (.slice none 0 0) := HV5.out.cell 6
    clear hw5
    go_wp2_with fail
    refine ret_rv2 Try.results32 w.heap.size #[.string ⟨#[]⟩, .string ⟨#[]⟩, .int .i64 0, .bool false, .slice none 0 0, .slice none 0 0, .slice none 0 0] (blk_seven HK5.out (.string ⟨#[]⟩) (.string ⟨#[]⟩) (.int .i64 0) (.bool false) (.slice none 0 0) (.slice none 0 0) (.slice none 0 0)) rfl rfl rfl ⟨_, _, _, _, _, _, _, _, _, _, _, _, _, rfl, fun h => absurd h H0.out, HB5.out.trans ((upd_seven (T := fun k => k = w.heap.size) _ _ rfl _ _ _ _ _ _ _).below (fun k hk => by have hk : k = w.heap.size := hk; omega) HB5.out.size)⟩
set_option maxRecDepth 100000 in
set_option maxHeartbeats 4000000 in
theorem RRead_provides (nm s : ByteArray) (hn : nm.size ≤ 1048576) (hs : s.size ≤ 1048576) (hf : sortN nm = 6) (L : List RP) (n : Int) (hp : ∀ W, Calls Try.prog 59 #[.string s] W fun e w' => Below W.heap.size W w' ∧ ∃ A m c, e = .returned (.tuple #[.slice A m c, .int .i64 n]) ∧ ∀ W', Upd (fun k => k < W.heap.size ∧ ¬ IsA w' k) w' W' → PrsAt W' (.slice A m c) L) (w : World) :
    Calls Try.prog 32 #[.string nm, .string s] w (fun e w' => RR9 6 ⟨#[]⟩ 0 false [] [] L n w e w') := by
  have hso := fun W => Sort_any nm W hn
  rw [hf] at hso
  have HSO : Hid (∀ W, Calls Try.prog 56 #[.string nm] W fun e w' => e = .returned (.string ⟨#[112, 114, 111, 118, 105, 100, 101, 115]⟩) ∧ Below W.heap.size W w') := Lib.hid hso
  obtain ⟨w1, hw1⟩ : ∃ w1, w1 = w.alloc (.cells #[.string ⟨#[]⟩, .string ⟨#[]⟩, .int .i64 0, .bool false, .slice none 0 0, .slice none 0 0, .slice none 0 0] 37) := ⟨_, rfl⟩
  have HK : Hid (Blk w1 w.heap.size 37 #[.string ⟨#[]⟩, .string ⟨#[]⟩, .int .i64 0, .bool false, .slice none 0 0, .slice none 0 0, .slice none 0 0]) := Lib.hid (by rw [hw1]; exact Blk.new w _ _)
  have HZ : Hid (w1.heap.size = w.heap.size + 1) := Lib.hid (by rw [hw1]; simp)
  have HB : Hid (Below w.heap.size w w1) := Lib.hid (by rw [hw1]; exact (Below.refl _ w).alloc (Nat.le_refl _) _)
  clear hso hf
  have HP := Lib.hid hp
  clear hp
  by_cases h0 : n = 0
  · subst h0
    go_enter Try.func32, Try.ntmps32
    go_upto_region 1 with fail
    rw [← hw1]
    clear hw1
    go_upto_region 2 with (go_at_call 56; refine (HSO.out _).mono ?_; rintro e w2 ⟨rfl, hb⟩; have HK2 := Lib.hid (HK.out.below hb HK.out.lt); have HB2 := Lib.hid (HB.out.trans (hb.mono HB.out.size)); have hlt : w.heap.size < w2.heap.size := (by have := hb.size; have := HZ.out; omega); clear hb)
    obtain ⟨w3, hw3⟩ : ∃ w3, w3 = w2.alloc (.cells #[.string ⟨#[112, 114, 111, 118, 105, 100, 101, 115]⟩, .string ⟨#[]⟩, .int .i64 0, .bool false, .slice none 0 0, .slice none 0 0, .slice none 0 0] 37) := ⟨_, rfl⟩
    rw [← hw3]
    have HK3 : Hid (Blk w3 w.heap.size 37 #[.string ⟨#[]⟩, .string ⟨#[]⟩, .int .i64 0, .bool false, .slice none 0 0, .slice none 0 0, .slice none 0 0]) := Lib.hid (by rw [hw3]; exact HK2.out.alloc _)
    have HV3 : Hid (Blk w3 w2.heap.size 37 #[.string ⟨#[112, 114, 111, 118, 105, 100, 101, 115]⟩, .string ⟨#[]⟩, .int .i64 0, .bool false, .slice none 0 0, .slice none 0 0, .slice none 0 0]) := Lib.hid (by rw [hw3]; exact Blk.new w2 _ _)
    have HB3 : Hid (Below w.heap.size w w3) := Lib.hid (by rw [hw3]; exact HB2.out.alloc HB2.out.size _)
    obtain ⟨G, hG⟩ : ∃ G, G = w2.heap.size := ⟨_, rfl⟩
    rw [← hG] at hlt HV3 ⊢
    have HG := Lib.hid hlt
    clear hw3 hG hlt
    have c0 : w3.cell? ⟨G, 0, none⟩ = some (.string ⟨#[112, 114, 111, 118, 105, 100, 101, 115]⟩) := HV3.out.cell 0
    go_upto_region 22 with (go_at_call 59; refine (HP.out _).mono ?_; rintro e w4 ⟨hb, VA, vm, vc, rfl, hc⟩; have HK4 := Lib.hid (HK3.out.below hb HK3.out.lt); have HV4 := Lib.hid (HV3.out.below hb HV3.out.lt); have HB4 := Lib.hid (HB3.out.trans (hb.mono HB3.out.size)); have HC4 := Lib.hid hc; have d4 : w4.cell? ⟨G, 6, none⟩ = some (.slice none 0 0) := HV4.out.cell 6; have e4 : w4.frozen? ⟨G, 6, none⟩ = false := HV4.out.frozen 6; clear hb hc)
    have HTB : Hid (w.heap.size < w3.heap.size ∧ ¬ IsA w4 w.heap.size) := Lib.hid ⟨HK3.out.lt, fun h => h.no HK4.out (by decide)⟩
    have HTG : Hid (G < w3.heap.size ∧ ¬ IsA w4 G) := Lib.hid ⟨HV3.out.lt, fun h => h.no HV4.out (by decide)⟩
    obtain ⟨w5, hw5⟩ : ∃ w5, w5 = w4.setCell ⟨G, 6, none⟩ (.slice VA vm vc) := ⟨_, rfl⟩
    rw [← hw5]
    have HK5 : Hid (Blk w5 w.heap.size 37 #[.string ⟨#[]⟩, .string ⟨#[]⟩, .int .i64 0, .bool false, .slice none 0 0, .slice none 0 0, .slice none 0 0]) := Lib.hid (by rw [hw5]; exact HK4.out.far (by have := HG.out; simp; omega) _)
    have HV5 : Hid (Blk w5 G 37 #[.string ⟨#[112, 114, 111, 118, 105, 100, 101, 115]⟩, .string ⟨#[]⟩, .int .i64 0, .bool false, .slice none 0 0, .slice none 0 0, .slice VA vm vc]) := Lib.hid (by rw [hw5]; exact HV4.out.set_ 6 _)
    have HB5 : Hid (Below w.heap.size w w5) := Lib.hid (by rw [hw5]; exact HB4.out.setCell (by have := HG.out; simp; omega) _)
    have HS5 : Hid (Upd (fun k => k < w3.heap.size ∧ ¬ IsA w4 k) w4 w5) := Lib.hid (by rw [hw5]; exact (Upd.refl _ _).setCell (.inl HTG.out) _)
    have b0 : w5.cell? ⟨w.heap.size, 0, none⟩ = some (.string ⟨#[]⟩) := HK5.out.cell 0
    have f0 : w5.frozen? ⟨w.heap.size, 0, none⟩ = false := HK5.out.frozen 0
    have g0 : w5.cell? ⟨G, 0, none⟩ = some (.string ⟨#[112, 114, 111, 118, 105, 100, 101, 115]⟩) := HV5.out.cell 0
    have b1 : w5.cell? ⟨w.heap.size, 1, none⟩ = some (.string ⟨#[]⟩) := HK5.out.cell 1
    have f1 : w5.frozen? ⟨w.heap.size, 1, none⟩ = false := HK5.out.frozen 1
    have g1 : w5.cell? ⟨G, 1, none⟩ = some (.string ⟨#[]⟩) := HV5.out.cell 1
    have b2 : w5.cell? ⟨w.heap.size, 2, none⟩ = some (.int .i64 0) := HK5.out.cell 2
    have f2 : w5.frozen? ⟨w.heap.size, 2, none⟩ = false := HK5.out.frozen 2
    have g2 : w5.cell? ⟨G, 2, none⟩ = some (.int .i64 0) := HV5.out.cell 2
    have b3 : w5.cell? ⟨w.heap.size, 3, none⟩ = some (.bool false) := HK5.out.cell 3
    have f3 : w5.frozen? ⟨w.heap.size, 3, none⟩ = false := HK5.out.frozen 3
    have g3 : w5.cell? ⟨G, 3, none⟩ = some (.bool false) := HV5.out.cell 3
    have b4 : w5.cell? ⟨w.heap.size, 4, none⟩ = some (.slice none 0 0) := HK5.out.cell 4
    have f4 : w5.frozen? ⟨w.heap.size, 4, none⟩ = false := HK5.out.frozen 4
    have g4 : w5.cell? ⟨G, 4, none⟩ = some (.slice none 0 0) := HV5.out.cell 4
    have b5 : w5.cell? ⟨w.heap.size, 5, none⟩ = some (.slice none 0 0) := HK5.out.cell 5
    have f5 : w5.frozen? ⟨w.heap.size, 5, none⟩ = false := HK5.out.frozen 5
    have g5 : w5.cell? ⟨G, 5, none⟩ = some (.slice none 0 0) := HV5.out.cell 5
    have b6 : w5.cell? ⟨w.heap.size, 6, none⟩ = some (.slice none 0 0) := HK5.out.cell 6
    have f6 : w5.frozen? ⟨w.heap.size, 6, none⟩ = false := HK5.out.frozen 6
    have g6 : w5.cell? ⟨G, 6, none⟩ = some (.slice VA vm vc) := HV5.out.cell 6
    clear hw5
    go_wp2_with fail
    refine ret_rv2 Try.results32 w.heap.size #[.string ⟨#[112, 114, 111, 118, 105, 100, 101, 115]⟩, .string ⟨#[]⟩, .int .i64 0, .bool false, .slice none 0 0, .slice none 0 0, .slice VA vm vc] (blk_seven HK5.out (.string ⟨#[112, 114, 111, 118, 105, 100, 101, 115]⟩) (.string ⟨#[]⟩) (.int .i64 0) (.bool false) (.slice none 0 0) (.slice none 0 0) (.slice VA vm vc)) rfl rfl rfl ⟨_, _, _, _, _, _, _, _, _, _, _, _, _, rfl, fun _ => ⟨rfl, rfl, rfl, rfl, ClsAt.nil _, AtsAt.nil _, HC4.out _ (HS5.out.trans (upd_seven _ _ HTB.out _ _ _ _ _ _ _))⟩, HB5.out.trans ((upd_seven (T := fun k => k = w.heap.size) _ _ rfl _ _ _ _ _ _ _).below (fun k hk => by have hk : k = w.heap.size := hk; omega) HB5.out.size)⟩
  · have q1 : (n != 0) = true := by rw [bne_iff_ne]; exact h0
    have H0 := Lib.hid h0
    clear h0
    go_enter Try.func32, Try.ntmps32
    go_upto_region 1 with fail
    rw [← hw1]
    clear hw1
    go_upto_region 2 with (go_at_call 56; refine (HSO.out _).mono ?_; rintro e w2 ⟨rfl, hb⟩; have HK2 := Lib.hid (HK.out.below hb HK.out.lt); have HB2 := Lib.hid (HB.out.trans (hb.mono HB.out.size)); have hlt : w.heap.size < w2.heap.size := (by have := hb.size; have := HZ.out; omega); clear hb)
    obtain ⟨w3, hw3⟩ : ∃ w3, w3 = w2.alloc (.cells #[.string ⟨#[112, 114, 111, 118, 105, 100, 101, 115]⟩, .string ⟨#[]⟩, .int .i64 0, .bool false, .slice none 0 0, .slice none 0 0, .slice none 0 0] 37) := ⟨_, rfl⟩
    rw [← hw3]
    have HK3 : Hid (Blk w3 w.heap.size 37 #[.string ⟨#[]⟩, .string ⟨#[]⟩, .int .i64 0, .bool false, .slice none 0 0, .slice none 0 0, .slice none 0 0]) := Lib.hid (by rw [hw3]; exact HK2.out.alloc _)
    have HV3 : Hid (Blk w3 w2.heap.size 37 #[.string ⟨#[112, 114, 111, 118, 105, 100, 101, 115]⟩, .string ⟨#[]⟩, .int .i64 0, .bool false, .slice none 0 0, .slice none 0 0, .slice none 0 0]) := Lib.hid (by rw [hw3]; exact Blk.new w2 _ _)
    have HB3 : Hid (Below w.heap.size w w3) := Lib.hid (by rw [hw3]; exact HB2.out.alloc HB2.out.size _)
    obtain ⟨G, hG⟩ : ∃ G, G = w2.heap.size := ⟨_, rfl⟩
    rw [← hG] at hlt HV3 ⊢
    have HG := Lib.hid hlt
    clear hw3 hG hlt
    have c0 : w3.cell? ⟨G, 0, none⟩ = some (.string ⟨#[112, 114, 111, 118, 105, 100, 101, 115]⟩) := HV3.out.cell 0
    go_upto_region 22 with (go_at_call 59; refine (HP.out _).mono ?_; rintro e w4 ⟨hb, VA, vm, vc, rfl, hc⟩; have HK4 := Lib.hid (HK3.out.below hb HK3.out.lt); have HV4 := Lib.hid (HV3.out.below hb HV3.out.lt); have HB4 := Lib.hid (HB3.out.trans (hb.mono HB3.out.size)); have HC4 := Lib.hid hc; have d4 : w4.cell? ⟨G, 6, none⟩ = some (.slice none 0 0) := HV4.out.cell 6; have e4 : w4.frozen? ⟨G, 6, none⟩ = false := HV4.out.frozen 6; clear hb hc)
    obtain ⟨w5, hw5⟩ : ∃ w5, w5 = w4.setCell ⟨G, 6, none⟩ (.slice VA vm vc) := ⟨_, rfl⟩
    rw [← hw5]
    have HK5 : Hid (Blk w5 w.heap.size 37 #[.string ⟨#[]⟩, .string ⟨#[]⟩, .int .i64 0, .bool false, .slice none 0 0, .slice none 0 0, .slice none 0 0]) := Lib.hid (by rw [hw5]; exact HK4.out.far (by have := HG.out; simp; omega) _)
    have HV5 : Hid (Blk w5 G 37 #[.string ⟨#[112, 114, 111, 118, 105, 100, 101, 115]⟩, .string ⟨#[]⟩, .int .i64 0, .bool false, .slice none 0 0, .slice none 0 0, .slice VA vm vc]) := Lib.hid (by rw [hw5]; exact HV4.out.set_ 6 _)
    have HB5 : Hid (Below w.heap.size w w5) := Lib.hid (by rw [hw5]; exact HB4.out.setCell (by have := HG.out; simp; omega) _)
    have b0 : w5.cell? ⟨w.heap.size, 0, none⟩ = some (.string ⟨#[]⟩) := HK5.out.cell 0
    have f0 : w5.frozen? ⟨w.heap.size, 0, none⟩ = false := HK5.out.frozen 0
    have g0 : w5.cell? ⟨G, 0, none⟩ = some (.string ⟨#[112, 114, 111, 118, 105, 100, 101, 115]⟩) := HV5.out.cell 0
    have b1 : w5.cell? ⟨w.heap.size, 1, none⟩ = some (.string ⟨#[]⟩) := HK5.out.cell 1
    have f1 : w5.frozen? ⟨w.heap.size, 1, none⟩ = false := HK5.out.frozen 1
    have g1 : w5.cell? ⟨G, 1, none⟩ = some (.string ⟨#[]⟩) := HV5.out.cell 1
    have b2 : w5.cell? ⟨w.heap.size, 2, none⟩ = some (.int .i64 0) := HK5.out.cell 2
    have f2 : w5.frozen? ⟨w.heap.size, 2, none⟩ = false := HK5.out.frozen 2
    have g2 : w5.cell? ⟨G, 2, none⟩ = some (.int .i64 0) := HV5.out.cell 2
    have b3 : w5.cell? ⟨w.heap.size, 3, none⟩ = some (.bool false) := HK5.out.cell 3
    have f3 : w5.frozen? ⟨w.heap.size, 3, none⟩ = false := HK5.out.frozen 3
    have g3 : w5.cell? ⟨G, 3, none⟩ = some (.bool false) := HV5.out.cell 3
    have b4 : w5.cell? ⟨w.heap.size, 4, none⟩ = some (.slice none 0 0) := HK5.out.cell 4
    have f4 : w5.frozen? ⟨w.heap.size, 4, none⟩ = false := HK5.out.frozen 4
    have g4 : w5.cell? ⟨G, 4, none⟩ = some (.slice none 0 0) := HV5.out.cell 4
    have b5 : w5.cell? ⟨w.heap.size, 5, none⟩ = some (.slice none 0 0) := HK5.out.cell 5
    have f5 : w5.frozen? ⟨w.heap.size, 5, none⟩ = false := HK5.out.frozen 5
    have g5 : w5.cell? ⟨G, 5, none⟩ = some (.slice none 0 0) := HV5.out.cell 5
    have b6 : w5.cell? ⟨w.heap.size, 6, none⟩ = some (.slice none 0 0) := HK5.out.cell 6
    have f6 : w5.frozen? ⟨w.heap.size, 6, none⟩ = false := HK5.out.frozen 6
    have g6 : w5.cell? ⟨G, 6, none⟩ = some (.slice VA vm vc) := HV5.out.cell 6
    clear hw5
    go_wp2_with fail
    refine ret_rv2 Try.results32 w.heap.size #[.string ⟨#[]⟩, .string ⟨#[]⟩, .int .i64 0, .bool false, .slice none 0 0, .slice none 0 0, .slice none 0 0] (blk_seven HK5.out (.string ⟨#[]⟩) (.string ⟨#[]⟩) (.int .i64 0) (.bool false) (.slice none 0 0) (.slice none 0 0) (.slice none 0 0)) rfl rfl rfl ⟨_, _, _, _, _, _, _, _, _, _, _, _, _, rfl, fun h => absurd h H0.out, HB5.out.trans ((upd_seven (T := fun k => k = w.heap.size) _ _ rfl _ _ _ _ _ _ _).below (fun k hk => by have hk : k = w.heap.size := hk; omega) HB5.out.size)⟩
set_option maxRecDepth 100000 in
set_option maxHeartbeats 4000000 in
theorem RRead_yes (nm s : ByteArray) (hn : nm.size ≤ 1048576) (hs : s.size ≤ 1048576) (hf : sortN nm = 3) (w : World) :
    Calls Try.prog 32 #[.string nm, .string s] w (fun e w' => RR9 3 ⟨#[]⟩ 0 (decide (s = yesB)) [] [] [] (if s = yesB ∨ s = noB then 0 else 3) w e w') := by
  have hso := fun W => Sort_any nm W hn
  rw [hf] at hso
  have HSO : Hid (∀ W, Calls Try.prog 56 #[.string nm] W fun e w' => e = .returned (.string ⟨#[121, 101, 115]⟩) ∧ Below W.heap.size W w') := Lib.hid hso
  obtain ⟨w1, hw1⟩ : ∃ w1, w1 = w.alloc (.cells #[.string ⟨#[]⟩, .string ⟨#[]⟩, .int .i64 0, .bool false, .slice none 0 0, .slice none 0 0, .slice none 0 0] 37) := ⟨_, rfl⟩
  have HK : Hid (Blk w1 w.heap.size 37 #[.string ⟨#[]⟩, .string ⟨#[]⟩, .int .i64 0, .bool false, .slice none 0 0, .slice none 0 0, .slice none 0 0]) := Lib.hid (by rw [hw1]; exact Blk.new w _ _)
  have HZ : Hid (w1.heap.size = w.heap.size + 1) := Lib.hid (by rw [hw1]; simp)
  have HB : Hid (Below w.heap.size w w1) := Lib.hid (by rw [hw1]; exact (Below.refl _ w).alloc (Nat.le_refl _) _)
  clear hso hf
  obtain ⟨b, hb⟩ : ∃ b, b = decide (s = yesB) := ⟨_, rfl⟩
  obtain ⟨m, hm⟩ : ∃ m, m = decide (s = yesB ∨ s = noB) := ⟨_, rfl⟩
  have q1 : (s.toList == [121, 101, 115]) = b := by rw [← yes_list, str_eq, hb]
  have q2 : b = false → (s.toList == [110, 111]) = m := fun h => by
    rw [← no_list, str_eq, hm]
    have : ¬ s = yesB := by rw [hb] at h; simpa using h
    simp [this]
  have q3 : b = true → m = true := fun h => by
    rw [hm]
    have : s = yesB := by rw [hb] at h; simpa using h
    simp [this]
  have HR : Hid ((if s = yesB ∨ s = noB then (0 : Int) else 3) = (if m then 0 else 3)) := Lib.hid (by
    rw [hm]
    by_cases h : s = yesB ∨ s = noB
    · rw [if_pos h, decide_eq_true h]; rfl
    · rw [if_neg h, decide_eq_false h]; rfl)
  rw [← hb, HR.out]
  clear hb hm HR
  cases b with
  | true =>
    have hm := q3 rfl
    subst hm
    clear q2 q3
    simp only [if_true]
    go_enter Try.func32, Try.ntmps32
    go_upto_region 1 with fail
    rw [← hw1]
    clear hw1
    go_upto_region 2 with (go_at_call 56; refine (HSO.out _).mono ?_; rintro e w2 ⟨rfl, hb⟩; have HK2 := Lib.hid (HK.out.below hb HK.out.lt); have HB2 := Lib.hid (HB.out.trans (hb.mono HB.out.size)); have hlt : w.heap.size < w2.heap.size := (by have := hb.size; have := HZ.out; omega); clear hb)
    obtain ⟨w3, hw3⟩ : ∃ w3, w3 = w2.alloc (.cells #[.string ⟨#[121, 101, 115]⟩, .string ⟨#[]⟩, .int .i64 0, .bool false, .slice none 0 0, .slice none 0 0, .slice none 0 0] 37) := ⟨_, rfl⟩
    rw [← hw3]
    have HK3 : Hid (Blk w3 w.heap.size 37 #[.string ⟨#[]⟩, .string ⟨#[]⟩, .int .i64 0, .bool false, .slice none 0 0, .slice none 0 0, .slice none 0 0]) := Lib.hid (by rw [hw3]; exact HK2.out.alloc _)
    have HV3 : Hid (Blk w3 w2.heap.size 37 #[.string ⟨#[121, 101, 115]⟩, .string ⟨#[]⟩, .int .i64 0, .bool false, .slice none 0 0, .slice none 0 0, .slice none 0 0]) := Lib.hid (by rw [hw3]; exact Blk.new w2 _ _)
    have HB3 : Hid (Below w.heap.size w w3) := Lib.hid (by rw [hw3]; exact HB2.out.alloc HB2.out.size _)
    obtain ⟨G, hG⟩ : ∃ G, G = w2.heap.size := ⟨_, rfl⟩
    rw [← hG] at hlt HV3 ⊢
    have HG := Lib.hid hlt
    clear hw3 hG hlt
    have c0 : w3.cell? ⟨G, 0, none⟩ = some (.string ⟨#[121, 101, 115]⟩) := HV3.out.cell 0
    have d4 : w3.cell? ⟨G, 3, none⟩ = some (.bool false) := HV3.out.cell 3
    have e4 : w3.frozen? ⟨G, 3, none⟩ = false := HV3.out.frozen 3
    go_upto_region 15 with fail
    obtain ⟨w5, hw5⟩ : ∃ w5, w5 = w3.setCell ⟨G, 3, none⟩ (.bool true) := ⟨_, rfl⟩
    rw [← hw5]
    have HK5 : Hid (Blk w5 w.heap.size 37 #[.string ⟨#[]⟩, .string ⟨#[]⟩, .int .i64 0, .bool false, .slice none 0 0, .slice none 0 0, .slice none 0 0]) := Lib.hid (by rw [hw5]; exact HK3.out.far (by have := HG.out; simp; omega) _)
    have HV5 : Hid (Blk w5 G 37 #[.string ⟨#[121, 101, 115]⟩, .string ⟨#[]⟩, .int .i64 0, .bool true, .slice none 0 0, .slice none 0 0, .slice none 0 0]) := Lib.hid (by rw [hw5]; exact HV3.out.set_ 3 _)
    have HB5 : Hid (Below w.heap.size w w5) := Lib.hid (by rw [hw5]; exact HB3.out.setCell (by have := HG.out; simp; omega) _)
    have b0 : w5.cell? ⟨w.heap.size, 0, none⟩ = some (.string ⟨#[]⟩) := HK5.out.cell 0
    have f0 : w5.frozen? ⟨w.heap.size, 0, none⟩ = false := HK5.out.frozen 0
    have g0 : w5.cell? ⟨G, 0, none⟩ = some (.string ⟨#[121, 101, 115]⟩) := HV5.out.cell 0
    have b1 : w5.cell? ⟨w.heap.size, 1, none⟩ = some (.string ⟨#[]⟩) := HK5.out.cell 1
    have f1 : w5.frozen? ⟨w.heap.size, 1, none⟩ = false := HK5.out.frozen 1
    have g1 : w5.cell? ⟨G, 1, none⟩ = some (.string ⟨#[]⟩) := HV5.out.cell 1
    have b2 : w5.cell? ⟨w.heap.size, 2, none⟩ = some (.int .i64 0) := HK5.out.cell 2
    have f2 : w5.frozen? ⟨w.heap.size, 2, none⟩ = false := HK5.out.frozen 2
    have g2 : w5.cell? ⟨G, 2, none⟩ = some (.int .i64 0) := HV5.out.cell 2
    have b3 : w5.cell? ⟨w.heap.size, 3, none⟩ = some (.bool false) := HK5.out.cell 3
    have f3 : w5.frozen? ⟨w.heap.size, 3, none⟩ = false := HK5.out.frozen 3
    have g3 : w5.cell? ⟨G, 3, none⟩ = some (.bool true) := HV5.out.cell 3
    have b4 : w5.cell? ⟨w.heap.size, 4, none⟩ = some (.slice none 0 0) := HK5.out.cell 4
    have f4 : w5.frozen? ⟨w.heap.size, 4, none⟩ = false := HK5.out.frozen 4
    have g4 : w5.cell? ⟨G, 4, none⟩ = some (.slice none 0 0) := HV5.out.cell 4
    have b5 : w5.cell? ⟨w.heap.size, 5, none⟩ = some (.slice none 0 0) := HK5.out.cell 5
    have f5 : w5.frozen? ⟨w.heap.size, 5, none⟩ = false := HK5.out.frozen 5
    have g5 : w5.cell? ⟨G, 5, none⟩ = some (.slice none 0 0) := HV5.out.cell 5
    have b6 : w5.cell? ⟨w.heap.size, 6, none⟩ = some (.slice none 0 0) := HK5.out.cell 6
    have f6 : w5.frozen? ⟨w.heap.size, 6, none⟩ = false := HK5.out.frozen 6
    have g6 : w5.cell? ⟨G, 6, none⟩ = some (.slice none 0 0) := HV5.out.cell 6
    clear hw5
    go_wp2_with fail
    refine ret_rv2 Try.results32 w.heap.size #[.string ⟨#[121, 101, 115]⟩, .string ⟨#[]⟩, .int .i64 0, .bool true, .slice none 0 0, .slice none 0 0, .slice none 0 0] (blk_seven HK5.out (.string ⟨#[121, 101, 115]⟩) (.string ⟨#[]⟩) (.int .i64 0) (.bool true) (.slice none 0 0) (.slice none 0 0) (.slice none 0 0)) rfl rfl rfl ⟨_, _, _, _, _, _, _, _, _, _, _, _, _, rfl, fun _ => ⟨rfl, rfl, rfl, rfl, ClsAt.nil _, AtsAt.nil _, PrsAt.nil _⟩, HB5.out.trans ((upd_seven (T := fun k => k = w.heap.size) _ _ rfl _ _ _ _ _ _ _).below (fun k hk => by have hk : k = w.heap.size := hk; omega) HB5.out.size)⟩
  | false =>
    have q2 := q2 rfl
    clear q3
    cases m with
    | true =>
      simp only [if_true]
      go_enter Try.func32, Try.ntmps32
      go_upto_region 1 with fail
      rw [← hw1]
      clear hw1
      go_upto_region 2 with (go_at_call 56; refine (HSO.out _).mono ?_; rintro e w2 ⟨rfl, hb⟩; have HK2 := Lib.hid (HK.out.below hb HK.out.lt); have HB2 := Lib.hid (HB.out.trans (hb.mono HB.out.size)); have hlt : w.heap.size < w2.heap.size := (by have := hb.size; have := HZ.out; omega); clear hb)
      obtain ⟨w3, hw3⟩ : ∃ w3, w3 = w2.alloc (.cells #[.string ⟨#[121, 101, 115]⟩, .string ⟨#[]⟩, .int .i64 0, .bool false, .slice none 0 0, .slice none 0 0, .slice none 0 0] 37) := ⟨_, rfl⟩
      rw [← hw3]
      have HK3 : Hid (Blk w3 w.heap.size 37 #[.string ⟨#[]⟩, .string ⟨#[]⟩, .int .i64 0, .bool false, .slice none 0 0, .slice none 0 0, .slice none 0 0]) := Lib.hid (by rw [hw3]; exact HK2.out.alloc _)
      have HV3 : Hid (Blk w3 w2.heap.size 37 #[.string ⟨#[121, 101, 115]⟩, .string ⟨#[]⟩, .int .i64 0, .bool false, .slice none 0 0, .slice none 0 0, .slice none 0 0]) := Lib.hid (by rw [hw3]; exact Blk.new w2 _ _)
      have HB3 : Hid (Below w.heap.size w w3) := Lib.hid (by rw [hw3]; exact HB2.out.alloc HB2.out.size _)
      obtain ⟨G, hG⟩ : ∃ G, G = w2.heap.size := ⟨_, rfl⟩
      rw [← hG] at hlt HV3 ⊢
      have HG := Lib.hid hlt
      clear hw3 hG hlt
      have c0 : w3.cell? ⟨G, 0, none⟩ = some (.string ⟨#[121, 101, 115]⟩) := HV3.out.cell 0
      have d4 : w3.cell? ⟨G, 3, none⟩ = some (.bool false) := HV3.out.cell 3
      have e4 : w3.frozen? ⟨G, 3, none⟩ = false := HV3.out.frozen 3
      go_upto_region 15 with fail
      obtain ⟨w5, hw5⟩ : ∃ w5, w5 = w3.setCell ⟨G, 3, none⟩ (.bool false) := ⟨_, rfl⟩
      rw [← hw5]
      have HK5 : Hid (Blk w5 w.heap.size 37 #[.string ⟨#[]⟩, .string ⟨#[]⟩, .int .i64 0, .bool false, .slice none 0 0, .slice none 0 0, .slice none 0 0]) := Lib.hid (by rw [hw5]; exact HK3.out.far (by have := HG.out; simp; omega) _)
      have HV5 : Hid (Blk w5 G 37 #[.string ⟨#[121, 101, 115]⟩, .string ⟨#[]⟩, .int .i64 0, .bool false, .slice none 0 0, .slice none 0 0, .slice none 0 0]) := Lib.hid (by rw [hw5]; exact HV3.out.set_ 3 _)
      have HB5 : Hid (Below w.heap.size w w5) := Lib.hid (by rw [hw5]; exact HB3.out.setCell (by have := HG.out; simp; omega) _)
      have b0 : w5.cell? ⟨w.heap.size, 0, none⟩ = some (.string ⟨#[]⟩) := HK5.out.cell 0
      have f0 : w5.frozen? ⟨w.heap.size, 0, none⟩ = false := HK5.out.frozen 0
      have g0 : w5.cell? ⟨G, 0, none⟩ = some (.string ⟨#[121, 101, 115]⟩) := HV5.out.cell 0
      have b1 : w5.cell? ⟨w.heap.size, 1, none⟩ = some (.string ⟨#[]⟩) := HK5.out.cell 1
      have f1 : w5.frozen? ⟨w.heap.size, 1, none⟩ = false := HK5.out.frozen 1
      have g1 : w5.cell? ⟨G, 1, none⟩ = some (.string ⟨#[]⟩) := HV5.out.cell 1
      have b2 : w5.cell? ⟨w.heap.size, 2, none⟩ = some (.int .i64 0) := HK5.out.cell 2
      have f2 : w5.frozen? ⟨w.heap.size, 2, none⟩ = false := HK5.out.frozen 2
      have g2 : w5.cell? ⟨G, 2, none⟩ = some (.int .i64 0) := HV5.out.cell 2
      have b3 : w5.cell? ⟨w.heap.size, 3, none⟩ = some (.bool false) := HK5.out.cell 3
      have f3 : w5.frozen? ⟨w.heap.size, 3, none⟩ = false := HK5.out.frozen 3
      have g3 : w5.cell? ⟨G, 3, none⟩ = some (.bool false) := HV5.out.cell 3
      have b4 : w5.cell? ⟨w.heap.size, 4, none⟩ = some (.slice none 0 0) := HK5.out.cell 4
      have f4 : w5.frozen? ⟨w.heap.size, 4, none⟩ = false := HK5.out.frozen 4
      have g4 : w5.cell? ⟨G, 4, none⟩ = some (.slice none 0 0) := HV5.out.cell 4
      have b5 : w5.cell? ⟨w.heap.size, 5, none⟩ = some (.slice none 0 0) := HK5.out.cell 5
      have f5 : w5.frozen? ⟨w.heap.size, 5, none⟩ = false := HK5.out.frozen 5
      have g5 : w5.cell? ⟨G, 5, none⟩ = some (.slice none 0 0) := HV5.out.cell 5
      have b6 : w5.cell? ⟨w.heap.size, 6, none⟩ = some (.slice none 0 0) := HK5.out.cell 6
      have f6 : w5.frozen? ⟨w.heap.size, 6, none⟩ = false := HK5.out.frozen 6
      have g6 : w5.cell? ⟨G, 6, none⟩ = some (.slice none 0 0) := HV5.out.cell 6
      clear hw5
      go_wp2_with fail
      refine ret_rv2 Try.results32 w.heap.size #[.string ⟨#[121, 101, 115]⟩, .string ⟨#[]⟩, .int .i64 0, .bool false, .slice none 0 0, .slice none 0 0, .slice none 0 0] (blk_seven HK5.out (.string ⟨#[121, 101, 115]⟩) (.string ⟨#[]⟩) (.int .i64 0) (.bool false) (.slice none 0 0) (.slice none 0 0) (.slice none 0 0)) rfl rfl rfl ⟨_, _, _, _, _, _, _, _, _, _, _, _, _, rfl, fun _ => ⟨rfl, rfl, rfl, rfl, ClsAt.nil _, AtsAt.nil _, PrsAt.nil _⟩, HB5.out.trans ((upd_seven (T := fun k => k = w.heap.size) _ _ rfl _ _ _ _ _ _ _).below (fun k hk => by have hk : k = w.heap.size := hk; omega) HB5.out.size)⟩
    | false =>
      simp only [Bool.false_eq_true, if_false]
      go_enter Try.func32, Try.ntmps32
      go_upto_region 1 with fail
      rw [← hw1]
      clear hw1
      go_upto_region 2 with (go_at_call 56; refine (HSO.out _).mono ?_; rintro e w2 ⟨rfl, hb⟩; have HK2 := Lib.hid (HK.out.below hb HK.out.lt); have HB2 := Lib.hid (HB.out.trans (hb.mono HB.out.size)); have hlt : w.heap.size < w2.heap.size := (by have := hb.size; have := HZ.out; omega); clear hb)
      obtain ⟨w3, hw3⟩ : ∃ w3, w3 = w2.alloc (.cells #[.string ⟨#[121, 101, 115]⟩, .string ⟨#[]⟩, .int .i64 0, .bool false, .slice none 0 0, .slice none 0 0, .slice none 0 0] 37) := ⟨_, rfl⟩
      rw [← hw3]
      have HK3 : Hid (Blk w3 w.heap.size 37 #[.string ⟨#[]⟩, .string ⟨#[]⟩, .int .i64 0, .bool false, .slice none 0 0, .slice none 0 0, .slice none 0 0]) := Lib.hid (by rw [hw3]; exact HK2.out.alloc _)
      have HV3 : Hid (Blk w3 w2.heap.size 37 #[.string ⟨#[121, 101, 115]⟩, .string ⟨#[]⟩, .int .i64 0, .bool false, .slice none 0 0, .slice none 0 0, .slice none 0 0]) := Lib.hid (by rw [hw3]; exact Blk.new w2 _ _)
      have HB3 : Hid (Below w.heap.size w w3) := Lib.hid (by rw [hw3]; exact HB2.out.alloc HB2.out.size _)
      obtain ⟨G, hG⟩ : ∃ G, G = w2.heap.size := ⟨_, rfl⟩
      rw [← hG] at hlt HV3 ⊢
      have HG := Lib.hid hlt
      clear hw3 hG hlt
      have c0 : w3.cell? ⟨G, 0, none⟩ = some (.string ⟨#[121, 101, 115]⟩) := HV3.out.cell 0
      have d4 : w3.cell? ⟨G, 3, none⟩ = some (.bool false) := HV3.out.cell 3
      have e4 : w3.frozen? ⟨G, 3, none⟩ = false := HV3.out.frozen 3
      go_upto_region 15 with fail
      obtain ⟨w5, hw5⟩ : ∃ w5, w5 = w3.setCell ⟨G, 3, none⟩ (.bool false) := ⟨_, rfl⟩
      rw [← hw5]
      have HK5 : Hid (Blk w5 w.heap.size 37 #[.string ⟨#[]⟩, .string ⟨#[]⟩, .int .i64 0, .bool false, .slice none 0 0, .slice none 0 0, .slice none 0 0]) := Lib.hid (by rw [hw5]; exact HK3.out.far (by have := HG.out; simp; omega) _)
      have HV5 : Hid (Blk w5 G 37 #[.string ⟨#[121, 101, 115]⟩, .string ⟨#[]⟩, .int .i64 0, .bool false, .slice none 0 0, .slice none 0 0, .slice none 0 0]) := Lib.hid (by rw [hw5]; exact HV3.out.set_ 3 _)
      have HB5 : Hid (Below w.heap.size w w5) := Lib.hid (by rw [hw5]; exact HB3.out.setCell (by have := HG.out; simp; omega) _)
      have b0 : w5.cell? ⟨w.heap.size, 0, none⟩ = some (.string ⟨#[]⟩) := HK5.out.cell 0
      have f0 : w5.frozen? ⟨w.heap.size, 0, none⟩ = false := HK5.out.frozen 0
      have g0 : w5.cell? ⟨G, 0, none⟩ = some (.string ⟨#[121, 101, 115]⟩) := HV5.out.cell 0
      have b1 : w5.cell? ⟨w.heap.size, 1, none⟩ = some (.string ⟨#[]⟩) := HK5.out.cell 1
      have f1 : w5.frozen? ⟨w.heap.size, 1, none⟩ = false := HK5.out.frozen 1
      have g1 : w5.cell? ⟨G, 1, none⟩ = some (.string ⟨#[]⟩) := HV5.out.cell 1
      have b2 : w5.cell? ⟨w.heap.size, 2, none⟩ = some (.int .i64 0) := HK5.out.cell 2
      have f2 : w5.frozen? ⟨w.heap.size, 2, none⟩ = false := HK5.out.frozen 2
      have g2 : w5.cell? ⟨G, 2, none⟩ = some (.int .i64 0) := HV5.out.cell 2
      have b3 : w5.cell? ⟨w.heap.size, 3, none⟩ = some (.bool false) := HK5.out.cell 3
      have f3 : w5.frozen? ⟨w.heap.size, 3, none⟩ = false := HK5.out.frozen 3
      have g3 : w5.cell? ⟨G, 3, none⟩ = some (.bool false) := HV5.out.cell 3
      have b4 : w5.cell? ⟨w.heap.size, 4, none⟩ = some (.slice none 0 0) := HK5.out.cell 4
      have f4 : w5.frozen? ⟨w.heap.size, 4, none⟩ = false := HK5.out.frozen 4
      have g4 : w5.cell? ⟨G, 4, none⟩ = some (.slice none 0 0) := HV5.out.cell 4
      have b5 : w5.cell? ⟨w.heap.size, 5, none⟩ = some (.slice none 0 0) := HK5.out.cell 5
      have f5 : w5.frozen? ⟨w.heap.size, 5, none⟩ = false := HK5.out.frozen 5
      have g5 : w5.cell? ⟨G, 5, none⟩ = some (.slice none 0 0) := HV5.out.cell 5
      have b6 : w5.cell? ⟨w.heap.size, 6, none⟩ = some (.slice none 0 0) := HK5.out.cell 6
      have f6 : w5.frozen? ⟨w.heap.size, 6, none⟩ = false := HK5.out.frozen 6
      have g6 : w5.cell? ⟨G, 6, none⟩ = some (.slice none 0 0) := HV5.out.cell 6
      clear hw5
      go_wp2_with fail
      refine ret_rv2 Try.results32 w.heap.size #[.string ⟨#[]⟩, .string ⟨#[]⟩, .int .i64 0, .bool false, .slice none 0 0, .slice none 0 0, .slice none 0 0] (blk_seven HK5.out (.string ⟨#[]⟩) (.string ⟨#[]⟩) (.int .i64 0) (.bool false) (.slice none 0 0) (.slice none 0 0) (.slice none 0 0)) rfl rfl rfl ⟨_, _, _, _, _, _, _, _, _, _, _, _, _, rfl, fun h => absurd h (by decide), HB5.out.trans ((upd_seven (T := fun k => k = w.heap.size) _ _ rfl _ _ _ _ _ _ _).below (fun k hk => by have hk : k = w.heap.size := hk; omega) HB5.out.size)⟩
set_option maxRecDepth 100000 in
set_option maxHeartbeats 4000000 in
theorem RRead_count (nm s : ByteArray) (hn : nm.size ≤ 1048576) (hs : s.size ≤ 1048576) (hf : sortN nm = 2) (w : World) :
    Calls Try.prog 32 #[.string nm, .string s] w (fun e w' => RR9 2 ⟨#[]⟩ ((numZ s).1 : Int) false [] [] [] (if (numZ s).2 then 0 else 3) w e w') := by
  have hso := fun W => Sort_any nm W hn
  rw [hf] at hso
  have HSO : Hid (∀ W, Calls Try.prog 56 #[.string nm] W fun e w' => e = .returned (.string ⟨#[99, 111, 117, 110, 116]⟩) ∧ Below W.heap.size W w') := Lib.hid hso
  obtain ⟨w1, hw1⟩ : ∃ w1, w1 = w.alloc (.cells #[.string ⟨#[]⟩, .string ⟨#[]⟩, .int .i64 0, .bool false, .slice none 0 0, .slice none 0 0, .slice none 0 0] 37) := ⟨_, rfl⟩
  have HK : Hid (Blk w1 w.heap.size 37 #[.string ⟨#[]⟩, .string ⟨#[]⟩, .int .i64 0, .bool false, .slice none 0 0, .slice none 0 0, .slice none 0 0]) := Lib.hid (by rw [hw1]; exact Blk.new w _ _)
  have HZ : Hid (w1.heap.size = w.heap.size + 1) := Lib.hid (by rw [hw1]; simp)
  have HB : Hid (Below w.heap.size w w1) := Lib.hid (by rw [hw1]; exact (Below.refl _ w).alloc (Nat.le_refl _) _)
  clear hso hf
  have hnn : ∀ W, Calls Try.prog 60 #[.string s] W fun e w' => e = .returned (numV (numZ s)) ∧ Below W.heap.size W w' := fun W => (RefNumber_any s W (by omega)).mono fun e w' ⟨he, hw⟩ => ⟨he, by rw [← hw]; exact Below.refl _ _⟩
  unfold numV at hnn
  have HN := Lib.hid hnn
  generalize (numZ s).1 = c at *
  generalize (numZ s).2 = m at *
  clear hnn
  cases m with
  | true =>
    simp only [if_true]
    go_enter Try.func32, Try.ntmps32
    go_upto_region 1 with fail
    rw [← hw1]
    clear hw1
    go_upto_region 2 with (go_at_call 56; refine (HSO.out _).mono ?_; rintro e w2 ⟨rfl, hb⟩; have HK2 := Lib.hid (HK.out.below hb HK.out.lt); have HB2 := Lib.hid (HB.out.trans (hb.mono HB.out.size)); have hlt : w.heap.size < w2.heap.size := (by have := hb.size; have := HZ.out; omega); clear hb)
    obtain ⟨w3, hw3⟩ : ∃ w3, w3 = w2.alloc (.cells #[.string ⟨#[99, 111, 117, 110, 116]⟩, .string ⟨#[]⟩, .int .i64 0, .bool false, .slice none 0 0, .slice none 0 0, .slice none 0 0] 37) := ⟨_, rfl⟩
    rw [← hw3]
    have HK3 : Hid (Blk w3 w.heap.size 37 #[.string ⟨#[]⟩, .string ⟨#[]⟩, .int .i64 0, .bool false, .slice none 0 0, .slice none 0 0, .slice none 0 0]) := Lib.hid (by rw [hw3]; exact HK2.out.alloc _)
    have HV3 : Hid (Blk w3 w2.heap.size 37 #[.string ⟨#[99, 111, 117, 110, 116]⟩, .string ⟨#[]⟩, .int .i64 0, .bool false, .slice none 0 0, .slice none 0 0, .slice none 0 0]) := Lib.hid (by rw [hw3]; exact Blk.new w2 _ _)
    have HB3 : Hid (Below w.heap.size w w3) := Lib.hid (by rw [hw3]; exact HB2.out.alloc HB2.out.size _)
    obtain ⟨G, hG⟩ : ∃ G, G = w2.heap.size := ⟨_, rfl⟩
    rw [← hG] at hlt HV3 ⊢
    have HG := Lib.hid hlt
    clear hw3 hG hlt
    have c0 : w3.cell? ⟨G, 0, none⟩ = some (.string ⟨#[99, 111, 117, 110, 116]⟩) := HV3.out.cell 0
    go_upto_region 20 with (go_at_call 60; refine (HN.out _).mono ?_; rintro e w4 ⟨rfl, hb⟩; have HK4 := Lib.hid (HK3.out.below hb HK3.out.lt); have HV4 := Lib.hid (HV3.out.below hb HV3.out.lt); have HB4 := Lib.hid (HB3.out.trans (hb.mono HB3.out.size)); have d4 : w4.cell? ⟨G, 2, none⟩ = some (.int .i64 0) := HV4.out.cell 2; have e4 : w4.frozen? ⟨G, 2, none⟩ = false := HV4.out.frozen 2; clear hb)
    obtain ⟨w5, hw5⟩ : ∃ w5, w5 = w4.setCell ⟨G, 2, none⟩ (.int .i64 (c : Int)) := ⟨_, rfl⟩
    rw [← hw5]
    have HK5 : Hid (Blk w5 w.heap.size 37 #[.string ⟨#[]⟩, .string ⟨#[]⟩, .int .i64 0, .bool false, .slice none 0 0, .slice none 0 0, .slice none 0 0]) := Lib.hid (by rw [hw5]; exact HK4.out.far (by have := HG.out; simp; omega) _)
    have HV5 : Hid (Blk w5 G 37 #[.string ⟨#[99, 111, 117, 110, 116]⟩, .string ⟨#[]⟩, .int .i64 (c : Int), .bool false, .slice none 0 0, .slice none 0 0, .slice none 0 0]) := Lib.hid (by rw [hw5]; exact HV4.out.set_ 2 _)
    have HB5 : Hid (Below w.heap.size w w5) := Lib.hid (by rw [hw5]; exact HB4.out.setCell (by have := HG.out; simp; omega) _)
    have b0 : w5.cell? ⟨w.heap.size, 0, none⟩ = some (.string ⟨#[]⟩) := HK5.out.cell 0
    have f0 : w5.frozen? ⟨w.heap.size, 0, none⟩ = false := HK5.out.frozen 0
    have g0 : w5.cell? ⟨G, 0, none⟩ = some (.string ⟨#[99, 111, 117, 110, 116]⟩) := HV5.out.cell 0
    have b1 : w5.cell? ⟨w.heap.size, 1, none⟩ = some (.string ⟨#[]⟩) := HK5.out.cell 1
    have f1 : w5.frozen? ⟨w.heap.size, 1, none⟩ = false := HK5.out.frozen 1
    have g1 : w5.cell? ⟨G, 1, none⟩ = some (.string ⟨#[]⟩) := HV5.out.cell 1
    have b2 : w5.cell? ⟨w.heap.size, 2, none⟩ = some (.int .i64 0) := HK5.out.cell 2
    have f2 : w5.frozen? ⟨w.heap.size, 2, none⟩ = false := HK5.out.frozen 2
    have g2 : w5.cell? ⟨G, 2, none⟩ = some (.int .i64 (c : Int)) := HV5.out.cell 2
    have b3 : w5.cell? ⟨w.heap.size, 3, none⟩ = some (.bool false) := HK5.out.cell 3
    have f3 : w5.frozen? ⟨w.heap.size, 3, none⟩ = false := HK5.out.frozen 3
    have g3 : w5.cell? ⟨G, 3, none⟩ = some (.bool false) := HV5.out.cell 3
    have b4 : w5.cell? ⟨w.heap.size, 4, none⟩ = some (.slice none 0 0) := HK5.out.cell 4
    have f4 : w5.frozen? ⟨w.heap.size, 4, none⟩ = false := HK5.out.frozen 4
    have g4 : w5.cell? ⟨G, 4, none⟩ = some (.slice none 0 0) := HV5.out.cell 4
    have b5 : w5.cell? ⟨w.heap.size, 5, none⟩ = some (.slice none 0 0) := HK5.out.cell 5
    have f5 : w5.frozen? ⟨w.heap.size, 5, none⟩ = false := HK5.out.frozen 5
    have g5 : w5.cell? ⟨G, 5, none⟩ = some (.slice none 0 0) := HV5.out.cell 5
    have b6 : w5.cell? ⟨w.heap.size, 6, none⟩ = some (.slice none 0 0) := HK5.out.cell 6
    have f6 : w5.frozen? ⟨w.heap.size, 6, none⟩ = false := HK5.out.frozen 6
    have g6 : w5.cell? ⟨G, 6, none⟩ = some (.slice none 0 0) := HV5.out.cell 6
    clear hw5
    go_wp2_with fail
    refine ret_rv2 Try.results32 w.heap.size #[.string ⟨#[99, 111, 117, 110, 116]⟩, .string ⟨#[]⟩, .int .i64 (c : Int), .bool false, .slice none 0 0, .slice none 0 0, .slice none 0 0] (blk_seven HK5.out (.string ⟨#[99, 111, 117, 110, 116]⟩) (.string ⟨#[]⟩) (.int .i64 (c : Int)) (.bool false) (.slice none 0 0) (.slice none 0 0) (.slice none 0 0)) rfl rfl rfl ⟨_, _, _, _, _, _, _, _, _, _, _, _, _, rfl, fun _ => ⟨rfl, rfl, rfl, rfl, ClsAt.nil _, AtsAt.nil _, PrsAt.nil _⟩, HB5.out.trans ((upd_seven (T := fun k => k = w.heap.size) _ _ rfl _ _ _ _ _ _ _).below (fun k hk => by have hk : k = w.heap.size := hk; omega) HB5.out.size)⟩
  | false =>
    simp only [Bool.false_eq_true, if_false]
    go_enter Try.func32, Try.ntmps32
    go_upto_region 1 with fail
    rw [← hw1]
    clear hw1
    go_upto_region 2 with (go_at_call 56; refine (HSO.out _).mono ?_; rintro e w2 ⟨rfl, hb⟩; have HK2 := Lib.hid (HK.out.below hb HK.out.lt); have HB2 := Lib.hid (HB.out.trans (hb.mono HB.out.size)); have hlt : w.heap.size < w2.heap.size := (by have := hb.size; have := HZ.out; omega); clear hb)
    obtain ⟨w3, hw3⟩ : ∃ w3, w3 = w2.alloc (.cells #[.string ⟨#[99, 111, 117, 110, 116]⟩, .string ⟨#[]⟩, .int .i64 0, .bool false, .slice none 0 0, .slice none 0 0, .slice none 0 0] 37) := ⟨_, rfl⟩
    rw [← hw3]
    have HK3 : Hid (Blk w3 w.heap.size 37 #[.string ⟨#[]⟩, .string ⟨#[]⟩, .int .i64 0, .bool false, .slice none 0 0, .slice none 0 0, .slice none 0 0]) := Lib.hid (by rw [hw3]; exact HK2.out.alloc _)
    have HV3 : Hid (Blk w3 w2.heap.size 37 #[.string ⟨#[99, 111, 117, 110, 116]⟩, .string ⟨#[]⟩, .int .i64 0, .bool false, .slice none 0 0, .slice none 0 0, .slice none 0 0]) := Lib.hid (by rw [hw3]; exact Blk.new w2 _ _)
    have HB3 : Hid (Below w.heap.size w w3) := Lib.hid (by rw [hw3]; exact HB2.out.alloc HB2.out.size _)
    obtain ⟨G, hG⟩ : ∃ G, G = w2.heap.size := ⟨_, rfl⟩
    rw [← hG] at hlt HV3 ⊢
    have HG := Lib.hid hlt
    clear hw3 hG hlt
    have c0 : w3.cell? ⟨G, 0, none⟩ = some (.string ⟨#[99, 111, 117, 110, 116]⟩) := HV3.out.cell 0
    go_upto_region 20 with (go_at_call 60; refine (HN.out _).mono ?_; rintro e w4 ⟨rfl, hb⟩; have HK4 := Lib.hid (HK3.out.below hb HK3.out.lt); have HV4 := Lib.hid (HV3.out.below hb HV3.out.lt); have HB4 := Lib.hid (HB3.out.trans (hb.mono HB3.out.size)); have d4 : w4.cell? ⟨G, 2, none⟩ = some (.int .i64 0) := HV4.out.cell 2; have e4 : w4.frozen? ⟨G, 2, none⟩ = false := HV4.out.frozen 2; clear hb)
    obtain ⟨w5, hw5⟩ : ∃ w5, w5 = w4.setCell ⟨G, 2, none⟩ (.int .i64 (c : Int)) := ⟨_, rfl⟩
    rw [← hw5]
    have HK5 : Hid (Blk w5 w.heap.size 37 #[.string ⟨#[]⟩, .string ⟨#[]⟩, .int .i64 0, .bool false, .slice none 0 0, .slice none 0 0, .slice none 0 0]) := Lib.hid (by rw [hw5]; exact HK4.out.far (by have := HG.out; simp; omega) _)
    have HV5 : Hid (Blk w5 G 37 #[.string ⟨#[99, 111, 117, 110, 116]⟩, .string ⟨#[]⟩, .int .i64 (c : Int), .bool false, .slice none 0 0, .slice none 0 0, .slice none 0 0]) := Lib.hid (by rw [hw5]; exact HV4.out.set_ 2 _)
    have HB5 : Hid (Below w.heap.size w w5) := Lib.hid (by rw [hw5]; exact HB4.out.setCell (by have := HG.out; simp; omega) _)
    have b0 : w5.cell? ⟨w.heap.size, 0, none⟩ = some (.string ⟨#[]⟩) := HK5.out.cell 0
    have f0 : w5.frozen? ⟨w.heap.size, 0, none⟩ = false := HK5.out.frozen 0
    have g0 : w5.cell? ⟨G, 0, none⟩ = some (.string ⟨#[99, 111, 117, 110, 116]⟩) := HV5.out.cell 0
    have b1 : w5.cell? ⟨w.heap.size, 1, none⟩ = some (.string ⟨#[]⟩) := HK5.out.cell 1
    have f1 : w5.frozen? ⟨w.heap.size, 1, none⟩ = false := HK5.out.frozen 1
    have g1 : w5.cell? ⟨G, 1, none⟩ = some (.string ⟨#[]⟩) := HV5.out.cell 1
    have b2 : w5.cell? ⟨w.heap.size, 2, none⟩ = some (.int .i64 0) := HK5.out.cell 2
    have f2 : w5.frozen? ⟨w.heap.size, 2, none⟩ = false := HK5.out.frozen 2
    have g2 : w5.cell? ⟨G, 2, none⟩ = some (.int .i64 (c : Int)) := HV5.out.cell 2
    have b3 : w5.cell? ⟨w.heap.size, 3, none⟩ = some (.bool false) := HK5.out.cell 3
    have f3 : w5.frozen? ⟨w.heap.size, 3, none⟩ = false := HK5.out.frozen 3
    have g3 : w5.cell? ⟨G, 3, none⟩ = some (.bool false) := HV5.out.cell 3
    have b4 : w5.cell? ⟨w.heap.size, 4, none⟩ = some (.slice none 0 0) := HK5.out.cell 4
    have f4 : w5.frozen? ⟨w.heap.size, 4, none⟩ = false := HK5.out.frozen 4
    have g4 : w5.cell? ⟨G, 4, none⟩ = some (.slice none 0 0) := HV5.out.cell 4
    have b5 : w5.cell? ⟨w.heap.size, 5, none⟩ = some (.slice none 0 0) := HK5.out.cell 5
    have f5 : w5.frozen? ⟨w.heap.size, 5, none⟩ = false := HK5.out.frozen 5
    have g5 : w5.cell? ⟨G, 5, none⟩ = some (.slice none 0 0) := HV5.out.cell 5
    have b6 : w5.cell? ⟨w.heap.size, 6, none⟩ = some (.slice none 0 0) := HK5.out.cell 6
    have f6 : w5.frozen? ⟨w.heap.size, 6, none⟩ = false := HK5.out.frozen 6
    have g6 : w5.cell? ⟨G, 6, none⟩ = some (.slice none 0 0) := HV5.out.cell 6
    clear hw5
    go_wp2_with fail
    refine ret_rv2 Try.results32 w.heap.size #[.string ⟨#[]⟩, .string ⟨#[]⟩, .int .i64 0, .bool false, .slice none 0 0, .slice none 0 0, .slice none 0 0] (blk_seven HK5.out (.string ⟨#[]⟩) (.string ⟨#[]⟩) (.int .i64 0) (.bool false) (.slice none 0 0) (.slice none 0 0) (.slice none 0 0)) rfl rfl rfl ⟨_, _, _, _, _, _, _, _, _, _, _, _, _, rfl, fun h => absurd h (by decide), HB5.out.trans ((upd_seven (T := fun k => k = w.heap.size) _ _ rfl _ _ _ _ _ _ _).below (fun k hk => by have hk : k = w.heap.size := hk; omega) HB5.out.size)⟩
set_option maxRecDepth 100000 in
set_option maxHeartbeats 4000000 in
theorem RRead_text (nm s : ByteArray) (hn : nm.size ≤ 1048576) (hs : s.size ≤ 1048576) (hf : sortN nm = 1) (p0 p1 nb vb : Bool) (h0 : sameN ⟨#[112, 97, 99, 107, 97, 103, 101]⟩ nm = p0) (h1 : sameN ⟨#[118, 101, 114, 115, 105, 111, 110]⟩ nm = p1) (h2 : nameB s = nb) (h3 : verB s = vb) (w : World) :
    Calls Try.prog 32 #[.string nm, .string s] w (fun e w' => RR9 1 s 0 false [] [] [] (if (p0 && !nb) || (p1 && !vb) then 3 else 0) w e w') := by
  have hso := fun W => Sort_any nm W hn
  rw [hf] at hso
  have HSO : Hid (∀ W, Calls Try.prog 56 #[.string nm] W fun e w' => e = .returned (.string ⟨#[116, 101, 120, 116]⟩) ∧ Below W.heap.size W w') := Lib.hid hso
  obtain ⟨w1, hw1⟩ : ∃ w1, w1 = w.alloc (.cells #[.string ⟨#[]⟩, .string ⟨#[]⟩, .int .i64 0, .bool false, .slice none 0 0, .slice none 0 0, .slice none 0 0] 37) := ⟨_, rfl⟩
  have HK : Hid (Blk w1 w.heap.size 37 #[.string ⟨#[]⟩, .string ⟨#[]⟩, .int .i64 0, .bool false, .slice none 0 0, .slice none 0 0, .slice none 0 0]) := Lib.hid (by rw [hw1]; exact Blk.new w _ _)
  have HZ : Hid (w1.heap.size = w.heap.size + 1) := Lib.hid (by rw [hw1]; simp)
  have HB : Hid (Below w.heap.size w w1) := Lib.hid (by rw [hw1]; exact (Below.refl _ w).alloc (Nat.le_refl _) _)
  clear hso hf
  have HSA : Hid (∀ x W, x.size ≤ 4294967296 → Calls Try.prog 61 #[.string nm, .string x] W fun e w' => e = .returned (.bool (sameN x nm)) ∧ Below W.heap.size W w') := Lib.hid (fun x W hx => by rw [sameN_comm]; exact RSame_any nm x W (by omega) hx)
  have HNM : Hid (∀ W, Calls Try.prog 62 #[.string s] W fun e w' => e = .returned (.bool nb) ∧ Below W.heap.size W w') := Lib.hid (fun W => (RefName_any s W (by omega)).mono fun e w' ⟨he, hw⟩ => ⟨by rw [← h2]; exact he, by rw [← hw]; exact Below.refl _ _⟩)
  have HIS : Hid (∀ W, Calls Try.prog 63 #[.string s] W fun e w' => e = .returned (.bool vb) ∧ Below W.heap.size W w') := Lib.hid (fun W => (is_ver_any s W hs).mono fun e w' ⟨he, m, hm⟩ => ⟨by rw [← h3]; exact he, by rw [hm]; exact below_drewN _ _⟩)
  clear h2 h3
  have Rtfxx : (p0 = true ∧ nb = false) → Calls Try.prog 32 #[.string nm, .string s] w (fun e w' => RR9 1 s 0 false [] [] [] 3 w e w') := by
    rintro ⟨rfl, rfl⟩
    go_enter Try.func32, Try.ntmps32
    go_upto_region 1 with fail
    rw [← hw1]
    clear hw1
    go_upto_region 2 with (go_at_call 56; refine (HSO.out _).mono ?_; rintro e w2 ⟨rfl, hb⟩; have HK2 := Lib.hid (HK.out.below hb HK.out.lt); have HB2 := Lib.hid (HB.out.trans (hb.mono HB.out.size)); have hlt : w.heap.size < w2.heap.size := (by have := hb.size; have := HZ.out; omega); clear hb)
    obtain ⟨w3, hw3⟩ : ∃ w3, w3 = w2.alloc (.cells #[.string ⟨#[116, 101, 120, 116]⟩, .string ⟨#[]⟩, .int .i64 0, .bool false, .slice none 0 0, .slice none 0 0, .slice none 0 0] 37) := ⟨_, rfl⟩
    rw [← hw3]
    have HK3 : Hid (Blk w3 w.heap.size 37 #[.string ⟨#[]⟩, .string ⟨#[]⟩, .int .i64 0, .bool false, .slice none 0 0, .slice none 0 0, .slice none 0 0]) := Lib.hid (by rw [hw3]; exact HK2.out.alloc _)
    have HV3 : Hid (Blk w3 w2.heap.size 37 #[.string ⟨#[116, 101, 120, 116]⟩, .string ⟨#[]⟩, .int .i64 0, .bool false, .slice none 0 0, .slice none 0 0, .slice none 0 0]) := Lib.hid (by rw [hw3]; exact Blk.new w2 _ _)
    have HB3 : Hid (Below w.heap.size w w3) := Lib.hid (by rw [hw3]; exact HB2.out.alloc HB2.out.size _)
    obtain ⟨G, hG⟩ : ∃ G, G = w2.heap.size := ⟨_, rfl⟩
    rw [← hG] at hlt HV3 ⊢
    have HG := Lib.hid hlt
    clear hw3 hG hlt
    have c0 : w3.cell? ⟨G, 0, none⟩ = some (.string ⟨#[116, 101, 120, 116]⟩) := HV3.out.cell 0
    have d4 : w3.cell? ⟨G, 1, none⟩ = some (.string ⟨#[]⟩) := HV3.out.cell 1
    have e4 : w3.frozen? ⟨G, 1, none⟩ = false := HV3.out.frozen 1
    go_upto_region 5 with fail
    obtain ⟨w5, hw5⟩ : ∃ w5, w5 = w3.setCell ⟨G, 1, none⟩ (.string s) := ⟨_, rfl⟩
    rw [← hw5]
    have HK5 : Hid (Blk w5 w.heap.size 37 #[.string ⟨#[]⟩, .string ⟨#[]⟩, .int .i64 0, .bool false, .slice none 0 0, .slice none 0 0, .slice none 0 0]) := Lib.hid (by rw [hw5]; exact HK3.out.far (by have := HG.out; simp; omega) _)
    have HV5 : Hid (Blk w5 G 37 #[.string ⟨#[116, 101, 120, 116]⟩, .string s, .int .i64 0, .bool false, .slice none 0 0, .slice none 0 0, .slice none 0 0]) := Lib.hid (by rw [hw5]; exact HV3.out.set_ 1 _)
    have HB5 : Hid (Below w.heap.size w w5) := Lib.hid (by rw [hw5]; exact HB3.out.setCell (by have := HG.out; simp; omega) _)
    clear hw5
    go_upto_region 22 with (first | (go_at_call 61; refine (HSA.out _ _ (by decide)).mono ?_; rintro e w5 ⟨rfl, hb⟩; have HK5 := Lib.hid (HK5.out.below hb HK5.out.lt); have HV5 := Lib.hid (HV5.out.below hb HV5.out.lt); have HB5 := Lib.hid (HB5.out.trans (hb.mono HB5.out.size)); clear hb) | (go_at_call 62; refine (HNM.out _).mono ?_; rintro e w5 ⟨rfl, hb⟩; have HK5 := Lib.hid (HK5.out.below hb HK5.out.lt); have HV5 := Lib.hid (HV5.out.below hb HV5.out.lt); have HB5 := Lib.hid (HB5.out.trans (hb.mono HB5.out.size)); clear hb) | (go_at_call 63; refine (HIS.out _).mono ?_; rintro e w5 ⟨rfl, hb⟩; have HK5 := Lib.hid (HK5.out.below hb HK5.out.lt); have HV5 := Lib.hid (HV5.out.below hb HV5.out.lt); have HB5 := Lib.hid (HB5.out.trans (hb.mono HB5.out.size)); clear hb))
    have b0 : w5.cell? ⟨w.heap.size, 0, none⟩ = some (.string ⟨#[]⟩) := HK5.out.cell 0
    have f0 : w5.frozen? ⟨w.heap.size, 0, none⟩ = false := HK5.out.frozen 0
    have g0 : w5.cell? ⟨G, 0, none⟩ = some (.string ⟨#[116, 101, 120, 116]⟩) := HV5.out.cell 0
    have b1 : w5.cell? ⟨w.heap.size, 1, none⟩ = some (.string ⟨#[]⟩) := HK5.out.cell 1
    have f1 : w5.frozen? ⟨w.heap.size, 1, none⟩ = false := HK5.out.frozen 1
    have g1 : w5.cell? ⟨G, 1, none⟩ = some (.string s) := HV5.out.cell 1
    have b2 : w5.cell? ⟨w.heap.size, 2, none⟩ = some (.int .i64 0) := HK5.out.cell 2
    have f2 : w5.frozen? ⟨w.heap.size, 2, none⟩ = false := HK5.out.frozen 2
    have g2 : w5.cell? ⟨G, 2, none⟩ = some (.int .i64 0) := HV5.out.cell 2
    have b3 : w5.cell? ⟨w.heap.size, 3, none⟩ = some (.bool false) := HK5.out.cell 3
    have f3 : w5.frozen? ⟨w.heap.size, 3, none⟩ = false := HK5.out.frozen 3
    have g3 : w5.cell? ⟨G, 3, none⟩ = some (.bool false) := HV5.out.cell 3
    have b4 : w5.cell? ⟨w.heap.size, 4, none⟩ = some (.slice none 0 0) := HK5.out.cell 4
    have f4 : w5.frozen? ⟨w.heap.size, 4, none⟩ = false := HK5.out.frozen 4
    have g4 : w5.cell? ⟨G, 4, none⟩ = some (.slice none 0 0) := HV5.out.cell 4
    have b5 : w5.cell? ⟨w.heap.size, 5, none⟩ = some (.slice none 0 0) := HK5.out.cell 5
    have f5 : w5.frozen? ⟨w.heap.size, 5, none⟩ = false := HK5.out.frozen 5
    have g5 : w5.cell? ⟨G, 5, none⟩ = some (.slice none 0 0) := HV5.out.cell 5
    have b6 : w5.cell? ⟨w.heap.size, 6, none⟩ = some (.slice none 0 0) := HK5.out.cell 6
    have f6 : w5.frozen? ⟨w.heap.size, 6, none⟩ = false := HK5.out.frozen 6
    have g6 : w5.cell? ⟨G, 6, none⟩ = some (.slice none 0 0) := HV5.out.cell 6
    go_wp2_with fail
    refine ret_rv2 Try.results32 w.heap.size #[.string ⟨#[]⟩, .string ⟨#[]⟩, .int .i64 0, .bool false, .slice none 0 0, .slice none 0 0, .slice none 0 0] (blk_seven HK5.out (.string ⟨#[]⟩) (.string ⟨#[]⟩) (.int .i64 0) (.bool false) (.slice none 0 0) (.slice none 0 0) (.slice none 0 0)) rfl rfl rfl ⟨_, _, _, _, _, _, _, _, _, _, _, _, _, rfl, fun h => absurd h (by decide), HB5.out.trans ((upd_seven (T := fun k => k = w.heap.size) _ _ rfl _ _ _ _ _ _ _).below (fun k hk => by have hk : k = w.heap.size := hk; omega) HB5.out.size)⟩
  have Rfxfx : (p0 = false ∧ p1 = false) → Calls Try.prog 32 #[.string nm, .string s] w (fun e w' => RR9 1 s 0 false [] [] [] 0 w e w') := by
    rintro ⟨rfl, rfl⟩
    go_enter Try.func32, Try.ntmps32
    go_upto_region 1 with fail
    rw [← hw1]
    clear hw1
    go_upto_region 2 with (go_at_call 56; refine (HSO.out _).mono ?_; rintro e w2 ⟨rfl, hb⟩; have HK2 := Lib.hid (HK.out.below hb HK.out.lt); have HB2 := Lib.hid (HB.out.trans (hb.mono HB.out.size)); have hlt : w.heap.size < w2.heap.size := (by have := hb.size; have := HZ.out; omega); clear hb)
    obtain ⟨w3, hw3⟩ : ∃ w3, w3 = w2.alloc (.cells #[.string ⟨#[116, 101, 120, 116]⟩, .string ⟨#[]⟩, .int .i64 0, .bool false, .slice none 0 0, .slice none 0 0, .slice none 0 0] 37) := ⟨_, rfl⟩
    rw [← hw3]
    have HK3 : Hid (Blk w3 w.heap.size 37 #[.string ⟨#[]⟩, .string ⟨#[]⟩, .int .i64 0, .bool false, .slice none 0 0, .slice none 0 0, .slice none 0 0]) := Lib.hid (by rw [hw3]; exact HK2.out.alloc _)
    have HV3 : Hid (Blk w3 w2.heap.size 37 #[.string ⟨#[116, 101, 120, 116]⟩, .string ⟨#[]⟩, .int .i64 0, .bool false, .slice none 0 0, .slice none 0 0, .slice none 0 0]) := Lib.hid (by rw [hw3]; exact Blk.new w2 _ _)
    have HB3 : Hid (Below w.heap.size w w3) := Lib.hid (by rw [hw3]; exact HB2.out.alloc HB2.out.size _)
    obtain ⟨G, hG⟩ : ∃ G, G = w2.heap.size := ⟨_, rfl⟩
    rw [← hG] at hlt HV3 ⊢
    have HG := Lib.hid hlt
    clear hw3 hG hlt
    have c0 : w3.cell? ⟨G, 0, none⟩ = some (.string ⟨#[116, 101, 120, 116]⟩) := HV3.out.cell 0
    have d4 : w3.cell? ⟨G, 1, none⟩ = some (.string ⟨#[]⟩) := HV3.out.cell 1
    have e4 : w3.frozen? ⟨G, 1, none⟩ = false := HV3.out.frozen 1
    go_upto_region 5 with fail
    obtain ⟨w5, hw5⟩ : ∃ w5, w5 = w3.setCell ⟨G, 1, none⟩ (.string s) := ⟨_, rfl⟩
    rw [← hw5]
    have HK5 : Hid (Blk w5 w.heap.size 37 #[.string ⟨#[]⟩, .string ⟨#[]⟩, .int .i64 0, .bool false, .slice none 0 0, .slice none 0 0, .slice none 0 0]) := Lib.hid (by rw [hw5]; exact HK3.out.far (by have := HG.out; simp; omega) _)
    have HV5 : Hid (Blk w5 G 37 #[.string ⟨#[116, 101, 120, 116]⟩, .string s, .int .i64 0, .bool false, .slice none 0 0, .slice none 0 0, .slice none 0 0]) := Lib.hid (by rw [hw5]; exact HV3.out.set_ 1 _)
    have HB5 : Hid (Below w.heap.size w w5) := Lib.hid (by rw [hw5]; exact HB3.out.setCell (by have := HG.out; simp; omega) _)
    clear hw5
    go_upto_region 22 with (first | (go_at_call 61; refine (HSA.out _ _ (by decide)).mono ?_; rintro e w5 ⟨rfl, hb⟩; have HK5 := Lib.hid (HK5.out.below hb HK5.out.lt); have HV5 := Lib.hid (HV5.out.below hb HV5.out.lt); have HB5 := Lib.hid (HB5.out.trans (hb.mono HB5.out.size)); clear hb) | (go_at_call 62; refine (HNM.out _).mono ?_; rintro e w5 ⟨rfl, hb⟩; have HK5 := Lib.hid (HK5.out.below hb HK5.out.lt); have HV5 := Lib.hid (HV5.out.below hb HV5.out.lt); have HB5 := Lib.hid (HB5.out.trans (hb.mono HB5.out.size)); clear hb) | (go_at_call 63; refine (HIS.out _).mono ?_; rintro e w5 ⟨rfl, hb⟩; have HK5 := Lib.hid (HK5.out.below hb HK5.out.lt); have HV5 := Lib.hid (HV5.out.below hb HV5.out.lt); have HB5 := Lib.hid (HB5.out.trans (hb.mono HB5.out.size)); clear hb))
    have b0 : w5.cell? ⟨w.heap.size, 0, none⟩ = some (.string ⟨#[]⟩) := HK5.out.cell 0
    have f0 : w5.frozen? ⟨w.heap.size, 0, none⟩ = false := HK5.out.frozen 0
    have g0 : w5.cell? ⟨G, 0, none⟩ = some (.string ⟨#[116, 101, 120, 116]⟩) := HV5.out.cell 0
    have b1 : w5.cell? ⟨w.heap.size, 1, none⟩ = some (.string ⟨#[]⟩) := HK5.out.cell 1
    have f1 : w5.frozen? ⟨w.heap.size, 1, none⟩ = false := HK5.out.frozen 1
    have g1 : w5.cell? ⟨G, 1, none⟩ = some (.string s) := HV5.out.cell 1
    have b2 : w5.cell? ⟨w.heap.size, 2, none⟩ = some (.int .i64 0) := HK5.out.cell 2
    have f2 : w5.frozen? ⟨w.heap.size, 2, none⟩ = false := HK5.out.frozen 2
    have g2 : w5.cell? ⟨G, 2, none⟩ = some (.int .i64 0) := HV5.out.cell 2
    have b3 : w5.cell? ⟨w.heap.size, 3, none⟩ = some (.bool false) := HK5.out.cell 3
    have f3 : w5.frozen? ⟨w.heap.size, 3, none⟩ = false := HK5.out.frozen 3
    have g3 : w5.cell? ⟨G, 3, none⟩ = some (.bool false) := HV5.out.cell 3
    have b4 : w5.cell? ⟨w.heap.size, 4, none⟩ = some (.slice none 0 0) := HK5.out.cell 4
    have f4 : w5.frozen? ⟨w.heap.size, 4, none⟩ = false := HK5.out.frozen 4
    have g4 : w5.cell? ⟨G, 4, none⟩ = some (.slice none 0 0) := HV5.out.cell 4
    have b5 : w5.cell? ⟨w.heap.size, 5, none⟩ = some (.slice none 0 0) := HK5.out.cell 5
    have f5 : w5.frozen? ⟨w.heap.size, 5, none⟩ = false := HK5.out.frozen 5
    have g5 : w5.cell? ⟨G, 5, none⟩ = some (.slice none 0 0) := HV5.out.cell 5
    have b6 : w5.cell? ⟨w.heap.size, 6, none⟩ = some (.slice none 0 0) := HK5.out.cell 6
    have f6 : w5.frozen? ⟨w.heap.size, 6, none⟩ = false := HK5.out.frozen 6
    have g6 : w5.cell? ⟨G, 6, none⟩ = some (.slice none 0 0) := HV5.out.cell 6
    go_wp2_with fail
    refine ret_rv2 Try.results32 w.heap.size #[.string ⟨#[116, 101, 120, 116]⟩, .string s, .int .i64 0, .bool false, .slice none 0 0, .slice none 0 0, .slice none 0 0] (blk_seven HK5.out (.string ⟨#[116, 101, 120, 116]⟩) (.string s) (.int .i64 0) (.bool false) (.slice none 0 0) (.slice none 0 0) (.slice none 0 0)) rfl rfl rfl ⟨_, _, _, _, _, _, _, _, _, _, _, _, _, rfl, fun _ => ⟨rfl, rfl, rfl, rfl, ClsAt.nil _, AtsAt.nil _, PrsAt.nil _⟩, HB5.out.trans ((upd_seven (T := fun k => k = w.heap.size) _ _ rfl _ _ _ _ _ _ _).below (fun k hk => by have hk : k = w.heap.size := hk; omega) HB5.out.size)⟩
  have Rfxtt : (p0 = false ∧ p1 = true ∧ vb = true) → Calls Try.prog 32 #[.string nm, .string s] w (fun e w' => RR9 1 s 0 false [] [] [] 0 w e w') := by
    rintro ⟨rfl, rfl, rfl⟩
    go_enter Try.func32, Try.ntmps32
    go_upto_region 1 with fail
    rw [← hw1]
    clear hw1
    go_upto_region 2 with (go_at_call 56; refine (HSO.out _).mono ?_; rintro e w2 ⟨rfl, hb⟩; have HK2 := Lib.hid (HK.out.below hb HK.out.lt); have HB2 := Lib.hid (HB.out.trans (hb.mono HB.out.size)); have hlt : w.heap.size < w2.heap.size := (by have := hb.size; have := HZ.out; omega); clear hb)
    obtain ⟨w3, hw3⟩ : ∃ w3, w3 = w2.alloc (.cells #[.string ⟨#[116, 101, 120, 116]⟩, .string ⟨#[]⟩, .int .i64 0, .bool false, .slice none 0 0, .slice none 0 0, .slice none 0 0] 37) := ⟨_, rfl⟩
    rw [← hw3]
    have HK3 : Hid (Blk w3 w.heap.size 37 #[.string ⟨#[]⟩, .string ⟨#[]⟩, .int .i64 0, .bool false, .slice none 0 0, .slice none 0 0, .slice none 0 0]) := Lib.hid (by rw [hw3]; exact HK2.out.alloc _)
    have HV3 : Hid (Blk w3 w2.heap.size 37 #[.string ⟨#[116, 101, 120, 116]⟩, .string ⟨#[]⟩, .int .i64 0, .bool false, .slice none 0 0, .slice none 0 0, .slice none 0 0]) := Lib.hid (by rw [hw3]; exact Blk.new w2 _ _)
    have HB3 : Hid (Below w.heap.size w w3) := Lib.hid (by rw [hw3]; exact HB2.out.alloc HB2.out.size _)
    obtain ⟨G, hG⟩ : ∃ G, G = w2.heap.size := ⟨_, rfl⟩
    rw [← hG] at hlt HV3 ⊢
    have HG := Lib.hid hlt
    clear hw3 hG hlt
    have c0 : w3.cell? ⟨G, 0, none⟩ = some (.string ⟨#[116, 101, 120, 116]⟩) := HV3.out.cell 0
    have d4 : w3.cell? ⟨G, 1, none⟩ = some (.string ⟨#[]⟩) := HV3.out.cell 1
    have e4 : w3.frozen? ⟨G, 1, none⟩ = false := HV3.out.frozen 1
    go_upto_region 5 with fail
    obtain ⟨w5, hw5⟩ : ∃ w5, w5 = w3.setCell ⟨G, 1, none⟩ (.string s) := ⟨_, rfl⟩
    rw [← hw5]
    have HK5 : Hid (Blk w5 w.heap.size 37 #[.string ⟨#[]⟩, .string ⟨#[]⟩, .int .i64 0, .bool false, .slice none 0 0, .slice none 0 0, .slice none 0 0]) := Lib.hid (by rw [hw5]; exact HK3.out.far (by have := HG.out; simp; omega) _)
    have HV5 : Hid (Blk w5 G 37 #[.string ⟨#[116, 101, 120, 116]⟩, .string s, .int .i64 0, .bool false, .slice none 0 0, .slice none 0 0, .slice none 0 0]) := Lib.hid (by rw [hw5]; exact HV3.out.set_ 1 _)
    have HB5 : Hid (Below w.heap.size w w5) := Lib.hid (by rw [hw5]; exact HB3.out.setCell (by have := HG.out; simp; omega) _)
    clear hw5
    go_upto_region 22 with (first | (go_at_call 61; refine (HSA.out _ _ (by decide)).mono ?_; rintro e w5 ⟨rfl, hb⟩; have HK5 := Lib.hid (HK5.out.below hb HK5.out.lt); have HV5 := Lib.hid (HV5.out.below hb HV5.out.lt); have HB5 := Lib.hid (HB5.out.trans (hb.mono HB5.out.size)); clear hb) | (go_at_call 62; refine (HNM.out _).mono ?_; rintro e w5 ⟨rfl, hb⟩; have HK5 := Lib.hid (HK5.out.below hb HK5.out.lt); have HV5 := Lib.hid (HV5.out.below hb HV5.out.lt); have HB5 := Lib.hid (HB5.out.trans (hb.mono HB5.out.size)); clear hb) | (go_at_call 63; refine (HIS.out _).mono ?_; rintro e w5 ⟨rfl, hb⟩; have HK5 := Lib.hid (HK5.out.below hb HK5.out.lt); have HV5 := Lib.hid (HV5.out.below hb HV5.out.lt); have HB5 := Lib.hid (HB5.out.trans (hb.mono HB5.out.size)); clear hb))
    have b0 : w5.cell? ⟨w.heap.size, 0, none⟩ = some (.string ⟨#[]⟩) := HK5.out.cell 0
    have f0 : w5.frozen? ⟨w.heap.size, 0, none⟩ = false := HK5.out.frozen 0
    have g0 : w5.cell? ⟨G, 0, none⟩ = some (.string ⟨#[116, 101, 120, 116]⟩) := HV5.out.cell 0
    have b1 : w5.cell? ⟨w.heap.size, 1, none⟩ = some (.string ⟨#[]⟩) := HK5.out.cell 1
    have f1 : w5.frozen? ⟨w.heap.size, 1, none⟩ = false := HK5.out.frozen 1
    have g1 : w5.cell? ⟨G, 1, none⟩ = some (.string s) := HV5.out.cell 1
    have b2 : w5.cell? ⟨w.heap.size, 2, none⟩ = some (.int .i64 0) := HK5.out.cell 2
    have f2 : w5.frozen? ⟨w.heap.size, 2, none⟩ = false := HK5.out.frozen 2
    have g2 : w5.cell? ⟨G, 2, none⟩ = some (.int .i64 0) := HV5.out.cell 2
    have b3 : w5.cell? ⟨w.heap.size, 3, none⟩ = some (.bool false) := HK5.out.cell 3
    have f3 : w5.frozen? ⟨w.heap.size, 3, none⟩ = false := HK5.out.frozen 3
    have g3 : w5.cell? ⟨G, 3, none⟩ = some (.bool false) := HV5.out.cell 3
    have b4 : w5.cell? ⟨w.heap.size, 4, none⟩ = some (.slice none 0 0) := HK5.out.cell 4
    have f4 : w5.frozen? ⟨w.heap.size, 4, none⟩ = false := HK5.out.frozen 4
    have g4 : w5.cell? ⟨G, 4, none⟩ = some (.slice none 0 0) := HV5.out.cell 4
    have b5 : w5.cell? ⟨w.heap.size, 5, none⟩ = some (.slice none 0 0) := HK5.out.cell 5
    have f5 : w5.frozen? ⟨w.heap.size, 5, none⟩ = false := HK5.out.frozen 5
    have g5 : w5.cell? ⟨G, 5, none⟩ = some (.slice none 0 0) := HV5.out.cell 5
    have b6 : w5.cell? ⟨w.heap.size, 6, none⟩ = some (.slice none 0 0) := HK5.out.cell 6
    have f6 : w5.frozen? ⟨w.heap.size, 6, none⟩ = false := HK5.out.frozen 6
    have g6 : w5.cell? ⟨G, 6, none⟩ = some (.slice none 0 0) := HV5.out.cell 6
    go_wp2_with fail
    refine ret_rv2 Try.results32 w.heap.size #[.string ⟨#[116, 101, 120, 116]⟩, .string s, .int .i64 0, .bool false, .slice none 0 0, .slice none 0 0, .slice none 0 0] (blk_seven HK5.out (.string ⟨#[116, 101, 120, 116]⟩) (.string s) (.int .i64 0) (.bool false) (.slice none 0 0) (.slice none 0 0) (.slice none 0 0)) rfl rfl rfl ⟨_, _, _, _, _, _, _, _, _, _, _, _, _, rfl, fun _ => ⟨rfl, rfl, rfl, rfl, ClsAt.nil _, AtsAt.nil _, PrsAt.nil _⟩, HB5.out.trans ((upd_seven (T := fun k => k = w.heap.size) _ _ rfl _ _ _ _ _ _ _).below (fun k hk => by have hk : k = w.heap.size := hk; omega) HB5.out.size)⟩
  have Rfxtf : (p0 = false ∧ p1 = true ∧ vb = false) → Calls Try.prog 32 #[.string nm, .string s] w (fun e w' => RR9 1 s 0 false [] [] [] 3 w e w') := by
    rintro ⟨rfl, rfl, rfl⟩
    go_enter Try.func32, Try.ntmps32
    go_upto_region 1 with fail
    rw [← hw1]
    clear hw1
    go_upto_region 2 with (go_at_call 56; refine (HSO.out _).mono ?_; rintro e w2 ⟨rfl, hb⟩; have HK2 := Lib.hid (HK.out.below hb HK.out.lt); have HB2 := Lib.hid (HB.out.trans (hb.mono HB.out.size)); have hlt : w.heap.size < w2.heap.size := (by have := hb.size; have := HZ.out; omega); clear hb)
    obtain ⟨w3, hw3⟩ : ∃ w3, w3 = w2.alloc (.cells #[.string ⟨#[116, 101, 120, 116]⟩, .string ⟨#[]⟩, .int .i64 0, .bool false, .slice none 0 0, .slice none 0 0, .slice none 0 0] 37) := ⟨_, rfl⟩
    rw [← hw3]
    have HK3 : Hid (Blk w3 w.heap.size 37 #[.string ⟨#[]⟩, .string ⟨#[]⟩, .int .i64 0, .bool false, .slice none 0 0, .slice none 0 0, .slice none 0 0]) := Lib.hid (by rw [hw3]; exact HK2.out.alloc _)
    have HV3 : Hid (Blk w3 w2.heap.size 37 #[.string ⟨#[116, 101, 120, 116]⟩, .string ⟨#[]⟩, .int .i64 0, .bool false, .slice none 0 0, .slice none 0 0, .slice none 0 0]) := Lib.hid (by rw [hw3]; exact Blk.new w2 _ _)
    have HB3 : Hid (Below w.heap.size w w3) := Lib.hid (by rw [hw3]; exact HB2.out.alloc HB2.out.size _)
    obtain ⟨G, hG⟩ : ∃ G, G = w2.heap.size := ⟨_, rfl⟩
    rw [← hG] at hlt HV3 ⊢
    have HG := Lib.hid hlt
    clear hw3 hG hlt
    have c0 : w3.cell? ⟨G, 0, none⟩ = some (.string ⟨#[116, 101, 120, 116]⟩) := HV3.out.cell 0
    have d4 : w3.cell? ⟨G, 1, none⟩ = some (.string ⟨#[]⟩) := HV3.out.cell 1
    have e4 : w3.frozen? ⟨G, 1, none⟩ = false := HV3.out.frozen 1
    go_upto_region 5 with fail
    obtain ⟨w5, hw5⟩ : ∃ w5, w5 = w3.setCell ⟨G, 1, none⟩ (.string s) := ⟨_, rfl⟩
    rw [← hw5]
    have HK5 : Hid (Blk w5 w.heap.size 37 #[.string ⟨#[]⟩, .string ⟨#[]⟩, .int .i64 0, .bool false, .slice none 0 0, .slice none 0 0, .slice none 0 0]) := Lib.hid (by rw [hw5]; exact HK3.out.far (by have := HG.out; simp; omega) _)
    have HV5 : Hid (Blk w5 G 37 #[.string ⟨#[116, 101, 120, 116]⟩, .string s, .int .i64 0, .bool false, .slice none 0 0, .slice none 0 0, .slice none 0 0]) := Lib.hid (by rw [hw5]; exact HV3.out.set_ 1 _)
    have HB5 : Hid (Below w.heap.size w w5) := Lib.hid (by rw [hw5]; exact HB3.out.setCell (by have := HG.out; simp; omega) _)
    clear hw5
    go_upto_region 22 with (first | (go_at_call 61; refine (HSA.out _ _ (by decide)).mono ?_; rintro e w5 ⟨rfl, hb⟩; have HK5 := Lib.hid (HK5.out.below hb HK5.out.lt); have HV5 := Lib.hid (HV5.out.below hb HV5.out.lt); have HB5 := Lib.hid (HB5.out.trans (hb.mono HB5.out.size)); clear hb) | (go_at_call 62; refine (HNM.out _).mono ?_; rintro e w5 ⟨rfl, hb⟩; have HK5 := Lib.hid (HK5.out.below hb HK5.out.lt); have HV5 := Lib.hid (HV5.out.below hb HV5.out.lt); have HB5 := Lib.hid (HB5.out.trans (hb.mono HB5.out.size)); clear hb) | (go_at_call 63; refine (HIS.out _).mono ?_; rintro e w5 ⟨rfl, hb⟩; have HK5 := Lib.hid (HK5.out.below hb HK5.out.lt); have HV5 := Lib.hid (HV5.out.below hb HV5.out.lt); have HB5 := Lib.hid (HB5.out.trans (hb.mono HB5.out.size)); clear hb))
    have b0 : w5.cell? ⟨w.heap.size, 0, none⟩ = some (.string ⟨#[]⟩) := HK5.out.cell 0
    have f0 : w5.frozen? ⟨w.heap.size, 0, none⟩ = false := HK5.out.frozen 0
    have g0 : w5.cell? ⟨G, 0, none⟩ = some (.string ⟨#[116, 101, 120, 116]⟩) := HV5.out.cell 0
    have b1 : w5.cell? ⟨w.heap.size, 1, none⟩ = some (.string ⟨#[]⟩) := HK5.out.cell 1
    have f1 : w5.frozen? ⟨w.heap.size, 1, none⟩ = false := HK5.out.frozen 1
    have g1 : w5.cell? ⟨G, 1, none⟩ = some (.string s) := HV5.out.cell 1
    have b2 : w5.cell? ⟨w.heap.size, 2, none⟩ = some (.int .i64 0) := HK5.out.cell 2
    have f2 : w5.frozen? ⟨w.heap.size, 2, none⟩ = false := HK5.out.frozen 2
    have g2 : w5.cell? ⟨G, 2, none⟩ = some (.int .i64 0) := HV5.out.cell 2
    have b3 : w5.cell? ⟨w.heap.size, 3, none⟩ = some (.bool false) := HK5.out.cell 3
    have f3 : w5.frozen? ⟨w.heap.size, 3, none⟩ = false := HK5.out.frozen 3
    have g3 : w5.cell? ⟨G, 3, none⟩ = some (.bool false) := HV5.out.cell 3
    have b4 : w5.cell? ⟨w.heap.size, 4, none⟩ = some (.slice none 0 0) := HK5.out.cell 4
    have f4 : w5.frozen? ⟨w.heap.size, 4, none⟩ = false := HK5.out.frozen 4
    have g4 : w5.cell? ⟨G, 4, none⟩ = some (.slice none 0 0) := HV5.out.cell 4
    have b5 : w5.cell? ⟨w.heap.size, 5, none⟩ = some (.slice none 0 0) := HK5.out.cell 5
    have f5 : w5.frozen? ⟨w.heap.size, 5, none⟩ = false := HK5.out.frozen 5
    have g5 : w5.cell? ⟨G, 5, none⟩ = some (.slice none 0 0) := HV5.out.cell 5
    have b6 : w5.cell? ⟨w.heap.size, 6, none⟩ = some (.slice none 0 0) := HK5.out.cell 6
    have f6 : w5.frozen? ⟨w.heap.size, 6, none⟩ = false := HK5.out.frozen 6
    have g6 : w5.cell? ⟨G, 6, none⟩ = some (.slice none 0 0) := HV5.out.cell 6
    go_wp2_with fail
    refine ret_rv2 Try.results32 w.heap.size #[.string ⟨#[]⟩, .string ⟨#[]⟩, .int .i64 0, .bool false, .slice none 0 0, .slice none 0 0, .slice none 0 0] (blk_seven HK5.out (.string ⟨#[]⟩) (.string ⟨#[]⟩) (.int .i64 0) (.bool false) (.slice none 0 0) (.slice none 0 0) (.slice none 0 0)) rfl rfl rfl ⟨_, _, _, _, _, _, _, _, _, _, _, _, _, rfl, fun h => absurd h (by decide), HB5.out.trans ((upd_seven (T := fun k => k = w.heap.size) _ _ rfl _ _ _ _ _ _ _).below (fun k hk => by have hk : k = w.heap.size := hk; omega) HB5.out.size)⟩
  have Rttfx : (p0 = true ∧ nb = true ∧ p1 = false) → Calls Try.prog 32 #[.string nm, .string s] w (fun e w' => RR9 1 s 0 false [] [] [] 0 w e w') := by
    rintro ⟨rfl, rfl, rfl⟩
    go_enter Try.func32, Try.ntmps32
    go_upto_region 1 with fail
    rw [← hw1]
    clear hw1
    go_upto_region 2 with (go_at_call 56; refine (HSO.out _).mono ?_; rintro e w2 ⟨rfl, hb⟩; have HK2 := Lib.hid (HK.out.below hb HK.out.lt); have HB2 := Lib.hid (HB.out.trans (hb.mono HB.out.size)); have hlt : w.heap.size < w2.heap.size := (by have := hb.size; have := HZ.out; omega); clear hb)
    obtain ⟨w3, hw3⟩ : ∃ w3, w3 = w2.alloc (.cells #[.string ⟨#[116, 101, 120, 116]⟩, .string ⟨#[]⟩, .int .i64 0, .bool false, .slice none 0 0, .slice none 0 0, .slice none 0 0] 37) := ⟨_, rfl⟩
    rw [← hw3]
    have HK3 : Hid (Blk w3 w.heap.size 37 #[.string ⟨#[]⟩, .string ⟨#[]⟩, .int .i64 0, .bool false, .slice none 0 0, .slice none 0 0, .slice none 0 0]) := Lib.hid (by rw [hw3]; exact HK2.out.alloc _)
    have HV3 : Hid (Blk w3 w2.heap.size 37 #[.string ⟨#[116, 101, 120, 116]⟩, .string ⟨#[]⟩, .int .i64 0, .bool false, .slice none 0 0, .slice none 0 0, .slice none 0 0]) := Lib.hid (by rw [hw3]; exact Blk.new w2 _ _)
    have HB3 : Hid (Below w.heap.size w w3) := Lib.hid (by rw [hw3]; exact HB2.out.alloc HB2.out.size _)
    obtain ⟨G, hG⟩ : ∃ G, G = w2.heap.size := ⟨_, rfl⟩
    rw [← hG] at hlt HV3 ⊢
    have HG := Lib.hid hlt
    clear hw3 hG hlt
    have c0 : w3.cell? ⟨G, 0, none⟩ = some (.string ⟨#[116, 101, 120, 116]⟩) := HV3.out.cell 0
    have d4 : w3.cell? ⟨G, 1, none⟩ = some (.string ⟨#[]⟩) := HV3.out.cell 1
    have e4 : w3.frozen? ⟨G, 1, none⟩ = false := HV3.out.frozen 1
    go_upto_region 5 with fail
    obtain ⟨w5, hw5⟩ : ∃ w5, w5 = w3.setCell ⟨G, 1, none⟩ (.string s) := ⟨_, rfl⟩
    rw [← hw5]
    have HK5 : Hid (Blk w5 w.heap.size 37 #[.string ⟨#[]⟩, .string ⟨#[]⟩, .int .i64 0, .bool false, .slice none 0 0, .slice none 0 0, .slice none 0 0]) := Lib.hid (by rw [hw5]; exact HK3.out.far (by have := HG.out; simp; omega) _)
    have HV5 : Hid (Blk w5 G 37 #[.string ⟨#[116, 101, 120, 116]⟩, .string s, .int .i64 0, .bool false, .slice none 0 0, .slice none 0 0, .slice none 0 0]) := Lib.hid (by rw [hw5]; exact HV3.out.set_ 1 _)
    have HB5 : Hid (Below w.heap.size w w5) := Lib.hid (by rw [hw5]; exact HB3.out.setCell (by have := HG.out; simp; omega) _)
    clear hw5
    go_upto_region 22 with (first | (go_at_call 61; refine (HSA.out _ _ (by decide)).mono ?_; rintro e w5 ⟨rfl, hb⟩; have HK5 := Lib.hid (HK5.out.below hb HK5.out.lt); have HV5 := Lib.hid (HV5.out.below hb HV5.out.lt); have HB5 := Lib.hid (HB5.out.trans (hb.mono HB5.out.size)); clear hb) | (go_at_call 62; refine (HNM.out _).mono ?_; rintro e w5 ⟨rfl, hb⟩; have HK5 := Lib.hid (HK5.out.below hb HK5.out.lt); have HV5 := Lib.hid (HV5.out.below hb HV5.out.lt); have HB5 := Lib.hid (HB5.out.trans (hb.mono HB5.out.size)); clear hb) | (go_at_call 63; refine (HIS.out _).mono ?_; rintro e w5 ⟨rfl, hb⟩; have HK5 := Lib.hid (HK5.out.below hb HK5.out.lt); have HV5 := Lib.hid (HV5.out.below hb HV5.out.lt); have HB5 := Lib.hid (HB5.out.trans (hb.mono HB5.out.size)); clear hb))
    have b0 : w5.cell? ⟨w.heap.size, 0, none⟩ = some (.string ⟨#[]⟩) := HK5.out.cell 0
    have f0 : w5.frozen? ⟨w.heap.size, 0, none⟩ = false := HK5.out.frozen 0
    have g0 : w5.cell? ⟨G, 0, none⟩ = some (.string ⟨#[116, 101, 120, 116]⟩) := HV5.out.cell 0
    have b1 : w5.cell? ⟨w.heap.size, 1, none⟩ = some (.string ⟨#[]⟩) := HK5.out.cell 1
    have f1 : w5.frozen? ⟨w.heap.size, 1, none⟩ = false := HK5.out.frozen 1
    have g1 : w5.cell? ⟨G, 1, none⟩ = some (.string s) := HV5.out.cell 1
    have b2 : w5.cell? ⟨w.heap.size, 2, none⟩ = some (.int .i64 0) := HK5.out.cell 2
    have f2 : w5.frozen? ⟨w.heap.size, 2, none⟩ = false := HK5.out.frozen 2
    have g2 : w5.cell? ⟨G, 2, none⟩ = some (.int .i64 0) := HV5.out.cell 2
    have b3 : w5.cell? ⟨w.heap.size, 3, none⟩ = some (.bool false) := HK5.out.cell 3
    have f3 : w5.frozen? ⟨w.heap.size, 3, none⟩ = false := HK5.out.frozen 3
    have g3 : w5.cell? ⟨G, 3, none⟩ = some (.bool false) := HV5.out.cell 3
    have b4 : w5.cell? ⟨w.heap.size, 4, none⟩ = some (.slice none 0 0) := HK5.out.cell 4
    have f4 : w5.frozen? ⟨w.heap.size, 4, none⟩ = false := HK5.out.frozen 4
    have g4 : w5.cell? ⟨G, 4, none⟩ = some (.slice none 0 0) := HV5.out.cell 4
    have b5 : w5.cell? ⟨w.heap.size, 5, none⟩ = some (.slice none 0 0) := HK5.out.cell 5
    have f5 : w5.frozen? ⟨w.heap.size, 5, none⟩ = false := HK5.out.frozen 5
    have g5 : w5.cell? ⟨G, 5, none⟩ = some (.slice none 0 0) := HV5.out.cell 5
    have b6 : w5.cell? ⟨w.heap.size, 6, none⟩ = some (.slice none 0 0) := HK5.out.cell 6
    have f6 : w5.frozen? ⟨w.heap.size, 6, none⟩ = false := HK5.out.frozen 6
    have g6 : w5.cell? ⟨G, 6, none⟩ = some (.slice none 0 0) := HV5.out.cell 6
    go_wp2_with fail
    refine ret_rv2 Try.results32 w.heap.size #[.string ⟨#[116, 101, 120, 116]⟩, .string s, .int .i64 0, .bool false, .slice none 0 0, .slice none 0 0, .slice none 0 0] (blk_seven HK5.out (.string ⟨#[116, 101, 120, 116]⟩) (.string s) (.int .i64 0) (.bool false) (.slice none 0 0) (.slice none 0 0) (.slice none 0 0)) rfl rfl rfl ⟨_, _, _, _, _, _, _, _, _, _, _, _, _, rfl, fun _ => ⟨rfl, rfl, rfl, rfl, ClsAt.nil _, AtsAt.nil _, PrsAt.nil _⟩, HB5.out.trans ((upd_seven (T := fun k => k = w.heap.size) _ _ rfl _ _ _ _ _ _ _).below (fun k hk => by have hk : k = w.heap.size := hk; omega) HB5.out.size)⟩
  have Rtttt : (p0 = true ∧ nb = true ∧ p1 = true ∧ vb = true) → Calls Try.prog 32 #[.string nm, .string s] w (fun e w' => RR9 1 s 0 false [] [] [] 0 w e w') := by
    rintro ⟨rfl, rfl, rfl, rfl⟩
    go_enter Try.func32, Try.ntmps32
    go_upto_region 1 with fail
    rw [← hw1]
    clear hw1
    go_upto_region 2 with (go_at_call 56; refine (HSO.out _).mono ?_; rintro e w2 ⟨rfl, hb⟩; have HK2 := Lib.hid (HK.out.below hb HK.out.lt); have HB2 := Lib.hid (HB.out.trans (hb.mono HB.out.size)); have hlt : w.heap.size < w2.heap.size := (by have := hb.size; have := HZ.out; omega); clear hb)
    obtain ⟨w3, hw3⟩ : ∃ w3, w3 = w2.alloc (.cells #[.string ⟨#[116, 101, 120, 116]⟩, .string ⟨#[]⟩, .int .i64 0, .bool false, .slice none 0 0, .slice none 0 0, .slice none 0 0] 37) := ⟨_, rfl⟩
    rw [← hw3]
    have HK3 : Hid (Blk w3 w.heap.size 37 #[.string ⟨#[]⟩, .string ⟨#[]⟩, .int .i64 0, .bool false, .slice none 0 0, .slice none 0 0, .slice none 0 0]) := Lib.hid (by rw [hw3]; exact HK2.out.alloc _)
    have HV3 : Hid (Blk w3 w2.heap.size 37 #[.string ⟨#[116, 101, 120, 116]⟩, .string ⟨#[]⟩, .int .i64 0, .bool false, .slice none 0 0, .slice none 0 0, .slice none 0 0]) := Lib.hid (by rw [hw3]; exact Blk.new w2 _ _)
    have HB3 : Hid (Below w.heap.size w w3) := Lib.hid (by rw [hw3]; exact HB2.out.alloc HB2.out.size _)
    obtain ⟨G, hG⟩ : ∃ G, G = w2.heap.size := ⟨_, rfl⟩
    rw [← hG] at hlt HV3 ⊢
    have HG := Lib.hid hlt
    clear hw3 hG hlt
    have c0 : w3.cell? ⟨G, 0, none⟩ = some (.string ⟨#[116, 101, 120, 116]⟩) := HV3.out.cell 0
    have d4 : w3.cell? ⟨G, 1, none⟩ = some (.string ⟨#[]⟩) := HV3.out.cell 1
    have e4 : w3.frozen? ⟨G, 1, none⟩ = false := HV3.out.frozen 1
    go_upto_region 5 with fail
    obtain ⟨w5, hw5⟩ : ∃ w5, w5 = w3.setCell ⟨G, 1, none⟩ (.string s) := ⟨_, rfl⟩
    rw [← hw5]
    have HK5 : Hid (Blk w5 w.heap.size 37 #[.string ⟨#[]⟩, .string ⟨#[]⟩, .int .i64 0, .bool false, .slice none 0 0, .slice none 0 0, .slice none 0 0]) := Lib.hid (by rw [hw5]; exact HK3.out.far (by have := HG.out; simp; omega) _)
    have HV5 : Hid (Blk w5 G 37 #[.string ⟨#[116, 101, 120, 116]⟩, .string s, .int .i64 0, .bool false, .slice none 0 0, .slice none 0 0, .slice none 0 0]) := Lib.hid (by rw [hw5]; exact HV3.out.set_ 1 _)
    have HB5 : Hid (Below w.heap.size w w5) := Lib.hid (by rw [hw5]; exact HB3.out.setCell (by have := HG.out; simp; omega) _)
    clear hw5
    go_upto_region 22 with (first | (go_at_call 61; refine (HSA.out _ _ (by decide)).mono ?_; rintro e w5 ⟨rfl, hb⟩; have HK5 := Lib.hid (HK5.out.below hb HK5.out.lt); have HV5 := Lib.hid (HV5.out.below hb HV5.out.lt); have HB5 := Lib.hid (HB5.out.trans (hb.mono HB5.out.size)); clear hb) | (go_at_call 62; refine (HNM.out _).mono ?_; rintro e w5 ⟨rfl, hb⟩; have HK5 := Lib.hid (HK5.out.below hb HK5.out.lt); have HV5 := Lib.hid (HV5.out.below hb HV5.out.lt); have HB5 := Lib.hid (HB5.out.trans (hb.mono HB5.out.size)); clear hb) | (go_at_call 63; refine (HIS.out _).mono ?_; rintro e w5 ⟨rfl, hb⟩; have HK5 := Lib.hid (HK5.out.below hb HK5.out.lt); have HV5 := Lib.hid (HV5.out.below hb HV5.out.lt); have HB5 := Lib.hid (HB5.out.trans (hb.mono HB5.out.size)); clear hb))
    have b0 : w5.cell? ⟨w.heap.size, 0, none⟩ = some (.string ⟨#[]⟩) := HK5.out.cell 0
    have f0 : w5.frozen? ⟨w.heap.size, 0, none⟩ = false := HK5.out.frozen 0
    have g0 : w5.cell? ⟨G, 0, none⟩ = some (.string ⟨#[116, 101, 120, 116]⟩) := HV5.out.cell 0
    have b1 : w5.cell? ⟨w.heap.size, 1, none⟩ = some (.string ⟨#[]⟩) := HK5.out.cell 1
    have f1 : w5.frozen? ⟨w.heap.size, 1, none⟩ = false := HK5.out.frozen 1
    have g1 : w5.cell? ⟨G, 1, none⟩ = some (.string s) := HV5.out.cell 1
    have b2 : w5.cell? ⟨w.heap.size, 2, none⟩ = some (.int .i64 0) := HK5.out.cell 2
    have f2 : w5.frozen? ⟨w.heap.size, 2, none⟩ = false := HK5.out.frozen 2
    have g2 : w5.cell? ⟨G, 2, none⟩ = some (.int .i64 0) := HV5.out.cell 2
    have b3 : w5.cell? ⟨w.heap.size, 3, none⟩ = some (.bool false) := HK5.out.cell 3
    have f3 : w5.frozen? ⟨w.heap.size, 3, none⟩ = false := HK5.out.frozen 3
    have g3 : w5.cell? ⟨G, 3, none⟩ = some (.bool false) := HV5.out.cell 3
    have b4 : w5.cell? ⟨w.heap.size, 4, none⟩ = some (.slice none 0 0) := HK5.out.cell 4
    have f4 : w5.frozen? ⟨w.heap.size, 4, none⟩ = false := HK5.out.frozen 4
    have g4 : w5.cell? ⟨G, 4, none⟩ = some (.slice none 0 0) := HV5.out.cell 4
    have b5 : w5.cell? ⟨w.heap.size, 5, none⟩ = some (.slice none 0 0) := HK5.out.cell 5
    have f5 : w5.frozen? ⟨w.heap.size, 5, none⟩ = false := HK5.out.frozen 5
    have g5 : w5.cell? ⟨G, 5, none⟩ = some (.slice none 0 0) := HV5.out.cell 5
    have b6 : w5.cell? ⟨w.heap.size, 6, none⟩ = some (.slice none 0 0) := HK5.out.cell 6
    have f6 : w5.frozen? ⟨w.heap.size, 6, none⟩ = false := HK5.out.frozen 6
    have g6 : w5.cell? ⟨G, 6, none⟩ = some (.slice none 0 0) := HV5.out.cell 6
    go_wp2_with fail
    refine ret_rv2 Try.results32 w.heap.size #[.string ⟨#[116, 101, 120, 116]⟩, .string s, .int .i64 0, .bool false, .slice none 0 0, .slice none 0 0, .slice none 0 0] (blk_seven HK5.out (.string ⟨#[116, 101, 120, 116]⟩) (.string s) (.int .i64 0) (.bool false) (.slice none 0 0) (.slice none 0 0) (.slice none 0 0)) rfl rfl rfl ⟨_, _, _, _, _, _, _, _, _, _, _, _, _, rfl, fun _ => ⟨rfl, rfl, rfl, rfl, ClsAt.nil _, AtsAt.nil _, PrsAt.nil _⟩, HB5.out.trans ((upd_seven (T := fun k => k = w.heap.size) _ _ rfl _ _ _ _ _ _ _).below (fun k hk => by have hk : k = w.heap.size := hk; omega) HB5.out.size)⟩
  have Rtttf : (p0 = true ∧ nb = true ∧ p1 = true ∧ vb = false) → Calls Try.prog 32 #[.string nm, .string s] w (fun e w' => RR9 1 s 0 false [] [] [] 3 w e w') := by
    rintro ⟨rfl, rfl, rfl, rfl⟩
    go_enter Try.func32, Try.ntmps32
    go_upto_region 1 with fail
    rw [← hw1]
    clear hw1
    go_upto_region 2 with (go_at_call 56; refine (HSO.out _).mono ?_; rintro e w2 ⟨rfl, hb⟩; have HK2 := Lib.hid (HK.out.below hb HK.out.lt); have HB2 := Lib.hid (HB.out.trans (hb.mono HB.out.size)); have hlt : w.heap.size < w2.heap.size := (by have := hb.size; have := HZ.out; omega); clear hb)
    obtain ⟨w3, hw3⟩ : ∃ w3, w3 = w2.alloc (.cells #[.string ⟨#[116, 101, 120, 116]⟩, .string ⟨#[]⟩, .int .i64 0, .bool false, .slice none 0 0, .slice none 0 0, .slice none 0 0] 37) := ⟨_, rfl⟩
    rw [← hw3]
    have HK3 : Hid (Blk w3 w.heap.size 37 #[.string ⟨#[]⟩, .string ⟨#[]⟩, .int .i64 0, .bool false, .slice none 0 0, .slice none 0 0, .slice none 0 0]) := Lib.hid (by rw [hw3]; exact HK2.out.alloc _)
    have HV3 : Hid (Blk w3 w2.heap.size 37 #[.string ⟨#[116, 101, 120, 116]⟩, .string ⟨#[]⟩, .int .i64 0, .bool false, .slice none 0 0, .slice none 0 0, .slice none 0 0]) := Lib.hid (by rw [hw3]; exact Blk.new w2 _ _)
    have HB3 : Hid (Below w.heap.size w w3) := Lib.hid (by rw [hw3]; exact HB2.out.alloc HB2.out.size _)
    obtain ⟨G, hG⟩ : ∃ G, G = w2.heap.size := ⟨_, rfl⟩
    rw [← hG] at hlt HV3 ⊢
    have HG := Lib.hid hlt
    clear hw3 hG hlt
    have c0 : w3.cell? ⟨G, 0, none⟩ = some (.string ⟨#[116, 101, 120, 116]⟩) := HV3.out.cell 0
    have d4 : w3.cell? ⟨G, 1, none⟩ = some (.string ⟨#[]⟩) := HV3.out.cell 1
    have e4 : w3.frozen? ⟨G, 1, none⟩ = false := HV3.out.frozen 1
    go_upto_region 5 with fail
    obtain ⟨w5, hw5⟩ : ∃ w5, w5 = w3.setCell ⟨G, 1, none⟩ (.string s) := ⟨_, rfl⟩
    rw [← hw5]
    have HK5 : Hid (Blk w5 w.heap.size 37 #[.string ⟨#[]⟩, .string ⟨#[]⟩, .int .i64 0, .bool false, .slice none 0 0, .slice none 0 0, .slice none 0 0]) := Lib.hid (by rw [hw5]; exact HK3.out.far (by have := HG.out; simp; omega) _)
    have HV5 : Hid (Blk w5 G 37 #[.string ⟨#[116, 101, 120, 116]⟩, .string s, .int .i64 0, .bool false, .slice none 0 0, .slice none 0 0, .slice none 0 0]) := Lib.hid (by rw [hw5]; exact HV3.out.set_ 1 _)
    have HB5 : Hid (Below w.heap.size w w5) := Lib.hid (by rw [hw5]; exact HB3.out.setCell (by have := HG.out; simp; omega) _)
    clear hw5
    go_upto_region 22 with (first | (go_at_call 61; refine (HSA.out _ _ (by decide)).mono ?_; rintro e w5 ⟨rfl, hb⟩; have HK5 := Lib.hid (HK5.out.below hb HK5.out.lt); have HV5 := Lib.hid (HV5.out.below hb HV5.out.lt); have HB5 := Lib.hid (HB5.out.trans (hb.mono HB5.out.size)); clear hb) | (go_at_call 62; refine (HNM.out _).mono ?_; rintro e w5 ⟨rfl, hb⟩; have HK5 := Lib.hid (HK5.out.below hb HK5.out.lt); have HV5 := Lib.hid (HV5.out.below hb HV5.out.lt); have HB5 := Lib.hid (HB5.out.trans (hb.mono HB5.out.size)); clear hb) | (go_at_call 63; refine (HIS.out _).mono ?_; rintro e w5 ⟨rfl, hb⟩; have HK5 := Lib.hid (HK5.out.below hb HK5.out.lt); have HV5 := Lib.hid (HV5.out.below hb HV5.out.lt); have HB5 := Lib.hid (HB5.out.trans (hb.mono HB5.out.size)); clear hb))
    have b0 : w5.cell? ⟨w.heap.size, 0, none⟩ = some (.string ⟨#[]⟩) := HK5.out.cell 0
    have f0 : w5.frozen? ⟨w.heap.size, 0, none⟩ = false := HK5.out.frozen 0
    have g0 : w5.cell? ⟨G, 0, none⟩ = some (.string ⟨#[116, 101, 120, 116]⟩) := HV5.out.cell 0
    have b1 : w5.cell? ⟨w.heap.size, 1, none⟩ = some (.string ⟨#[]⟩) := HK5.out.cell 1
    have f1 : w5.frozen? ⟨w.heap.size, 1, none⟩ = false := HK5.out.frozen 1
    have g1 : w5.cell? ⟨G, 1, none⟩ = some (.string s) := HV5.out.cell 1
    have b2 : w5.cell? ⟨w.heap.size, 2, none⟩ = some (.int .i64 0) := HK5.out.cell 2
    have f2 : w5.frozen? ⟨w.heap.size, 2, none⟩ = false := HK5.out.frozen 2
    have g2 : w5.cell? ⟨G, 2, none⟩ = some (.int .i64 0) := HV5.out.cell 2
    have b3 : w5.cell? ⟨w.heap.size, 3, none⟩ = some (.bool false) := HK5.out.cell 3
    have f3 : w5.frozen? ⟨w.heap.size, 3, none⟩ = false := HK5.out.frozen 3
    have g3 : w5.cell? ⟨G, 3, none⟩ = some (.bool false) := HV5.out.cell 3
    have b4 : w5.cell? ⟨w.heap.size, 4, none⟩ = some (.slice none 0 0) := HK5.out.cell 4
    have f4 : w5.frozen? ⟨w.heap.size, 4, none⟩ = false := HK5.out.frozen 4
    have g4 : w5.cell? ⟨G, 4, none⟩ = some (.slice none 0 0) := HV5.out.cell 4
    have b5 : w5.cell? ⟨w.heap.size, 5, none⟩ = some (.slice none 0 0) := HK5.out.cell 5
    have f5 : w5.frozen? ⟨w.heap.size, 5, none⟩ = false := HK5.out.frozen 5
    have g5 : w5.cell? ⟨G, 5, none⟩ = some (.slice none 0 0) := HV5.out.cell 5
    have b6 : w5.cell? ⟨w.heap.size, 6, none⟩ = some (.slice none 0 0) := HK5.out.cell 6
    have f6 : w5.frozen? ⟨w.heap.size, 6, none⟩ = false := HK5.out.frozen 6
    have g6 : w5.cell? ⟨G, 6, none⟩ = some (.slice none 0 0) := HV5.out.cell 6
    go_wp2_with fail
    refine ret_rv2 Try.results32 w.heap.size #[.string ⟨#[]⟩, .string ⟨#[]⟩, .int .i64 0, .bool false, .slice none 0 0, .slice none 0 0, .slice none 0 0] (blk_seven HK5.out (.string ⟨#[]⟩) (.string ⟨#[]⟩) (.int .i64 0) (.bool false) (.slice none 0 0) (.slice none 0 0) (.slice none 0 0)) rfl rfl rfl ⟨_, _, _, _, _, _, _, _, _, _, _, _, _, rfl, fun h => absurd h (by decide), HB5.out.trans ((upd_seven (T := fun k => k = w.heap.size) _ _ rfl _ _ _ _ _ _ _).below (fun k hk => by have hk : k = w.heap.size := hk; omega) HB5.out.size)⟩
  cases p0 with
  | true =>
    cases nb with
    | false => exact Rtfxx ⟨rfl, rfl⟩
    | true =>
      cases p1 with
      | false => exact Rttfx ⟨rfl, rfl, rfl⟩
      | true =>
        cases vb with
        | true => exact Rtttt ⟨rfl, rfl, rfl, rfl⟩
        | false => exact Rtttf ⟨rfl, rfl, rfl, rfl⟩
  | false =>
    cases p1 with
    | false => exact Rfxfx ⟨rfl, rfl⟩
    | true =>
      cases vb with
      | true => exact Rfxtt ⟨rfl, rfl, rfl⟩
      | false => exact Rfxtf ⟨rfl, rfl, rfl⟩
end Go.Proofs.Ytjkaigfpjebfbaa
/- value.Read and chandlerref9.Read hand back the same, at any field, any text. -/
namespace Go.Proofs.Ytjkaigfpjebfbaa
open Go.RowKit
set_option linter.unusedVariables false

theorem OwnC.upd {T : Nat → Prop} {w w' : World} {base : Nat} {v : Value} {L : List (List Rl.Atm)} (h : OwnC w base v L) (hu : Upd T w w') (hT : ∀ k, T k → k < base ∧ ¬ IsA w k) : OwnC w' base v L := by
  obtain ⟨A, c, xs, rfl, ho, hi⟩ := h
  exact ⟨A, c, xs, rfl, own_upd ho hu (fun k hk ht => by have := (own_is ho hk).1; have := (hT k ht).1; omega), hi.upd hu (fun k hk => (hT k hk).2)⟩
/-- What value.Read hands back. -/
def VR9 (q : Nat) (s : ByteArray) (n : Int) (b : Bool) (C : List (List RA)) (A : List RA) (P : List RP) (E : Int) (w : World) (e : Ending) (w' : World) : Prop :=
  ∃ x, e = .returned (.tuple #[.agg #[x], .int .i64 E]) ∧ (E = 0 → VAt w' q x C A P ∧ asText x = (.string s, decide (q = 1)) ∧ asCount x = (.int .i64 n, decide (q = 2)) ∧ asYes x = (.bool b, decide (q = 3))) ∧ (E ≠ 0 → x = .nilIface) ∧ Below w.heap.size w w'
/-- Both Reads hand back the same. -/
def BothR (nm s : ByteArray) (q : Nat) (t : ByteArray) (n : Int) (b : Bool) (C : List (List RA)) (A : List RA) (P : List RP) (E : Int) : Prop :=
  (∀ w, Calls Try.prog 31 #[.string nm, .string s] w (VR9 q t n b C A P E w)) ∧ (∀ w, Calls Try.prog 32 #[.string nm, .string s] w (RR9 q t n b C A P E w))
theorem anyN_one (x nm : ByteArray) : anyN [x] nm = sameN x nm := by
  unfold anyN
  rw [List.any_cons, List.any_nil, Bool.or_false]
theorem pkg_ver {nm : ByteArray} (h : anyN nPackage nm = true) : anyN nVersion nm = false := any_apart (by decide +kernel) h
theorem field_cases (nm : ByteArray) : (fieldN nm = 0 ∧ anyN nPackage nm = true ∧ anyN nVersion nm = false) ∨ (fieldN nm = 1 ∧ anyN nPackage nm = false ∧ anyN nVersion nm = true) ∨ fieldN nm = 2 ∨ fieldN nm = 3 ∨ fieldN nm = 4 ∨ fieldN nm = 5 ∨ fieldN nm = 6 ∨ (fieldN nm = 7 ∧ anyN nPackage nm = false ∧ anyN nVersion nm = false) := by
  unfold fieldN
  cases h0 : anyN nPackage nm with
  | true => exact .inl ⟨rfl, rfl, pkg_ver h0⟩
  | false =>
    cases h1 : anyN nVersion nm with
    | true => exact .inr (.inl ⟨rfl, rfl, rfl⟩)
    | false =>
      cases anyN nClauses nm with
      | true => exact .inr (.inr (.inl rfl))
      | false =>
        cases anyN nAtoms nm with
        | true => exact .inr (.inr (.inr (.inl rfl)))
        | false =>
          cases anyN nProvides nm with
          | true => exact .inr (.inr (.inr (.inr (.inl rfl))))
          | false =>
            cases anyN nYes nm with
            | true => exact .inr (.inr (.inr (.inr (.inr (.inl rfl)))))
            | false =>
              cases anyN nCount nm with
              | true => exact .inr (.inr (.inr (.inr (.inr (.inr (.inl rfl))))))
              | false => exact .inr (.inr (.inr (.inr (.inr (.inr (.inr ⟨rfl, rfl, rfl⟩))))))
theorem sort_of {nm : ByteArray} {f : Nat} (h : fieldN nm = f) : sortN nm = kindOf f := by rw [sort_field, h]
theorem both_name (nm s : ByteArray) (hn : nm.size ≤ 1048576) (hs : s.size ≤ 1048576) (hf : fieldN nm = 0) (h0 : anyN nPackage nm = true) (h1 : anyN nVersion nm = false) :
    BothR nm s 1 s 0 false [] [] [] (if nameB s then 0 else 3) := by
  refine ⟨fun w => (Read_name nm s hn hs hf w).mono fun e w' ⟨he, hb⟩ => ⟨_, he, fun hE => ?_, fun hE => ?_, hb⟩, fun w => ?_⟩
  · cases hc : nameB s with
    | true => exact ⟨.text s, rfl, rfl, rfl⟩
    | false => rw [hc] at hE; exact absurd hE (by decide)
  · cases hc : nameB s with
    | true => rw [hc] at hE; exact absurd rfl hE
    | false => rfl
  · have hr := RRead_text nm s hn hs (sort_of hf) true false (nameB s) (verB s) ((anyN_one _ _).symm.trans h0) ((anyN_one _ _).symm.trans h1) rfl rfl w
    cases hc : nameB s with
    | true => rw [hc] at hr; exact hr
    | false => rw [hc] at hr; exact hr
theorem both_version (nm s : ByteArray) (hn : nm.size ≤ 1048576) (hs : s.size ≤ 1048576) (hf : fieldN nm = 1) (h0 : anyN nPackage nm = false) (h1 : anyN nVersion nm = true) :
    BothR nm s 1 s 0 false [] [] [] (if verB s then 0 else 3) := by
  refine ⟨fun w => (Read_version nm s hn hs hf w).mono fun e w' ⟨he, hb⟩ => ⟨_, he, fun hE => ?_, fun hE => ?_, hb⟩, fun w => ?_⟩
  · cases hc : verB s with
    | true => exact ⟨.text s, rfl, rfl, rfl⟩
    | false => rw [hc] at hE; exact absurd hE (by decide)
  · cases hc : verB s with
    | true => rw [hc] at hE; exact absurd rfl hE
    | false => rfl
  · have hr := RRead_text nm s hn hs (sort_of hf) false true (nameB s) (verB s) ((anyN_one _ _).symm.trans h0) ((anyN_one _ _).symm.trans h1) rfl rfl w
    cases hc : verB s with
    | true => rw [hc] at hr; exact hr
    | false => rw [hc] at hr; exact hr
theorem both_text (nm s : ByteArray) (hn : nm.size ≤ 1048576) (hs : s.size ≤ 1048576) (hf : fieldN nm = 7) (h0 : anyN nPackage nm = false) (h1 : anyN nVersion nm = false) :
    BothR nm s 1 s 0 false [] [] [] 0 := by
  refine ⟨fun w => (Read_text nm s hn hf w).mono fun e w' ⟨he, hb⟩ => ⟨_, he, fun hE => ⟨.text s, rfl, rfl, rfl⟩, fun hE => absurd rfl hE, hb⟩, fun w => ?_⟩
  exact RRead_text nm s hn hs (sort_of hf) false false (nameB s) (verB s) ((anyN_one _ _).symm.trans h0) ((anyN_one _ _).symm.trans h1) rfl rfl w
theorem both_yes (nm s : ByteArray) (hn : nm.size ≤ 1048576) (hs : s.size ≤ 1048576) (hf : fieldN nm = 5) :
    BothR nm s 3 ⟨#[]⟩ 0 (decide (s = yesB)) [] [] [] (if s = yesB ∨ s = noB then 0 else 3) := by
  refine ⟨fun w => (Read_yes nm s hn hf w).mono fun e w' ⟨he, hb⟩ => ⟨_, he, fun hE => ?_, fun hE => ?_, hb⟩, fun w => RRead_yes nm s hn hs (sort_of hf) w⟩
  · by_cases hc : s = yesB ∨ s = noB
    · rw [if_pos hc]; exact ⟨.yes _, rfl, rfl, rfl⟩
    · rw [if_neg hc] at hE; exact absurd hE (by decide)
  · by_cases hc : s = yesB ∨ s = noB
    · rw [if_pos hc] at hE; exact absurd rfl hE
    · rw [if_neg hc]
theorem both_count (nm s : ByteArray) (hn : nm.size ≤ 1048576) (hs : s.size ≤ 1048576) (hf : fieldN nm = 6) :
    BothR nm s 2 ⟨#[]⟩ ((numZ s).1 : Int) false [] [] [] (if (numZ s).2 then 0 else 3) := by
  refine ⟨fun w => (Read_count nm s hn hs hf w).mono fun e w' ⟨he, hb⟩ => ⟨_, he, fun hE => ?_, fun hE => ?_, hb⟩, fun w => RRead_count nm s hn hs (sort_of hf) w⟩
  · cases hc : (numZ s).2 with
    | true => exact ⟨.count _, rfl, rfl, rfl⟩
    | false => rw [hc] at hE; exact absurd hE (by decide)
  · cases hc : (numZ s).2 with
    | true => rw [hc] at hE; exact absurd rfl hE
    | false => rfl
theorem both_clauses (nm s : ByteArray) (hn : nm.size ≤ 1048576) (hs : s.size ≤ 1048576) (hf : fieldN nm = 2) :
    BothR nm s 4 ⟨#[]⟩ 0 false ((okv (Rl.allP nmL verL anyF false (bl s))).map (·.map raA)) [] [] (eno (Rl.allP nmL verL anyF false (bl s))) := by
  refine ⟨fun w => (Read_clauses nm s hn hs hf w).mono fun e w' ⟨x, he, h1, h2, hb⟩ => ⟨x, he, fun hE => ?_, h2, hb⟩, fun w => ?_⟩
  · have hv := h1 hE
    refine ⟨hv, ?_⟩
    generalize (okv (Rl.allP nmL verL anyF false (bl s))).map (·.map raA) = L at hv
    cases hv with
    | clauses => exact ⟨rfl, rfl, rfl⟩
  · refine RRead_clauses nm s hn hs (sort_of hf) _ _ (fun W => (Relation_any s W hs).mono fun e w' ⟨hb, v, he, ho⟩ => ?_) w
    rw [← Rl.all_sim plain_nm plain_ver] at he ho
    obtain ⟨A, c, xs, rfl, _⟩ := id ho
    exact ⟨hb, _, _, _, he, fun W' hu => (ho.upd hu (fun k hk => hk)).cls⟩
theorem both_atoms (nm s : ByteArray) (hn : nm.size ≤ 1048576) (hs : s.size ≤ 1048576) (hf : fieldN nm = 3) :
    BothR nm s 5 ⟨#[]⟩ 0 false [] ((okv (Rl.allP nmL verL anyF true (bl s))).flatten.map raA) [] (eno (Rl.allP nmL verL anyF true (bl s))) := by
  refine ⟨fun w => (Read_atoms nm s hn hs hf w).mono fun e w' ⟨x, he, h1, h2, hb⟩ => ⟨x, he, fun hE => ?_, h2, hb⟩, fun w => ?_⟩
  · have hv := h1 hE
    refine ⟨hv, ?_⟩
    generalize (okv (Rl.allP nmL verL anyF true (bl s))).flatten.map raA = L at hv
    cases hv with
    | atoms => exact ⟨rfl, rfl, rfl⟩
  · refine RRead_atoms nm s hn hs (sort_of hf) _ _ (fun W => (AtomList_any s W hs).mono fun e w' ⟨hb, hr⟩ => ?_) w
    rw [← Rl.all_sim plain_nm plain_ver] at hr
    obtain ⟨A, c, he, ho⟩ := hr.out rfl
    exact ⟨hb, _, _, _, he, fun W' hu => AtsAt.of_own (own_upd ho hu (fun k hk ht => by have := (own_is ho hk).1; have := ht.1; omega)) (flat_one9 fun l hl => (okv_len.2 l hl).2.2 rfl).symm⟩
theorem both_provides (nm s : ByteArray) (hn : nm.size ≤ 1048576) (hs : s.size ≤ 1048576) (hf : fieldN nm = 4) :
    BothR nm s 6 ⟨#[]⟩ 0 false [] [] ((okv (Rl.allP nmL verL provF true (bl s))).flatten.map rpA) (eno (Rl.allP nmL verL provF true (bl s))) := by
  refine ⟨fun w => (Read_provides nm s hn hs hf w).mono fun e w' ⟨x, he, h1, h2, hb⟩ => ⟨x, he, fun hE => ?_, h2, hb⟩, fun w => ?_⟩
  · have hv := h1 hE
    refine ⟨hv, ?_⟩
    generalize (okv (Rl.allP nmL verL provF true (bl s))).flatten.map rpA = L at hv
    cases hv with
    | provides => exact ⟨rfl, rfl, rfl⟩
  · refine RRead_provides nm s hn hs (sort_of hf) _ _ (fun W => (ProvideList_any s W hs).mono fun e w' ⟨hb, hr⟩ => ?_) w
    rw [← Rl.all_sim plain_nm plain_ver] at hr
    obtain ⟨A, c, he, ho⟩ := hr.out rfl
    exact ⟨hb, _, _, _, he, fun W' hu => PrsAt.of_own (own_upd ho hu (fun k hk ht => by have := (own_is ho hk).1; have := ht.1; omega)) (flat_one9 fun l hl => (okv_len.2 l hl).2.2 rfl).symm⟩
theorem both_read (nm s : ByteArray) (hn : nm.size ≤ 1048576) (hs : s.size ≤ 1048576) : ∃ q t n b C A P E, q ≠ 0 ∧ BothR nm s q t n b C A P E := by
  rcases field_cases nm with ⟨h, h0, h1⟩ | ⟨h, h0, h1⟩ | h | h | h | h | h | ⟨h, h0, h1⟩
  · exact ⟨_, _, _, _, _, _, _, _, by decide, both_name nm s hn hs h h0 h1⟩
  · exact ⟨_, _, _, _, _, _, _, _, by decide, both_version nm s hn hs h h0 h1⟩
  · exact ⟨_, _, _, _, _, _, _, _, by decide, both_clauses nm s hn hs h⟩
  · exact ⟨_, _, _, _, _, _, _, _, by decide, both_atoms nm s hn hs h⟩
  · exact ⟨_, _, _, _, _, _, _, _, by decide, both_provides nm s hn hs h⟩
  · exact ⟨_, _, _, _, _, _, _, _, by decide, both_yes nm s hn hs h⟩
  · exact ⟨_, _, _, _, _, _, _, _, by decide, both_count nm s hn hs h⟩
  · exact ⟨_, _, _, _, _, _, _, _, by decide, both_text nm s hn hs h h0 h1⟩
theorem VAt.bounds {w : World} {q : Nat} {x : Value} {C : List (List RA)} {A : List RA} {P : List RP} (h : VAt w q x C A P) : C.length ≤ 1048576 ∧ (∀ l ∈ C, l.length ≤ 1048576) ∧ A.length ≤ 1048576 ∧ P.length ≤ 1048576 := by
  have e0 : ([] : List (List RA)).length ≤ 1048576 := by decide
  have e1 : ([] : List RA).length ≤ 1048576 := by decide
  have e2 : ([] : List RP).length ≤ 1048576 := by decide
  have e3 : ∀ l ∈ ([] : List (List RA)), l.length ≤ 1048576 := fun l hl => by cases hl
  cases h with
  | none => exact ⟨e0, e3, e1, e2⟩
  | text s => exact ⟨e0, e3, e1, e2⟩
  | count n => exact ⟨e0, e3, e1, e2⟩
  | yes b => exact ⟨e0, e3, e1, e2⟩
  | clauses _ _ _ _ _ h1 h2 => exact ⟨h1, h2, e1, e2⟩
  | atoms _ _ _ _ _ h1 => exact ⟨e0, e3, h1, e2⟩
  | provides _ _ _ _ _ h1 => exact ⟨e0, e3, e1, h1⟩
end Go.Proofs.Ytjkaigfpjebfbaa
