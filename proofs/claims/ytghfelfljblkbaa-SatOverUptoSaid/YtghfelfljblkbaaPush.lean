/- prop: Push. -/
import Derived.Test.YtghfelfljblkbaaClash
import Derived.Deep.RegionHeld3
import Derived.Outline
namespace Go.Proofs.Ytghfelfljblkbaa
open Go.RowKit Go.Sort
set_option linter.unusedVariables false

/-- May a literal be pushed? -/
def mayP (n : Nat) (L : List (List Int)) (T : List Int) (x : Int) : Bool := decide (1 ≤ Cf.va x) && (decide (Cf.va x ≤ n) && (decide (Pr.ofT T x = 0) && decide (Pr.clash L T < 0)))
theorem lev_push {w w5 w6 : World} {p gv cl ct cm n c5 : Nat} {Al At Am A5 : Option Addr} {K : Nat → Prop} {L : List (List Int)} {T : List Int} {M : List Nat} (h : TrAt w p gv Al At Am cl ct cm n K L T M)
    (ho5 : w5.ownsRow 0 3 1 (.slice A5 (M.length + 1) c5) (M.length + 1) ((M.map fun (k : Nat) => Value.int .i64 (k : Int)) ++ [.int .i64 (T.length : Int)])) (hu5 : Upd (fun k => (Value.slice Am 0 0).ownBlock = some k) w w5)
    (hA5 : ∀ i, (Value.slice A5 0 0).ownBlock = some i → (Value.slice Am 0 0).ownBlock = some i ∨ w.heap.size ≤ i) (hw6 : w6 = w5.setCell ⟨p, 3, none⟩ (.slice A5 (M.length + 1) c5)) :
    TrRes w w6 p gv Al At Am At A5 cl ct c5 n K L T (M ++ [T.length]) := by
  have hb5 : Blk w5 p 87 _ := h.blk.upd hu5 (fun e => tr_ne h.lev h.blk (by decide) (by rw [← e]; exact ownB))
  have hv5 : Blk w5 gv 3 _ := h.val.upd hu5 (fun e => h.ne e)
  have hl5 : w5.ownsRow 0 37 1 (.slice At T.length ct) T.length (T.map (Value.int .i64)) := own_upd h.lits hu5 (fun i hi e => own_two h.lev h.lits (by decide) i (by rw [← e]; exact ownB) hi)
  have hu6 : Upd (fun i => i = p) w5 w6 := by
    rw [hw6]
    exact (Upd.refl (fun i => i = p) w5).setCell (p := ⟨p, 3, none⟩) (.inl rfl) _
  have hml : (M ++ [T.length]).length = M.length + 1 := by rw [List.length_append]; rfl
  have hpv : p ≠ gv := Blk.ne_ h.blk h.val (by decide)
  have hne5 : (Value.slice A5 0 0).ownBlock ≠ some gv := fun e => by
    rcases hA5 gv e with h9 | h9
    · exact h.ne h9
    · have := h.val.lt; omega
  refine ⟨⟨?_, ?_, ?_, ?_, ?_, h.un, h.cl, h.n, h.len, h.sh, hne5, ?_⟩, ?_, ?_⟩
  · rw [hw6, hml]
    exact (hb5.set_ 3 (.slice A5 (M.length + 1) c5)).cast (by simp)
  · exact (h.cls.upd hu5 (fun i hi e => (h.k i hi).2.2.2 e)).upd hu6 (fun i hi e => (h.k i hi).1 e)
  · rw [hw6]
    exact hv5.far (p := ⟨p, 3, none⟩) (fun e => hpv e.symm) _
  · exact own_upd hl5 hu6 (fun i hi e => by subst e; exact tr_ne hl5 hb5 (by decide) hi)
  · rw [hml, List.map_append]
    exact own_upd ho5 hu6 (fun i hi e => by subst e; exact tr_ne ho5 hb5 (by decide) hi)
  · intro i hi
    have h9 := h.k i hi
    refine ⟨h9.1, h9.2.1, h9.2.2.1, fun e => ?_⟩
    rcases hA5 i e with h8 | h8
    · exact h9.2.2.2 h8
    · have := h.klt i hi; omega
  · exact (hu5.mono (fun i _ hi => .inr (.inr (.inr hi)))).trans (hu6.mono (fun i _ hi => .inl hi))
  · rintro i (hi | hi | hi | hi)
    · exact .inl (.inl hi)
    · exact .inl (.inr (.inl hi))
    · exact .inl (.inr (.inr (.inl hi)))
    · rcases hA5 i hi with h8 | h8
      · exact .inl (.inr (.inr (.inr h8)))
      · exact .inr h8
section
variable (p gv cl ct cm n : Nat) (Al At Am : Option Addr) (K : Nat → Prop) (L : List (List Int)) (T : List Int) (M : List Nat)
set_option maxRecDepth 100000 in
set_option maxHeartbeats 1000000 in
theorem Push_no (x : Int) (hx : Ok x) (w : World) (h : TrAt w p gv Al At Am cl ct cm n K L T M) (hm : mayP n L T x = false) :
    Calls Try.prog 41 #[.pointer (some ⟨p, 0, none⟩), .int .i64 x] w fun e w' => e = .returned (.bool false) ∧ Below w.heap.size w w' := by
  have k1 : w.cell? ⟨p, 1, none⟩ = some (.slice (some ⟨gv, 0, none⟩) (n + 1) (n + 1)) := h.blk.cell 1
  have hn := h.n
  obtain ⟨x1, x2⟩ := hx
  by_cases h0 : x = 0
  · subst h0
    clear h hm
    go_enter Try.func41, Try.ntmps41
    go_wp2_with fail
    go_ret
    exact ⟨rfl, Below.refl _ _⟩
  have h0' : (x == 0) = false := by rw [beq_eq_false_iff_ne]; exact h0
  by_cases h1 : x ≤ -((n : Int) + 1)
  · have hd1 : decide (x ≤ -((n : Int) + 1)) = true := decide_eq_true h1
    clear h hm h0
    go_enter Try.func41, Try.ntmps41
    go_wp2_with fail
    go_ret
    exact ⟨rfl, Below.refl _ _⟩
  have hd1 : decide (x ≤ -((n : Int) + 1)) = false := decide_eq_false h1
  by_cases h2 : (n : Int) + 1 ≤ x
  · have hd2 : decide ((n : Int) + 1 ≤ x) = true := decide_eq_true h2
    clear h hm h0
    go_enter Try.func41, Try.ntmps41
    go_wp2_with fail
    go_ret
    exact ⟨rfl, Below.refl _ _⟩
  have hd2 : decide ((n : Int) + 1 ≤ x) = false := decide_eq_false h2
  have hv : Cf.va x ≤ n := by unfold Cf.va; omega
  have hv1 : 1 ≤ Cf.va x := by unfold Cf.va; omega
  have HOF := Lib.hid (of_any p gv cl ct cm n Al At Am K L T M x w h hv)
  obtain ⟨y, hy⟩ : ∃ y, y = Pr.ofT T x := ⟨_, rfl⟩
  rw [← hy] at HOF
  by_cases h3 : y = 0
  · have hc : 0 ≤ Pr.clash L T := by
      unfold mayP at hm
      rw [decide_eq_true hv1, decide_eq_true hv, decide_eq_true (show Pr.ofT T x = 0 by rw [← hy]; exact h3)] at hm
      simp at hm
      exact hm
    have HCL := Lib.hid (Clash_any p gv cl ct cm n Al At Am K L T M w h)
    obtain ⟨z, hz⟩ : ∃ z, z = Pr.clash L T := ⟨_, rfl⟩
    rw [← hz] at HCL hc
    subst h3
    clear h hm h0 hy hz
    go_enter Try.func41, Try.ntmps41
    go_wp2_with (first
      | (go_at_call 79; refine HOF.out.mono ?_; rintro e w1 ⟨rfl, rfl⟩)
      | (go_at_call 43; refine HCL.out.mono ?_; rintro e w1 ⟨rfl, hb1⟩))
    go_ret
    exact ⟨rfl, hb1⟩
  · have h3' : (y != 0) = true := by rw [bne_iff_ne]; exact h3
    clear h hm h0 hy h3
    go_enter Try.func41, Try.ntmps41
    go_wp2_with (go_at_call 79; refine HOF.out.mono ?_; rintro e w1 ⟨rfl, rfl⟩)
    go_ret
    exact ⟨rfl, Below.refl _ _⟩
set_option maxRecDepth 100000 in
set_option maxHeartbeats 2000000 in
theorem Push_yes (x : Int) (w : World) (h : TrAt w p gv Al At Am cl ct cm n K L T M) (hm : mayP n L T x = true) (hM : M.length ≤ 100000) :
    Calls Try.prog 41 #[.pointer (some ⟨p, 0, none⟩), .int .i64 x] w fun e w' => e = .returned (.bool true) ∧ ∃ R At' ct' Am' cm', Pr.Fol L (T ++ [x]) R ∧ TrRes w w' p gv Al At Am At' Am' cl ct' cm' n K L R (M ++ [T.length]) := by
  obtain ⟨i0, hi0, hz0, hz1, hz2⟩ := info_parts int_row
  have k1 : w.cell? ⟨p, 1, none⟩ = some (.slice (some ⟨gv, 0, none⟩) (n + 1) (n + 1)) := h.blk.cell 1
  have hn := h.n
  have hmm : 1 ≤ Cf.va x ∧ Cf.va x ≤ n ∧ Pr.ofT T x = 0 ∧ Pr.clash L T < 0 := by
    unfold mayP at hm
    simp at hm
    exact hm
  obtain ⟨hv1, hv, hof, hcl⟩ := hmm
  have x1 : -200 ≤ x := by unfold Cf.va at hv; omega
  have x2 : x ≤ 200 := by unfold Cf.va at hv; omega
  have h0' : (x == 0) = false := by rw [beq_eq_false_iff_ne]; unfold Cf.va at hv1; omega
  have hd1 : decide (x ≤ -((n : Int) + 1)) = false := decide_eq_false (by unfold Cf.va at hv; omega)
  have hd2 : decide ((n : Int) + 1 ≤ x) = false := decide_eq_false (by unfold Cf.va at hv; omega)
  have HOF := Lib.hid (of_any p gv cl ct cm n Al At Am K L T M x w h hv)
  rw [hof] at HOF
  have HCL := Lib.hid (Clash_any p gv cl ct cm n Al At Am K L T M w h)
  obtain ⟨z, hz⟩ : ∃ z, z = Pr.clash L T := ⟨_, rfl⟩
  rw [← hz] at HCL hcl
  have hd3 : decide (0 ≤ z) = false := decide_eq_false (by omega)
  have HT := Lib.hid h
  have HX := Lib.hid (And.intro (And.intro hv1 hv) hof)
  have htl := h.tlen
  obtain ⟨t, ht⟩ : ∃ t, t = T.length := ⟨_, rfl⟩
  obtain ⟨m, hm9⟩ : ∃ m, m = M.length := ⟨_, rfl⟩
  have HTE := Lib.hid ht
  have HME := Lib.hid hm9
  rw [← ht] at htl
  rw [← hm9] at hM
  clear h hm hv1 hv hof hz hm9 ht
  go_enter Try.func41, Try.ntmps41
  go_wp2_with (first
    | (go_at_call 79; refine HOF.out.mono ?_; rintro e w1 ⟨rfl, rfl⟩)
    | (go_at_call 43; refine HCL.out.mono ?_; rintro e w1 ⟨rfl, hb1⟩))
  have HB1 := Lib.hid hb1
  have HT1 := Lib.hid (HT.out.below hb1)
  have HR1 := Lib.hid ((TrRes.refl HT.out).bel hb1)
  have HBK : Hid (Blk w1 p 87 #[.slice Al L.length cl, .slice (some ⟨gv, 0, none⟩) (n + 1) (n + 1), .slice At t ct, .slice Am m cm]) := Lib.hid (by have := HT1.out.blk; rw [← HTE.out, ← HME.out] at this; exact this)
  have HLV : Hid (w1.ownsRow 0 3 1 (.slice Am m cm) m (M.map fun (k : Nat) => Value.int .i64 (k : Int))) := Lib.hid (by have := HT1.out.lev; rw [← HME.out] at this; exact this)
  have hlp := HBK.out.lt
  have c2 : w1.cell? ⟨p, 2, none⟩ = some (.slice At t ct) := HBK.out.cell 2
  have c3 : w1.cell? ⟨p, 3, none⟩ = some (.slice Am m cm) := HBK.out.cell 3
  have c2' : ∀ o, (w1.drew.alloc o).cell? ⟨p, 2, none⟩ = some (.slice At t ct) := fun o => (HBK.out.drew.alloc o).cell 2
  have c3' : ∀ o, (w1.drew.alloc o).cell? ⟨p, 3, none⟩ = some (.slice Am m cm) := fun o => (HBK.out.drew.alloc o).cell 3
  clear hb1 HT HCL HOF k1
  go_region_law ((refine step_append_any _ (by rfl) (.tmp 45) (.tmp 51) 85 (by rfl) 0 3 i0 (.int .i64 0) 1 8 Try.underlying85 hi0 hz0 hz1 hz2 rfl (by decide) (.slice Am m cm) m _ (by simp [Act.eval]) ((HLV.out.drew).alloc _) (w1.heap.size + 1) (some ⟨w1.heap.size, 0, none⟩) 1 1 [.int .i64 (t : Int)] (by simp [Act.eval]) (reads_one (Blk.new w1.drew _ _) (by simp)) (ints_one [(t : Int)]) (by unfold maxLen; omega) (by omega) (Nat.zero_le _) ?_; intro v5 w5 hown5 hg5 hat5; have HOW5 := Lib.hid hown5; have HU5 : Hid (Upd (fun k => (Value.slice Am 0 0).ownBlock = some k) w1 w5) := Lib.hid (((Upd.refl _ w1).drew.alloc _).grown hg5 (fun j hj => .inl (by rw [← hj]; exact ownB))); have HB5 : Hid (Blk w5 p 87 #[.slice Al L.length cl, .slice (some ⟨gv, 0, none⟩) (n + 1) (n + 1), .slice At t ct, .slice Am m cm]) := Lib.hid (HBK.out.upd HU5.out (fun h => tr_ne HLV.out HBK.out (by decide) (by rw [← h]; exact ownB))); have f5 : w5.frozen? ⟨p, 3, none⟩ = false := HB5.out.frozen 3; have k5 : w5.cell? ⟨p, 3, none⟩ = some (.slice Am m cm) := HB5.out.cell 3; have HO5 : Hid (∀ j, v5.ownBlock = some j → (Value.slice Am 0 0).ownBlock = some j ∨ w1.heap.size ≤ j) := Lib.hid (fun j hj => own_or Am m cm v5.ownBlock w1.heap.size j hj (by rcases hat5 with h | h; (· exact .inl h); (· exact .inr (h.trans (by simp))))); obtain ⟨A5, c5, rfl⟩ := ownL_shape hown5; clear hown5 hg5 hat5))
  all_goals
    have hres : TrRes w1 (w5.setCell ⟨p, 3, none⟩ (.slice A5 (m + 1) c5)) p gv Al At Am At A5 cl ct c5 n K L T (M ++ [T.length]) := lev_push HT1.out (by rw [← HME.out, ← HTE.out]; exact HOW5.out) HU5.out (fun i hi => HO5.out i (by rw [← hi]; exact ownB)) (by rw [← HME.out])
    have HTK : Hid (∀ W, Below (w5.setCell ⟨p, 3, none⟩ (.slice A5 (m + 1) c5)).heap.size (w5.setCell ⟨p, 3, none⟩ (.slice A5 (m + 1) c5)) W → Calls Try.prog 80 #[.pointer (some ⟨p, 0, none⟩), .int .i64 x] W fun e w' => e = .returned (.tuple #[]) ∧ ∃ At' ct', TrRes w1 w' p gv Al At Am At' A5 cl ct' c5 n K L (T ++ [x]) (M ++ [T.length])) := Lib.hid (fun W hW => (take_any p gv cl ct c5 n Al At A5 K L T (M ++ [T.length]) x W (hres.tr.below hW) HX.out.1 HX.out.2).mono fun e w' ⟨he, hu, At', ct', h1, h2⟩ => ⟨he, At', ct', (hres.bel hW).trans (TrRes.take h1 hu h2)⟩)
    clear hres
    go_wp2_with fail
    go_at_call 80
    refine (HTK.out _ (by first | exact Below.refl _ _ | exact ⟨rfl, rfl, rfl, Nat.le_refl _, fun _ _ => rfl⟩)).mono ?_
    rintro e w7 ⟨rfl, At7, ct7, hr7⟩
    have HR7 := Lib.hid (HR1.out.trans hr7)
    have HFW := Lib.hid (follow_any p gv cl ct7 c5 n Al At7 A5 K L (T ++ [x]) (M ++ [T.length]) w7 hr7.tr)
    clear hr7 HTK
    go_wp2_with fail
    go_at_call 78
    refine HFW.out.mono ?_
    rintro e w8 ⟨rfl, R, At8, ct8, hf8, hr8⟩
    have HF8 := Lib.hid hf8
    have HR8 := Lib.hid (HR7.out.trans hr8)
    clear hf8 hr8 HFW HR7
    go_wp2_with fail
    go_ret
    exact ⟨rfl, R, At8, ct8, A5, c5, HF8.out, HR8.out⟩
end
end Go.Proofs.Ytghfelfljblkbaa
