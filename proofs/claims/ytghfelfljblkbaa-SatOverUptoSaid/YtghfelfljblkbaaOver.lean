/- sat: no set at all. -/
import Derived.Test.YtghfelfljblkbaaSat1
import Derived.Test.YtghfelfljblkbaaCnt5
namespace Go.Proofs.Ytghfelfljblkbaa
open Go.RowKit Go.Sort
set_option linter.unusedVariables false

set_option maxRecDepth 100000 in
theorem VarsN_any (w : World) : Calls Try.prog 35 #[.pointer none] w fun e w' => e = .returned (.int .i64 0) ∧ w = w' := by
  go_enter Try.func35, Try.ntmps35
  go_wp2_with fail
  go_ret
  exact ⟨rfl, rfl⟩
set_option maxRecDepth 100000 in
theorem LenN_any (w : World) : Calls Try.prog 32 #[.pointer none] w fun e w' => e = .returned (.int .i64 0) ∧ w = w' := by
  go_enter Try.func32, Try.ntmps32
  go_wp2_with fail
  go_ret
  exact ⟨rfl, rfl⟩
theorem CountN_any (mx : Int) (hmx : Ok mx) (w : World) :
    Calls Try.prog 61 #[.pointer none, .int .i64 mx] w fun e w' => e = .returned (.int .i64 (if 1 ≤ mx then min mx ((Ct.cnt (fun k => holdsL (vec 0 k) []) 0 (2 ^ 0) : Nat) : Int) else 0)) ∧ Below w.heap.size w w' :=
  Count_gen _ 0 [] mx hmx w (by omega) (fun c hc => by cases hc) (fun c hc => by cases hc) (by simp) (fun c hc => by cases hc) (fun W _ => VarsN_any W) (fun W _ => LenN_any W) (fun W _ i hi => absurd hi (by simp))
set_option maxRecDepth 100000 in
set_option maxHeartbeats 1000000 in
theorem beginN_any (cc : Nat) (w : World) :
    Calls Try.prog 87 #[.pointer none, .slice none 0 cc] w fun e w' => ∃ T0 r, Pr.Fol [] [] T0 ∧ Sr.Beg [] 0 [] T0 [] r ∧ BegRes w w' 0 [] e r := by
  have HNW := Lib.hid (New_any 0 w)
  go_enter Try.func87, Try.ntmps87
  go_wp2_with fail
  go_at_call 29
  refine HNW.out.mono ?_
  rintro e w0 ⟨s, rfl, hs, hb0, hlo0⟩
  have hs' : SetAt w0 s none 0 0 [] := hs
  have HS := Lib.hid hs'
  have HB0 := Lib.hid hb0
  have HNT := Lib.hid (NewT_any s 0 0 none [] w0 hs' (fun c hc => by cases hc) (fun c hc => by cases hc))
  clear hs hs' hb0 hlo0 HNW
  go_wp2_with fail
  go_at_call 40
  refine HNT.out.mono ?_
  rintro e w1 ⟨p, gv, Al, cl, At, ct, K, T0, rfl, htr, hf, hb1, hlo⟩
  have HVA := Lib.hid (Vars_any s 0 0 none [] w1 (HS.out.below hb1))
  obtain ⟨W2, hW2⟩ : ∃ W2, W2 = w1.alloc (.cells #[.pointer (some ⟨p, 0, none⟩), .int .i64 0, .slice none 0 0, .int .i64 0] 99) := ⟨_, rfl⟩
  have hb2 : Below w1.heap.size w1 W2 := by rw [hW2]; exact (Below.refl _ _).alloc (Nat.le_refl _) _
  have hb01 : Below w.heap.size w w1 := HB0.out.trans (hb1.mono HB0.out.size)
  have hsr : SrS w W2 w1.heap.size p gv Al At none none cl ct 0 0 0 K [] T0 [] [] 0 := by
    refine ⟨⟨by rw [hW2]; exact Blk.new _ _ _, by rw [mks_nil]; exact htr.below hb2, World.ownsRow_nil _ _ _ _, (fun i hi => by cases hi), fun hx => ?_, fun i hi => ⟨?_, (by intro e; cases e)⟩, hb01.trans (hb2.mono hb01.size), fun i hi => ?_⟩, trivial, trivial, by rw [mks_nil]; exact MkOk.nil _⟩
    · have := htr.lt _ hx; omega
    · have := htr.klt i hi; omega
    · rcases hi with rfl | hi | hi
      · exact hb01.size
      · cases hi
      · exact Nat.le_trans HB0.out.size (hlo i (.inl hi))
  have HSR := Lib.hid hsr
  have HF := Lib.hid hf
  clear htr hf hb1 hlo HNT hb2 hsr hb01
  go_wp2_with fail
  go_at_call 35
  refine HVA.out.mono ?_
  rintro e w9 ⟨rfl, rfl⟩
  go_upto_region 4 with fail
  rw [← hW2]
  obtain ⟨x, hx⟩ : ∃ x, x = w1.heap.size := ⟨_, rfl⟩
  rw [← hx] at HSR ⊢
  clear hW2 hx HVA
  go_wp2_with fail
  go_loopw [21] (fun t wr => t = .int .i64 0 ∧ wr = W2) (fun _ _ => 0)
  case atStart => exact ⟨rfl, rfl⟩
  case round =>
    obtain ⟨rfl, rfl⟩ := hrel
    go_wp2_with fail
    go_ret2
    exact ⟨T0, some (T0, []), HF.out, .nil, x, p, gv, Al, At, none, none, cl, ct, 0, 0, K, rfl, HSR.out⟩
theorem SolveN_any (cc : Nat) (w : World) :
    Calls Try.prog 55 #[.pointer none, .slice none 0 cc, .int .i64 0] w fun e w' => ∃ A c, e = .returned (.tuple #[.slice A 0 c, .bool true, .int .i64 0]) ∧ Below w.heap.size w w' :=
  (Solve_gen _ 0 [] none 0 cc [] 0 ⟨by decide, by decide⟩ w (fun c hc => by cases hc) (fun a ha => by cases ha) (by omega) (beginN_any cc w)).mono fun e w' ⟨r, f, h1, h2, h3⟩ => by
    obtain ⟨hf, _⟩ := Sr.solve_first h1 (by omega) (fun c hc => by cases hc) (fun a ha => by cases ha)
    obtain rfl := Sr.first_det hf (show FirstIs 0 [] [] (some []) from ⟨rfl, 0, by decide, rfl, rfl, fun j hj => by omega⟩)
    rcases h3 with ⟨_, h3⟩ | ⟨h3, _⟩
    · obtain ⟨g, he, _⟩ := h3
      exact ⟨_, _, he, h2⟩
    · omega
end Go.Proofs.Ytghfelfljblkbaa
