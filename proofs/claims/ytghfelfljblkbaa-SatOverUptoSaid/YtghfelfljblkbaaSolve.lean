/- sat: Solve. -/
import Derived.Test.YtghfelfljblkbaaSc3
namespace Go.Proofs.Ytghfelfljblkbaa
open Go.RowKit Go.Sort
set_option linter.unusedVariables false

/-- What Solve hands back where it is not over. -/
def SolOk (w' : World) (n : Nat) (e : Ending) : Option (List Bool) → Prop
  | none => e = .returned (.tuple #[.slice none 0 0, .bool false, .int .i64 0])
  | some bs => ∃ g, e = .returned (.tuple #[.slice (some ⟨g, 0, none⟩) n n, .bool true, .int .i64 0]) ∧ Bools w' (some ⟨g, 0, none⟩) n bs
/-- What Solve hands back. -/
def SolRes (w' : World) (n : Nat) (b : Int) (e : Ending) (r : Option (List Bool)) (f : Nat) : Prop :=
  ((b ≤ 0 ∨ (f : Int) ≤ b) ∧ SolOk w' n e r) ∨ (0 < b ∧ b < (f : Int) ∧ e = .returned (.tuple #[.slice none 0 0, .bool false, .int .i64 11]))
theorem solve_over {L : List (List Int)} {n : Nat} {A T0 R : List Int} {M : List Nat} {b : Int} {f : Nat} (hn : n ≤ 200) (hL : Pr.Cl n L) (hok : ∀ a ∈ A, Ok a) (hf : Pr.Fol L [] T0) (hg : Sr.Beg L n A T0 [] (some (R, M))) (hr : Sr.Run L n b R [] 0 .over f) : ∃ r f', Sr.SolveIs L n A r f' ∧ 0 < b ∧ b < (f' : Int) := by
  have h0 := (Pr.fol_un hf hL (Un.nil n)).1
  have hst := (Sr.beg_good hg hn hL hok [] h0 (fun bs hm => Pr.fol_sound hn hf hL (Sr.mod_hold hm) (fun x hx => by cases hx)) (by simp) (by simp)).2 _ _ rfl
  obtain ⟨r, f', h⟩ := Sr.run_ex 0 hL _ (S := []) 0 (Nat.le_refl _) hst.1.un hst.1.pre hst.1.ent
  have hne := Sr.run_free h (Int.le_refl _)
  have hb : ¬ (b ≤ 0 ∨ (f' : Int) ≤ b) := fun h9 => by
    have := (Sr.run_det (Sr.run_any h hne h9) hr).1
    exact hne this
  cases r with
  | no => exact ⟨none, f', .no hf hg h, by omega, by omega⟩
  | over => exact absurd rfl hne
  | yes R2 => exact ⟨_, f', .yes hf hg h, by omega, by omega⟩
set_option maxRecDepth 100000 in
set_option maxHeartbeats 4000000 in
theorem Solve_gen (pv : Value) (n : Nat) (L : List (List Int)) (C : Option Addr) (lc cc : Nat) (cs : List Int) (b : Int) (hb : Ok b) (w : World) (hL : Pr.Cl n L) (hok : ∀ a ∈ cs, Ok a) (hn : n ≤ 30)
    (HBG : Calls Try.prog 87 #[pv, .slice C lc cc] w fun e w' => ∃ T0 r, Pr.Fol L [] T0 ∧ Sr.Beg L n cs T0 [] r ∧ BegRes w w' n L e r) :
    Calls Try.prog 55 #[pv, .slice C lc cc, .int .i64 b] w fun e w' => ∃ r f, Sr.SolveIs L n cs r f ∧ Below w.heap.size w w' ∧ SolRes w' n b e r f := by
  have HBE := Lib.hid HBG
  have HOK := Lib.hid hok
  have HCL := Lib.hid hL
  have HB := Lib.hid hb
  have hmk := make_bools n (by omega)
  clear HBG hok hL hb
  go_enter Try.func55, Try.ntmps55
  go_wp2_with fail
  go_at_call 87
  refine HBE.out.mono ?_
  rintro e w1 ⟨T0, r, hf, hg, hres⟩
  have HF := Lib.hid hf
  have HG := Lib.hid hg
  cases r with
  | none =>
    obtain ⟨rfl, hb1⟩ := hres
    have HB1 := Lib.hid hb1
    clear hf hg hb1 HBE
    go_wp2_with fail
    refine bodyPost_ret (v := .tuple #[.slice none 0 0, .bool false, .int .i64 0]) (by simp [results, Try.results55, go_sem]) rfl ?_
    exact ⟨none, 0, .bad HF.out HG.out, HB1.out, .inl ⟨by omega, rfl⟩⟩
  | some o =>
    obtain ⟨R, M⟩ := o
    obtain ⟨x, p, gv, Al, At, Am, Ch, cl, ct, cm, cc, K, rfl, hs⟩ := hres
    have HS := Lib.hid hs
    have HNX := Lib.hid (next_any w w1 x p gv Al At Am Ch cl ct cm cc n K L R M b HB.out hs HCL.out hn)
    clear hf hg hs HBE
    go_wp2_with fail
    go_at_call 88
    refine HNX.out.mono ?_
    rintro e w2 ⟨r, f, hr, hnr⟩
    have HR := Lib.hid hr
    cases r with
    | no =>
      obtain ⟨rfl, hb2⟩ := hnr
      have HB2 := Lib.hid hb2
      clear hr hb2 HNX
      go_wp2_with fail
      refine bodyPost_ret (v := .tuple #[.slice none 0 0, .bool false, .int .i64 0]) (by simp [results, Try.results55, go_sem]) rfl ?_
      exact ⟨none, f, .no HF.out HG.out (Sr.run_any HR.out (by intro h; cases h) (.inl (Int.le_refl _))), HB2.out, .inl ⟨Sr.run_inb HR.out (by intro h; cases h) (by omega), rfl⟩⟩
    | over =>
      obtain ⟨rfl, hb2⟩ := hnr
      have HB2 := Lib.hid hb2
      clear hr hb2 HNX
      go_wp2_with fail
      refine bodyPost_ret (v := .tuple #[.slice none 0 0, .bool false, .int .i64 11]) (by simp [results, Try.results55, go_sem]) rfl ?_
      obtain ⟨r, f', h1, h2, h3⟩ := solve_over (by omega) HCL.out HOK.out HF.out HG.out HR.out
      exact ⟨r, f', h1, HB2.out, .inr ⟨h2, h3, rfl⟩⟩
    | yes R2 =>
      obtain ⟨rfl, At2, Am2, Ch2, ct2, cm2, cc2, M2, cs2, s2, hs2⟩ := hnr
      have HS2 := Lib.hid hs2
      have HSO := Lib.hid (Sr.SolveIs.yes HF.out HG.out (Sr.run_any HR.out (by intro h; cases h) (.inl (Int.le_refl _))))
      have HIN := Lib.hid (Sr.run_inb HR.out (by intro h; cases h) (by omega))
      have k1 : w2.cell? ⟨x, 1, none⟩ = some (.int .i64 (n : Int)) := hs2.blk.cell 1
      have hbw := hs2.bel
      obtain ⟨g, hg9⟩ : ∃ g, g = w2.heap.size := ⟨_, rfl⟩
      have HG0 : Hid (w.heap.size ≤ g) := Lib.hid (by rw [hg9]; exact hbw.size)
      have HV0 : Hid (Blk (w2.alloc (.cells (VB n fun _ => false) 4)) g 4 (VB n (fun u => if u < 0 then decide (0 < Pr.ofT R2 ((u : Int) + 1)) else false))) := Lib.hid (by rw [hg9]; simpa using Blk.new w2 4 (VB n fun _ => false))
      have HS3 : Hid (SrAt w (w2.alloc (.cells (VB n fun _ => false) 4)) x p gv Al At2 Am2 Ch2 cl ct2 cm2 cc2 n K L R2 M2 cs2 s2) := Lib.hid (hs2.below ((Below.refl _ _).alloc (Nat.le_refl _) _))
      have HGX : Hid (∀ i, i = x ∨ tF p gv At2 Am2 i ∨ K i → i < g) := Lib.hid (fun i hi => by
        rw [hg9]
        rcases hi with rfl | hi | hi
        · exact hs2.blk.lt
        · exact hs2.tr.lt i hi
        · exact hs2.tr.klt i hi)
      clear hr hs2 HNX hbw HF HG HR HS HS2
      go_wp2_with fail
      rw [← hg9]
      clear hg9 hmk k1
      go_loopw [38] (fun s wx => ∃ i : Nat, s = .int .i64 (i : Int) ∧ i ≤ n ∧ Hid (Blk wx g 4 (VB n (fun u => if u < i then decide (0 < Pr.ofT R2 ((u : Int) + 1)) else false))) ∧ Hid (wx.cell? ⟨x, 0, none⟩ = some (.pointer (some ⟨p, 0, none⟩)) ∧ TrAt wx p gv Al At2 Am2 cl ct2 cm2 n K L R2 M2 ∧ Below w.heap.size w wx)) (fun s _ => n - (match s with | .int _ x => x.toNat | _ => 0))
      case atStart => exact ⟨0, rfl, Nat.zero_le _, HV0, Lib.hid ⟨HS3.out.blk.cell 0, HS3.out.tr, HS3.out.bel⟩⟩
      case round =>
        obtain ⟨i, rfl, hi, HV, HT⟩ := hrel
        clear HV0 HS3
        by_cases hlt : i < n
        · have k0 := HT.out.1
          have hvl := Value_any p gv cl ct2 cm2 n Al At2 Am2 K L R2 M2 ((i : Int) + 1) wr HT.out.2.1
          have e1 : vl n R2 ((i : Int) + 1) = Pr.ofT R2 ((i : Int) + 1) := by unfold vl; rw [if_pos ⟨by omega, by omega⟩]
          rw [e1] at hvl
          obtain ⟨z, hz⟩ : ∃ z, z = Pr.ofT R2 ((i : Int) + 1) := ⟨_, rfl⟩
          rw [← hz] at hvl
          have HVL := Lib.hid hvl
          have fv : wr.frozen? ⟨g, i, none⟩ = false := HV.out.frozen i
          have kv : ∃ u, wr.cell? ⟨g, i, none⟩ = some u := ⟨_, (HV.out.cell i).trans (VB.get hlt)⟩
          obtain ⟨u, kv⟩ := kv
          have i1 : (i : Int) < (n : Int) := by omega
          have HSV : Hid (Blk (wr.setCell ⟨g, i, none⟩ (.bool (decide (0 < z)))) g 4 (VB n (fun u => if u < i + 1 then decide (0 < Pr.ofT R2 ((u : Int) + 1)) else false))) := Lib.hid (by
            have := HV.out.set_ i (.bool (decide (0 < z)))
            rw [hz] at this ⊢
            have e := VB.set (n := n) (v := i) (f := fun u => if u < i then decide (0 < Pr.ofT R2 ((u : Int) + 1)) else false) (g := fun u => if u < i + 1 then decide (0 < Pr.ofT R2 ((u : Int) + 1)) else false) (fun u hu => by
              by_cases h : u = i
              · rw [if_pos h, h]
              · rw [if_neg h]
                by_cases h2 : u < i
                · simp only [if_pos h2, if_pos (show u < i + 1 by omega)]
                · simp only [if_neg h2, if_neg (show ¬ u < i + 1 by omega)])
            simp only [if_pos (Nat.lt_succ_self i)] at e
            rw [← e]
            exact this)
          have hu : Upd (fun j => j = g) wr (wr.setCell ⟨g, i, none⟩ (.bool (decide (0 < z)))) := (Upd.refl (fun j => j = g) wr).setCell (p := ⟨g, i, none⟩) (.inl rfl) _
          have HST : Hid ((wr.setCell ⟨g, i, none⟩ (.bool (decide (0 < z)))).cell? ⟨x, 0, none⟩ = some (.pointer (some ⟨p, 0, none⟩)) ∧ TrAt (wr.setCell ⟨g, i, none⟩ (.bool (decide (0 < z)))) p gv Al At2 Am2 cl ct2 cm2 n K L R2 M2 ∧ Below w.heap.size w (wr.setCell ⟨g, i, none⟩ (.bool (decide (0 < z))))) := Lib.hid ⟨(hu.cell (p := ⟨x, 0, none⟩) (World.block_lt_of_cell? _ _ k0) (fun e => by have h9 : x = g := e; have := HGX.out x (.inl rfl); omega)).trans k0, HT.out.2.1.upd hu (fun j hj e => by have := HGX.out j (.inr (.inl hj)); omega) (fun j hj e => by have := HGX.out j (.inr (.inr hj)); omega), HT.out.2.2.trans (hu.below (fun j hj => by rw [hj]; exact HG0.out) HT.out.2.2.size)⟩
          clear hvl e1 hz HV HT hu
          go_wp2_with (go_at_call 51; refine HVL.out.mono ?_; rintro e w3 ⟨rfl, rfl⟩)
          refine ⟨⟨i + 1, by go_num, by omega, HSV, HST⟩, ?_⟩
          show n - ((i : Int) + 1).toNat < n - (i : Int).toNat
          omega
        · have hin : (i : Int) = (n : Int) := by omega
          have hin2 : i = n := by omega
          have HBO : Hid (Bools wr (some ⟨g, 0, none⟩) n (Sr.tvec n R2)) := Lib.hid (by
            have := HV.out
            rw [hin2, VB.congr (g := fun u => decide (0 < Pr.ofT R2 ((u : Int) + 1))) (fun u hu => by simp only [if_pos hu])] at this
            exact VB.bools this)
          clear hin2 HV
          go_wp2_with fail
          refine bodyPost_ret (v := .tuple #[.slice (some ⟨g, 0, none⟩) n n, .bool true, .int .i64 0]) (by simp [results, Try.results55, go_sem]) rfl ?_
          exact ⟨_, f, HSO.out, HT.out.2.2, .inl ⟨HIN.out, g, rfl, HBO.out⟩⟩
theorem Solve_any (sp cap n : Nat) (A : Option Addr) (L : List (List Int)) (C : Option Addr) (lc cc : Nat) (cs : List Int) (b : Int) (hb : Ok b) (w : World) (h : SetAt w sp A cap n L) (hsh : ∀ r ∈ L, r.length ≤ 1048576) (hL : Pr.Cl n L) (hc : Lits w C lc cs) (hlc : lc ≤ 100000) (hn : n ≤ 30) :
    Calls Try.prog 55 #[.pointer (some ⟨sp, 0, none⟩), .slice C lc cc, .int .i64 b] w fun e w' => ∃ r f, Sr.SolveIs L n cs r f ∧ Below w.heap.size w w' ∧ SolRes w' n b e r f :=
  Solve_gen _ n L C lc cc cs b hb w hL hc.2.1 hn (begin_any sp cap n A L C lc cc cs w h hsh hL hc hlc)
end Go.Proofs.Ytghfelfljblkbaa
