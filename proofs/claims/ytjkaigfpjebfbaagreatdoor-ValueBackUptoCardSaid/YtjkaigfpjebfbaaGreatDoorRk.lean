/- relation's reader: clause. -/
import Derived.Test.YtjkaigfpjebfbaaGreatDoorRa
namespace Go.Proofs.YtjkaigfpjebfbaaGreatDoor
open Go.RowKit
set_option linter.unusedVariables false

def anyF (_ : Rl.Atm) : Bool := true
def provF (a : Rl.Atm) : Bool := decide (a.rel = 0) || decide (a.rel = 3)
set_option maxRecDepth 100000 in
theorem anyAtom_any (x y : ByteArray) (r : Int) (w : World) : Calls Tryz.prog 66 #[atV x r y] w fun e w' => e = .returned (.bool true) ∧ Below w.heap.size w w' := by
  have hb : Below w.heap.size w (w.alloc (.cells #[.string x, .int .i64 r, .string y] 87)) := (Below.refl _ _).alloc (Nat.le_refl _) _
  unfold atV
  go_enter Tryz.func66, Tryz.ntmps66
  go_wp2
  go_ret
  exact ⟨rfl, hb⟩
set_option maxRecDepth 100000 in
theorem provided_any (x y : ByteArray) (r : Int) (w : World) : Calls Tryz.prog 67 #[atV x r y] w fun e w' => e = .returned (.bool (decide (r = 0) || decide (r = 3))) ∧ Below w.heap.size w w' := by
  have hb : Below w.heap.size w (w.alloc (.cells #[.string x, .int .i64 r, .string y] 87)) := (Below.refl _ _).alloc (Nat.le_refl _) _
  have HB := Lib.hid hb
  clear hb
  unfold atV
  by_cases h0 : r = 0
  · have q0 : (r == 0) = true := by rw [beq_iff_eq]; exact h0
    rw [decide_eq_true h0]
    clear h0
    go_enter Tryz.func67, Tryz.ntmps67
    go_wp2
    go_ret
    exact ⟨rfl, HB.out⟩
  · have q0 : (r == 0) = false := by rw [beq_eq_false_iff_ne]; exact h0
    rw [decide_eq_false h0, Bool.false_or]
    clear h0
    by_cases h3 : r = 3
    · have q3 : (r == 3) = true := by rw [beq_iff_eq]; exact h3
      rw [decide_eq_true h3]
      clear h3
      go_enter Tryz.func67, Tryz.ntmps67
      go_wp2
      go_ret
      exact ⟨rfl, HB.out⟩
    · have q3 : (r == 3) = false := by rw [beq_eq_false_iff_ne]; exact h3
      rw [decide_eq_false h3]
      clear h3
      go_enter Tryz.func67, Tryz.ntmps67
      go_wp2
      go_ret
      exact ⟨rfl, HB.out⟩
/-- An atom's cells. -/
def atC (a : Rl.Atm) : List Value := [.string (Rl.tob a.name), .int .i64 (a.rel : Int), .string (Rl.tob a.ver)]
def catA (l : List Rl.Atm) : List Value := l.flatMap atC
theorem catA_snoc (l : List Rl.Atm) (a : Rl.Atm) : catA (l ++ [a]) = catA l ++ atC a := by unfold catA; rw [List.flatMap_append]; simp
theorem atom_row : (Tryz.prog.info? 87).map (fun i => (i.zero, i.size, i.bytes)) = some (some (.agg #[.string ⟨#[]⟩, .int .i64 0, .string ⟨#[]⟩]), 3, 40) := by kernel_rfl
theorem reads_three {w : World} {g : Nat} {t : TypeId} {a b c : Value} {B : Nat} (h : Blk w g t #[a, b, c]) (hB : g < B) : Reads w B 3 (some ⟨g, 0, none⟩) 1 [a, b, c] :=
  ⟨rfl, fun _ => ⟨_, rfl, hB, fun j u hj => by
    have hc := h.cell j
    have e : (⟨g, 0, none⟩ : Addr).add j = ⟨g, j, none⟩ := by unfold Addr.add; simp; intro h; exact h.symm
    rw [e, hc]
    simpa using hj⟩⟩
/-- What clause hands back. -/
def ClRes (w w' : World) (q M n : Nat) (e : Ending) : Rl.Rd (List Rl.Atm × List Rl.Bs) → Prop
  | .many => e = .returned (.tuple #[.slice none 0 0, .int .i64 12])
  | .form => e = .returned (.tuple #[.slice none 0 0, .int .i64 3])
  | .ok (l, T') => ∃ A c A' n' c', e = .returned (.tuple #[.slice A l.length c, .int .i64 0]) ∧ w'.ownsRow w.heap.size 87 3 (.slice A l.length c) l.length (catA l) ∧ RdAt w' q M A' n' c' T' ∧ n' ≤ n
theorem ClRes.mk {w w' : World} {q M n m n' c c' : Nat} {A A' : Option Addr} {e : Ending} {l : List Rl.Atm} {T' : List Rl.Bs} (he : e = .returned (.tuple #[.slice A m c, .int .i64 0])) (hm : l.length = m) (ho : w'.ownsRow w.heap.size 87 3 (.slice A m c) m (catA l)) (hr : RdAt w' q M A' n' c' T') (hn : n' ≤ n) : ClRes w w' q M n e (.ok (l, T')) := by
  subst hm
  exact ⟨A, c, A', n', c', he, ho, hr, hn⟩
theorem atomP_mem {T T' : List Rl.Bs} {o : Option Rl.Atm} (h : Rl.atomP nmL verL T = (o, T')) : ∀ t ∈ T', t ∈ T := by
  intro t ht
  unfold Rl.atomP at h
  cases hi : Rl.isT [40] (Rl.wordT T).2 with
  | none =>
    rw [hi] at h
    have := congrArg Prod.snd h
    simp only at this
    rw [← this] at ht
    exact wordT_mem ht
  | some T2 =>
    rw [hi] at h
    simp only at h
    unfold Rl.parP at h
    have hT2 : ∀ x, x ∈ (Rl.wordT (Rl.wordT T2).2).2 → x ∈ T := fun x hx => wordT_mem (isT_mem hi (wordT_mem (wordT_mem hx)))
    split at h
    · have := congrArg Prod.snd h
      simp only at this
      rw [← this] at ht
      exact hT2 t ht
    · cases h4 : Rl.isT [41] (Rl.wordT (Rl.wordT T2).2).2 with
      | none =>
        rw [h4] at h
        have := congrArg Prod.snd h
        simp only at this
        rw [← this] at ht
        exact hT2 t ht
      | some T5 =>
        rw [h4] at h
        have := congrArg Prod.snd h
        simp only at this
        rw [← this] at ht
        exact hT2 t (isT_mem h4 ht)
set_option maxRecDepth 100000 in
set_option maxHeartbeats 4000000 in
theorem clause_any (q M : Nat) (A : Option Addr) (n c : Nat) (T : List Rl.Bs) (one : Bool) (w : World) (h : RdAt w q M A n c T) (hM : M ≤ w.heap.size) (hn : n ≤ 4294967296) (hsz : ∀ t ∈ T, t.length ≤ 1048576) :
    Calls Tryz.prog 84 #[.pointer (some ⟨q, 0, none⟩), .func (.func 66) #[] #[], .bool one] w fun e w' => Upd (fun k => k = q) w w' ∧ ClRes w w' q M n e (Rl.clauseP nmL verL anyF one 6 T []) := by
  obtain ⟨i0, hi0, hz0, hz1, hz2⟩ := info_parts atom_row
  have HAT : Hid (∀ (W : World) (A : Option Addr) (n c : Nat) (T : List Rl.Bs), RdAt W q M A n c T → M ≤ W.heap.size → n ≤ 4294967296 → (∀ t ∈ T, t.length ≤ 1048576) → Calls Tryz.prog 99 #[.pointer (some ⟨q, 0, none⟩)] W fun e w' => Upd (fun k => k = q) W w' ∧ AtomRes w' q M n e (Rl.atomP nmL verL T)) := Lib.hid (fun W A n c T h hM hn hs => atom_any q M A n c T W h hM hn hs)
  obtain ⟨RS, hRS⟩ : ∃ RS, RS = Rl.clauseP nmL verL anyF one 6 T [] := ⟨_, rfl⟩
  rw [← hRS]
  have HRS := Lib.hid hRS.symm
  have H0 := Lib.hid h
  have HSZ := Lib.hid hsz
  have HQM := Lib.hid h.lo.1
  clear h hsz hRS
  go_enter Tryz.func84, Tryz.ntmps84
  go_wp2_with fail
  go_loopw [8] (fun v wr => ∃ (d : Nat) (out : List Rl.Atm) (m : Nat) (Ao : Option Addr) (co : Nat) (A1 : Option Addr) (n1 c1 : Nat) (T1 : List Rl.Bs), v = .slice Ao m co ∧ m + d = 6 ∧ Hid (out.length = m) ∧ n1 ≤ n ∧ Hid (wr.ownsRow w.heap.size 87 3 (.slice Ao m co) m (catA out)) ∧ Hid (RdAt wr q M A1 n1 c1 T1) ∧ Hid (Upd (fun k => k = q) w wr) ∧ Hid (∀ t ∈ T1, t ∈ T) ∧ Hid (Rl.clauseP nmL verL anyF one d T1 out = RS)) (fun v _ => match v with | .slice _ m _ => 6 - m | _ => 0)
  case atStart => exact ⟨6, [], 0, none, 0, A, n, c, T, rfl, rfl, Lib.hid rfl, Nat.le_refl _, Lib.hid (World.ownsRow_nil _ _ _ _), H0, Lib.hid (Upd.refl _ _), Lib.hid (fun t ht => ht), HRS⟩
  case round =>
    obtain ⟨d, out, m, Ao, co, A1, n1, c1, T1, rfl, hmd, HLN, hn1, HOW, HRD, HUP, HMEM, HCL⟩ := hrel
    cases d with
    | zero =>
      have q6 : ((m : Int) == 6) = true := by rw [beq_iff_eq]; omega
      have HR : Hid (RS = .many) := Lib.hid HCL.out.symm
      go_wp2_with fail
      go_ret2
      rw [HR.out]
      exact ⟨HUP.out, rfl⟩
    | succ d =>
      have q6 : ((m : Int) == 6) = false := by rw [beq_eq_false_iff_ne]; omega
      have hat := HAT.out wr A1 n1 c1 T1 HRD.out (Nat.le_trans hM HUP.out.size) (by omega) (fun t ht => HSZ.out t (HMEM.out t ht))
      obtain ⟨o, T2, hap⟩ : ∃ o T2, Rl.atomP nmL verL T1 = (o, T2) := ⟨_, _, rfl⟩
      rw [hap] at hat
      have HA1 := Lib.hid hat
      have HAP := Lib.hid hap
      have HM2 : Hid (∀ t ∈ T2, t ∈ T) := Lib.hid (fun t ht => HMEM.out t (atomP_mem hap t ht))
      clear hat hap
      cases o with
      | none =>
        have HR : Hid (RS = .form) := Lib.hid (by rw [← HCL.out]; unfold Rl.clauseP; rw [HAP.out])
        go_wp2_with fail
        go_at_call 99
        refine HA1.out.mono ?_
        rintro e w2 ⟨hu2, x, r, y, rfl⟩
        have HU2 := Lib.hid (HUP.out.trans hu2)
        clear hu2
        unfold atV
        go_wp2_with fail
        go_ret2
        rw [HR.out]
        exact ⟨HU2.out.alloc _, rfl⟩
      | some a =>
        obtain ⟨X, hX⟩ : ∃ X, X = Rl.tob a.name := ⟨_, rfl⟩
        obtain ⟨Y, hY⟩ : ∃ Y, Y = Rl.tob a.ver := ⟨_, rfl⟩
        obtain ⟨k, hk⟩ : ∃ k, k = a.rel := ⟨_, rfl⟩
        have HA2 : Hid (Calls Tryz.prog 99 #[.pointer (some ⟨q, 0, none⟩)] wr fun e w' => Upd (fun k => k = q) wr w' ∧ e = .returned (.tuple #[.agg #[.string X, .int .i64 (k : Int), .string Y], .bool true]) ∧ ∃ A' n' c', RdAt w' q M A' n' c' T2 ∧ n' ≤ n1) := Lib.hid (by rw [hX, hY, hk]; exact HA1.out)
        have HAC : Hid (atC a = [.string X, .int .i64 (k : Int), .string Y]) := Lib.hid (by unfold atC; rw [hX, hY, hk])
        have HPR : Hid ( (decide ((k : Int) = 0) || decide ((k : Int) = 3)) = provF a) := Lib.hid (by
          unfold provF
          rw [← hk]
          congr 1 <;> (rw [Bool.eq_iff_iff, decide_eq_true_eq, decide_eq_true_eq]; omega))
        clear hX hY hk
        go_wp2_with fail
        go_at_call 99
        refine HA2.out.mono ?_
        rintro e w2 ⟨hu2, rfl, A2, n2, c2, hr2, hn2⟩
        obtain ⟨g, hg⟩ : ∃ g, g = w2.heap.size := ⟨_, rfl⟩
        obtain ⟨W3, hW3⟩ : ∃ W3, W3 = w2.alloc (.cells #[.string X, .int .i64 (k : Int), .string Y] 87) := ⟨_, rfl⟩
        have hbg : Blk W3 g 87 #[.string X, .int .i64 (k : Int), .string Y] := by rw [hW3, hg]; exact Blk.new _ _ _
        have hb3 : Below w2.heap.size w2 W3 := by rw [hW3]; exact (Below.refl _ _).alloc (Nat.le_refl _) _
        have HU3 : Hid (Upd (fun k => k = q) w W3) := Lib.hid (by rw [hW3]; exact (HUP.out.trans hu2).alloc _)
        have HR3 := Lib.hid (hr2.below hb3)
        have hqb : q < w.heap.size := Nat.lt_of_lt_of_le HQM.out hM
        have hrow3 : W3.ownsRow w.heap.size 87 3 (.slice Ao m co) m (catA out) := by
          refine own_upd (own_upd HOW.out hu2 (fun k hk e => ?_)) (Upd.of_below hb3 (T := fun k => w2.heap.size ≤ k) (fun _ _ h => h)) (fun k hk h9 => ?_)
          · have := (own_is HOW.out hk).1; omega
          · obtain ⟨_, cur, hc⟩ := own_is HOW.out hk
            have := (Array.getElem?_eq_some_iff.1 hc).1
            have := hu2.size
            omega
        have HOW3 := Lib.hid hrow3
        have HBG := Lib.hid hbg
        have j0 : W3.cell? ⟨g, 0, none⟩ = some (.string X) := hbg.cell 0
        have j1 : W3.cell? ⟨g, 1, none⟩ = some (.int .i64 (k : Int)) := hbg.cell 1
        have j2 : W3.cell? ⟨g, 2, none⟩ = some (.string Y) := hbg.cell 2
        have hw3s : w.heap.size ≤ W3.heap.size := HU3.out.size
        go_upto_region 5 with fail
        rw [← hW3, ← hg]
        have HMY : Hid (∀ W, Calls Tryz.prog 66 #[.agg #[.string X, .int .i64 (k : Int), .string Y]] W fun e w' => e = .returned (.bool true) ∧ Below W.heap.size W w') := Lib.hid (fun W => anyAtom_any X Y (k : Int) W)
        have HMF : Hid (anyF a = true) := Lib.hid rfl
        clear hW3 hg hu2 hr2 hb3 hrow3 hbg HA1 HA2 HOW HRD HUP
        cases one with
        | true =>
          have HR : Hid (RS = .ok (out ++ [a], T2)) := Lib.hid (by rw [← HCL.out]; unfold Rl.clauseP; rw [HAP.out]; simp only; rw [HMF.out]; rfl)
          go_wp2_with (first
            | (go_at_call 66; refine (HMY.out _).mono ?_; rintro e w4 ⟨rfl, hb4⟩; have HB4 := Lib.hid hb4; have hbg4 := HBG.out.below hb4 HBG.out.lt; have i0' : w4.cell? ⟨g, 0, none⟩ = some (.string X) := hbg4.cell 0; have i1' : w4.cell? ⟨g, 1, none⟩ = some (.int .i64 (k : Int)) := hbg4.cell 1; have i2' : w4.cell? ⟨g, 2, none⟩ = some (.string Y) := hbg4.cell 2; have hw4s : w.heap.size ≤ w4.heap.size := Nat.le_trans hw3s hb4.size; have HOW4 : Hid (w4.ownsRow w.heap.size 87 3 (.slice Ao m co) m (catA out)) := Lib.hid (own_upd HOW3.out (Upd.of_below hb4 (T := fun k => W3.heap.size ≤ k) (fun _ _ h => h)) (fun k hk h9 => by obtain ⟨_, cur, hc⟩ := own_is HOW3.out hk; have := (Array.getElem?_eq_some_iff.1 hc).1; omega)); have HR4 := Lib.hid (HR3.out.below hb4); have HU4 : Hid (Upd (fun k => k = q) w w4) := Lib.hid (HU3.out.trans (Upd.of_below hb4 (T := fun k => k = q) (fun j h1 h2 => by omega))); clear hb4 hbg4)
            | (at_builtin; refine wpList_append_any _ rfl (.tmp 27) (.tmp 29) 55 rfl w.heap.size 87 i0 _ 3 40 Tryz.underlying55 hi0 hz0 hz1 hz2 rfl (by decide) _ m (catA out) rfl (HOW4.out.alloc _) (w4.heap.size + 1) (some ⟨w4.heap.size, 0, none⟩) 1 1 [.string X, .int .i64 (k : Int), .string Y] rfl (reads_three (Blk.new w4 _ _) (by simp)) (fun u hu => by simp at hu; rcases hu with rfl | rfl | rfl <;> rfl) (by unfold maxLen; omega) (by omega) (by simp; omega) ?_; intro v5 w5 hown5 hg5 hat5; have HU5 := Lib.hid ((HU4.out.alloc (.cells #[.string X, .int .i64 (k : Int), .string Y] 87)).grown hg5 (fun j hj => .inr (own_is HOW4.out hj).1)); have hup5 : Upd (fun j => (Value.slice Ao m co).ownBlock = some j) w4 w5 := ((Upd.refl _ w4).alloc _).grown hg5 (fun j hj => .inl hj); have HR5 := Lib.hid (HR4.out.upd hup5 (fun e => by have := (own_is HOW4.out e).1; omega) (fun b o e _ h9 => by have := HR4.out.lo.2 b o e; have := (own_is HOW4.out h9).1; omega)); obtain ⟨A5, c5, rfl⟩ := own_shape hown5; have HOW5 : Hid (w5.ownsRow w.heap.size 87 3 (.slice A5 (m + 1) c5) (m + 1) (catA (out ++ [a]))) := Lib.hid (by rw [catA_snoc, HAC.out]; exact hown5); clear hown5 hg5 hat5 hup5; have HLN5 : Hid ((out ++ [a]).length = m + 1) := Lib.hid (by rw [List.length_append, HLN.out]; rfl)))
          go_ret2
          rw [HR.out]
          exact ⟨HU5.out, ClRes.mk rfl HLN5.out HOW5.out HR5.out (by omega)⟩
        | false =>
          have HST : Hid (Rl.clauseP nmL verL anyF false (d + 1) T1 out = match Rl.isT [124] T2 with | none => .ok (out ++ [a], T2) | some T3 => Rl.clauseP nmL verL anyF false d T3 (out ++ [a])) := Lib.hid (by
            show (match Rl.atomP nmL verL T1 with | (none, _) => _ | (some a, T1) => _) = _
            rw [HAP.out]
            simp only
            rw [HMF.out]
            rfl)
          have HM3 : Hid (∀ T3, Rl.isT [124] T2 = some T3 → ∀ t ∈ T3, t ∈ T) := Lib.hid (fun T3 h9 t ht => HM2.out t (isT_mem h9 ht))
          have HIS0 : Hid (∀ (W : World) (A2 : Option Addr) (n2 c2 : Nat), RdAt W q M A2 n2 c2 T2 → n2 ≤ 4294967296 → Calls Tryz.prog 85 #[.pointer (some ⟨q, 0, none⟩), .string ⟨#[124]⟩] W fun e w' => e = .returned (.bool (Rl.isT [124] T2).isSome) ∧ Upd (fun k => k = q) W w' ∧ ∃ A' n' c', RdAt w' q M A' n' c' ((Rl.isT [124] T2).getD T2) ∧ n' ≤ n2) := Lib.hid (fun W A2 n2 c2 h hn => is_any2 q M A2 n2 c2 T2 [124] W h hn)
          obtain ⟨o2, ho2⟩ : ∃ o2, o2 = Rl.isT [124] T2 := ⟨_, rfl⟩
          rw [← ho2] at HIS0 HST HM3
          clear ho2
          cases o2 with
          | none =>
            have HR : Hid (RS = .ok (out ++ [a], T2)) := Lib.hid (by rw [← HCL.out, HST.out])
            go_wp2_with (first
              | (go_at_call 66; refine (HMY.out _).mono ?_; rintro e w4 ⟨rfl, hb4⟩; have HB4 := Lib.hid hb4; have hbg4 := HBG.out.below hb4 HBG.out.lt; have i0' : w4.cell? ⟨g, 0, none⟩ = some (.string X) := hbg4.cell 0; have i1' : w4.cell? ⟨g, 1, none⟩ = some (.int .i64 (k : Int)) := hbg4.cell 1; have i2' : w4.cell? ⟨g, 2, none⟩ = some (.string Y) := hbg4.cell 2; have hw4s : w.heap.size ≤ w4.heap.size := Nat.le_trans hw3s hb4.size; have HOW4 : Hid (w4.ownsRow w.heap.size 87 3 (.slice Ao m co) m (catA out)) := Lib.hid (own_upd HOW3.out (Upd.of_below hb4 (T := fun k => W3.heap.size ≤ k) (fun _ _ h => h)) (fun k hk h9 => by obtain ⟨_, cur, hc⟩ := own_is HOW3.out hk; have := (Array.getElem?_eq_some_iff.1 hc).1; omega)); have HR4 := Lib.hid (HR3.out.below hb4); have HU4 : Hid (Upd (fun k => k = q) w w4) := Lib.hid (HU3.out.trans (Upd.of_below hb4 (T := fun k => k = q) (fun j h1 h2 => by omega))); clear hb4 hbg4)
              | (at_builtin; refine wpList_append_any _ rfl (.tmp 27) (.tmp 29) 55 rfl w.heap.size 87 i0 _ 3 40 Tryz.underlying55 hi0 hz0 hz1 hz2 rfl (by decide) _ m (catA out) rfl (HOW4.out.alloc _) (w4.heap.size + 1) (some ⟨w4.heap.size, 0, none⟩) 1 1 [.string X, .int .i64 (k : Int), .string Y] rfl (reads_three (Blk.new w4 _ _) (by simp)) (fun u hu => by simp at hu; rcases hu with rfl | rfl | rfl <;> rfl) (by unfold maxLen; omega) (by omega) (by simp; omega) ?_; intro v5 w5 hown5 hg5 hat5; have HU5 := Lib.hid ((HU4.out.alloc (.cells #[.string X, .int .i64 (k : Int), .string Y] 87)).grown hg5 (fun j hj => .inr (own_is HOW4.out hj).1)); have hup5 : Upd (fun j => (Value.slice Ao m co).ownBlock = some j) w4 w5 := ((Upd.refl _ w4).alloc _).grown hg5 (fun j hj => .inl hj); have HR5 := Lib.hid (HR4.out.upd hup5 (fun e => by have := (own_is HOW4.out e).1; omega) (fun b o e _ h9 => by have := HR4.out.lo.2 b o e; have := (own_is HOW4.out h9).1; omega)); obtain ⟨A5, c5, rfl⟩ := own_shape hown5; have HOW5 : Hid (w5.ownsRow w.heap.size 87 3 (.slice A5 (m + 1) c5) (m + 1) (catA (out ++ [a]))) := Lib.hid (by rw [catA_snoc, HAC.out]; exact hown5); clear hown5 hg5 hat5 hup5; have HLN5 : Hid ((out ++ [a]).length = m + 1) := Lib.hid (by rw [List.length_append, HLN.out]; rfl); have HIS := Lib.hid (HIS0.out w5 A2 n2 c2 HR5.out (by omega)))
              | (go_at_call 85; refine HIS.out.mono ?_; rintro e w6 ⟨rfl, hu6, A6, n6, c6, hr6, hn6⟩; have hr6' : RdAt w6 q M A6 n6 c6 T2 := hr6; have HR6 := Lib.hid hr6'; have HU6 := Lib.hid (HU5.out.trans hu6); have HOW6 := Lib.hid (own_upd HOW5.out hu6 (fun k hk e => by have := (own_is HOW5.out hk).1; have e2 : k = q := e; omega)); clear hu6 hr6 hr6'))
            go_ret2
            rw [HR.out]
            exact ⟨HU6.out, ClRes.mk rfl HLN5.out HOW6.out HR6.out (by omega)⟩
          | some T3 =>
            have HCL2 : Hid (Rl.clauseP nmL verL anyF false d T3 (out ++ [a]) = RS) := Lib.hid (by rw [← HCL.out, HST.out])
            go_wp2_with (first
              | (go_at_call 66; refine (HMY.out _).mono ?_; rintro e w4 ⟨rfl, hb4⟩; have HB4 := Lib.hid hb4; have hbg4 := HBG.out.below hb4 HBG.out.lt; have i0' : w4.cell? ⟨g, 0, none⟩ = some (.string X) := hbg4.cell 0; have i1' : w4.cell? ⟨g, 1, none⟩ = some (.int .i64 (k : Int)) := hbg4.cell 1; have i2' : w4.cell? ⟨g, 2, none⟩ = some (.string Y) := hbg4.cell 2; have hw4s : w.heap.size ≤ w4.heap.size := Nat.le_trans hw3s hb4.size; have HOW4 : Hid (w4.ownsRow w.heap.size 87 3 (.slice Ao m co) m (catA out)) := Lib.hid (own_upd HOW3.out (Upd.of_below hb4 (T := fun k => W3.heap.size ≤ k) (fun _ _ h => h)) (fun k hk h9 => by obtain ⟨_, cur, hc⟩ := own_is HOW3.out hk; have := (Array.getElem?_eq_some_iff.1 hc).1; omega)); have HR4 := Lib.hid (HR3.out.below hb4); have HU4 : Hid (Upd (fun k => k = q) w w4) := Lib.hid (HU3.out.trans (Upd.of_below hb4 (T := fun k => k = q) (fun j h1 h2 => by omega))); clear hb4 hbg4)
              | (at_builtin; refine wpList_append_any _ rfl (.tmp 27) (.tmp 29) 55 rfl w.heap.size 87 i0 _ 3 40 Tryz.underlying55 hi0 hz0 hz1 hz2 rfl (by decide) _ m (catA out) rfl (HOW4.out.alloc _) (w4.heap.size + 1) (some ⟨w4.heap.size, 0, none⟩) 1 1 [.string X, .int .i64 (k : Int), .string Y] rfl (reads_three (Blk.new w4 _ _) (by simp)) (fun u hu => by simp at hu; rcases hu with rfl | rfl | rfl <;> rfl) (by unfold maxLen; omega) (by omega) (by simp; omega) ?_; intro v5 w5 hown5 hg5 hat5; have HU5 := Lib.hid ((HU4.out.alloc (.cells #[.string X, .int .i64 (k : Int), .string Y] 87)).grown hg5 (fun j hj => .inr (own_is HOW4.out hj).1)); have hup5 : Upd (fun j => (Value.slice Ao m co).ownBlock = some j) w4 w5 := ((Upd.refl _ w4).alloc _).grown hg5 (fun j hj => .inl hj); have HR5 := Lib.hid (HR4.out.upd hup5 (fun e => by have := (own_is HOW4.out e).1; omega) (fun b o e _ h9 => by have := HR4.out.lo.2 b o e; have := (own_is HOW4.out h9).1; omega)); obtain ⟨A5, c5, rfl⟩ := own_shape hown5; have HOW5 : Hid (w5.ownsRow w.heap.size 87 3 (.slice A5 (m + 1) c5) (m + 1) (catA (out ++ [a]))) := Lib.hid (by rw [catA_snoc, HAC.out]; exact hown5); clear hown5 hg5 hat5 hup5; have HLN5 : Hid ((out ++ [a]).length = m + 1) := Lib.hid (by rw [List.length_append, HLN.out]; rfl); have HIS := Lib.hid (HIS0.out w5 A2 n2 c2 HR5.out (by omega)))
              | (go_at_call 85; refine HIS.out.mono ?_; rintro e w6 ⟨rfl, hu6, A6, n6, c6, hr6, hn6⟩; have hr6' : RdAt w6 q M A6 n6 c6 T3 := hr6; have HR6 := Lib.hid hr6'; have HU6 := Lib.hid (HU5.out.trans hu6); have HOW6 := Lib.hid (own_upd HOW5.out hu6 (fun k hk e => by have := (own_is HOW5.out hk).1; have e2 : k = q := e; omega)); clear hu6 hr6 hr6'))
            refine ⟨⟨d, out ++ [a], m + 1, A5, c5, A6, n6, c6, T3, rfl, by omega, HLN5, by omega, HOW6, HR6, HU6, Lib.hid (HM3.out T3 rfl), HCL2⟩, ?_⟩
            show 6 - (m + 1) < 6 - m
            omega
set_option maxRecDepth 100000 in
set_option maxHeartbeats 4000000 in
theorem clause_prov (q M : Nat) (A : Option Addr) (n c : Nat) (T : List Rl.Bs) (one : Bool) (w : World) (h : RdAt w q M A n c T) (hM : M ≤ w.heap.size) (hn : n ≤ 4294967296) (hsz : ∀ t ∈ T, t.length ≤ 1048576) :
    Calls Tryz.prog 84 #[.pointer (some ⟨q, 0, none⟩), .func (.func 67) #[] #[], .bool one] w fun e w' => Upd (fun k => k = q) w w' ∧ ClRes w w' q M n e (Rl.clauseP nmL verL provF one 6 T []) := by
  obtain ⟨i0, hi0, hz0, hz1, hz2⟩ := info_parts atom_row
  have HAT : Hid (∀ (W : World) (A : Option Addr) (n c : Nat) (T : List Rl.Bs), RdAt W q M A n c T → M ≤ W.heap.size → n ≤ 4294967296 → (∀ t ∈ T, t.length ≤ 1048576) → Calls Tryz.prog 99 #[.pointer (some ⟨q, 0, none⟩)] W fun e w' => Upd (fun k => k = q) W w' ∧ AtomRes w' q M n e (Rl.atomP nmL verL T)) := Lib.hid (fun W A n c T h hM hn hs => atom_any q M A n c T W h hM hn hs)
  obtain ⟨RS, hRS⟩ : ∃ RS, RS = Rl.clauseP nmL verL provF one 6 T [] := ⟨_, rfl⟩
  rw [← hRS]
  have HRS := Lib.hid hRS.symm
  have H0 := Lib.hid h
  have HSZ := Lib.hid hsz
  have HQM := Lib.hid h.lo.1
  clear h hsz hRS
  go_enter Tryz.func84, Tryz.ntmps84
  go_wp2_with fail
  go_loopw [8] (fun v wr => ∃ (d : Nat) (out : List Rl.Atm) (m : Nat) (Ao : Option Addr) (co : Nat) (A1 : Option Addr) (n1 c1 : Nat) (T1 : List Rl.Bs), v = .slice Ao m co ∧ m + d = 6 ∧ Hid (out.length = m) ∧ n1 ≤ n ∧ Hid (wr.ownsRow w.heap.size 87 3 (.slice Ao m co) m (catA out)) ∧ Hid (RdAt wr q M A1 n1 c1 T1) ∧ Hid (Upd (fun k => k = q) w wr) ∧ Hid (∀ t ∈ T1, t ∈ T) ∧ Hid (Rl.clauseP nmL verL provF one d T1 out = RS)) (fun v _ => match v with | .slice _ m _ => 6 - m | _ => 0)
  case atStart => exact ⟨6, [], 0, none, 0, A, n, c, T, rfl, rfl, Lib.hid rfl, Nat.le_refl _, Lib.hid (World.ownsRow_nil _ _ _ _), H0, Lib.hid (Upd.refl _ _), Lib.hid (fun t ht => ht), HRS⟩
  case round =>
    obtain ⟨d, out, m, Ao, co, A1, n1, c1, T1, rfl, hmd, HLN, hn1, HOW, HRD, HUP, HMEM, HCL⟩ := hrel
    cases d with
    | zero =>
      have q6 : ((m : Int) == 6) = true := by rw [beq_iff_eq]; omega
      have HR : Hid (RS = .many) := Lib.hid HCL.out.symm
      go_wp2_with fail
      go_ret2
      rw [HR.out]
      exact ⟨HUP.out, rfl⟩
    | succ d =>
      have q6 : ((m : Int) == 6) = false := by rw [beq_eq_false_iff_ne]; omega
      have hat := HAT.out wr A1 n1 c1 T1 HRD.out (Nat.le_trans hM HUP.out.size) (by omega) (fun t ht => HSZ.out t (HMEM.out t ht))
      obtain ⟨o, T2, hap⟩ : ∃ o T2, Rl.atomP nmL verL T1 = (o, T2) := ⟨_, _, rfl⟩
      rw [hap] at hat
      have HA1 := Lib.hid hat
      have HAP := Lib.hid hap
      have HM2 : Hid (∀ t ∈ T2, t ∈ T) := Lib.hid (fun t ht => HMEM.out t (atomP_mem hap t ht))
      clear hat hap
      cases o with
      | none =>
        have HR : Hid (RS = .form) := Lib.hid (by rw [← HCL.out]; unfold Rl.clauseP; rw [HAP.out])
        go_wp2_with fail
        go_at_call 99
        refine HA1.out.mono ?_
        rintro e w2 ⟨hu2, x, r, y, rfl⟩
        have HU2 := Lib.hid (HUP.out.trans hu2)
        clear hu2
        unfold atV
        go_wp2_with fail
        go_ret2
        rw [HR.out]
        exact ⟨HU2.out.alloc _, rfl⟩
      | some a =>
        obtain ⟨X, hX⟩ : ∃ X, X = Rl.tob a.name := ⟨_, rfl⟩
        obtain ⟨Y, hY⟩ : ∃ Y, Y = Rl.tob a.ver := ⟨_, rfl⟩
        obtain ⟨k, hk⟩ : ∃ k, k = a.rel := ⟨_, rfl⟩
        have HA2 : Hid (Calls Tryz.prog 99 #[.pointer (some ⟨q, 0, none⟩)] wr fun e w' => Upd (fun k => k = q) wr w' ∧ e = .returned (.tuple #[.agg #[.string X, .int .i64 (k : Int), .string Y], .bool true]) ∧ ∃ A' n' c', RdAt w' q M A' n' c' T2 ∧ n' ≤ n1) := Lib.hid (by rw [hX, hY, hk]; exact HA1.out)
        have HAC : Hid (atC a = [.string X, .int .i64 (k : Int), .string Y]) := Lib.hid (by unfold atC; rw [hX, hY, hk])
        have HPR : Hid ( (decide ((k : Int) = 0) || decide ((k : Int) = 3)) = provF a) := Lib.hid (by
          unfold provF
          rw [← hk]
          congr 1 <;> (rw [Bool.eq_iff_iff, decide_eq_true_eq, decide_eq_true_eq]; omega))
        clear hX hY hk
        go_wp2_with fail
        go_at_call 99
        refine HA2.out.mono ?_
        rintro e w2 ⟨hu2, rfl, A2, n2, c2, hr2, hn2⟩
        obtain ⟨g, hg⟩ : ∃ g, g = w2.heap.size := ⟨_, rfl⟩
        obtain ⟨W3, hW3⟩ : ∃ W3, W3 = w2.alloc (.cells #[.string X, .int .i64 (k : Int), .string Y] 87) := ⟨_, rfl⟩
        have hbg : Blk W3 g 87 #[.string X, .int .i64 (k : Int), .string Y] := by rw [hW3, hg]; exact Blk.new _ _ _
        have hb3 : Below w2.heap.size w2 W3 := by rw [hW3]; exact (Below.refl _ _).alloc (Nat.le_refl _) _
        have HU3 : Hid (Upd (fun k => k = q) w W3) := Lib.hid (by rw [hW3]; exact (HUP.out.trans hu2).alloc _)
        have HR3 := Lib.hid (hr2.below hb3)
        have hqb : q < w.heap.size := Nat.lt_of_lt_of_le HQM.out hM
        have hrow3 : W3.ownsRow w.heap.size 87 3 (.slice Ao m co) m (catA out) := by
          refine own_upd (own_upd HOW.out hu2 (fun k hk e => ?_)) (Upd.of_below hb3 (T := fun k => w2.heap.size ≤ k) (fun _ _ h => h)) (fun k hk h9 => ?_)
          · have := (own_is HOW.out hk).1; omega
          · obtain ⟨_, cur, hc⟩ := own_is HOW.out hk
            have := (Array.getElem?_eq_some_iff.1 hc).1
            have := hu2.size
            omega
        have HOW3 := Lib.hid hrow3
        have HBG := Lib.hid hbg
        have j0 : W3.cell? ⟨g, 0, none⟩ = some (.string X) := hbg.cell 0
        have j1 : W3.cell? ⟨g, 1, none⟩ = some (.int .i64 (k : Int)) := hbg.cell 1
        have j2 : W3.cell? ⟨g, 2, none⟩ = some (.string Y) := hbg.cell 2
        have hw3s : w.heap.size ≤ W3.heap.size := HU3.out.size
        go_upto_region 5 with fail
        rw [← hW3, ← hg]
        have hmy := fun W => provided_any X Y (k : Int) W
        rw [HPR.out] at hmy
        obtain ⟨mb, hmb⟩ : ∃ mb, mb = provF a := ⟨_, rfl⟩
        rw [← hmb] at hmy
        have HMY : Hid (∀ W, Calls Tryz.prog 67 #[.agg #[.string X, .int .i64 (k : Int), .string Y]] W fun e w' => e = .returned (.bool mb) ∧ Below W.heap.size W w') := Lib.hid hmy
        have HMF : Hid (provF a = mb) := Lib.hid hmb.symm
        clear hmy hmb
        clear hW3 hg hu2 hr2 hb3 hrow3 hbg HA1 HA2 HOW HRD HUP
        cases mb with
        | false =>
          have HR : Hid (RS = .form) := Lib.hid (by rw [← HCL.out]; unfold Rl.clauseP; rw [HAP.out]; simp only; rw [HMF.out]; rfl)
          go_wp2_with (go_at_call 67; refine (HMY.out _).mono ?_; rintro e w4 ⟨rfl, hb4⟩)
          go_ret2
          rw [HR.out]
          exact ⟨HU3.out.trans (Upd.of_below hb4 (T := fun k => k = q) (fun j h1 h2 => by omega)), rfl⟩
        | true =>
          cases one with
          | true =>
            have HR : Hid (RS = .ok (out ++ [a], T2)) := Lib.hid (by rw [← HCL.out]; unfold Rl.clauseP; rw [HAP.out]; simp only; rw [HMF.out]; rfl)
            go_wp2_with (first
              | (go_at_call 67; refine (HMY.out _).mono ?_; rintro e w4 ⟨rfl, hb4⟩; have HB4 := Lib.hid hb4; have hbg4 := HBG.out.below hb4 HBG.out.lt; have i0' : w4.cell? ⟨g, 0, none⟩ = some (.string X) := hbg4.cell 0; have i1' : w4.cell? ⟨g, 1, none⟩ = some (.int .i64 (k : Int)) := hbg4.cell 1; have i2' : w4.cell? ⟨g, 2, none⟩ = some (.string Y) := hbg4.cell 2; have hw4s : w.heap.size ≤ w4.heap.size := Nat.le_trans hw3s hb4.size; have HOW4 : Hid (w4.ownsRow w.heap.size 87 3 (.slice Ao m co) m (catA out)) := Lib.hid (own_upd HOW3.out (Upd.of_below hb4 (T := fun k => W3.heap.size ≤ k) (fun _ _ h => h)) (fun k hk h9 => by obtain ⟨_, cur, hc⟩ := own_is HOW3.out hk; have := (Array.getElem?_eq_some_iff.1 hc).1; omega)); have HR4 := Lib.hid (HR3.out.below hb4); have HU4 : Hid (Upd (fun k => k = q) w w4) := Lib.hid (HU3.out.trans (Upd.of_below hb4 (T := fun k => k = q) (fun j h1 h2 => by omega))); clear hb4 hbg4)
              | (at_builtin; refine wpList_append_any _ rfl (.tmp 27) (.tmp 29) 55 rfl w.heap.size 87 i0 _ 3 40 Tryz.underlying55 hi0 hz0 hz1 hz2 rfl (by decide) _ m (catA out) rfl (HOW4.out.alloc _) (w4.heap.size + 1) (some ⟨w4.heap.size, 0, none⟩) 1 1 [.string X, .int .i64 (k : Int), .string Y] rfl (reads_three (Blk.new w4 _ _) (by simp)) (fun u hu => by simp at hu; rcases hu with rfl | rfl | rfl <;> rfl) (by unfold maxLen; omega) (by omega) (by simp; omega) ?_; intro v5 w5 hown5 hg5 hat5; have HU5 := Lib.hid ((HU4.out.alloc (.cells #[.string X, .int .i64 (k : Int), .string Y] 87)).grown hg5 (fun j hj => .inr (own_is HOW4.out hj).1)); have hup5 : Upd (fun j => (Value.slice Ao m co).ownBlock = some j) w4 w5 := ((Upd.refl _ w4).alloc _).grown hg5 (fun j hj => .inl hj); have HR5 := Lib.hid (HR4.out.upd hup5 (fun e => by have := (own_is HOW4.out e).1; omega) (fun b o e _ h9 => by have := HR4.out.lo.2 b o e; have := (own_is HOW4.out h9).1; omega)); obtain ⟨A5, c5, rfl⟩ := own_shape hown5; have HOW5 : Hid (w5.ownsRow w.heap.size 87 3 (.slice A5 (m + 1) c5) (m + 1) (catA (out ++ [a]))) := Lib.hid (by rw [catA_snoc, HAC.out]; exact hown5); clear hown5 hg5 hat5 hup5; have HLN5 : Hid ((out ++ [a]).length = m + 1) := Lib.hid (by rw [List.length_append, HLN.out]; rfl)))
            go_ret2
            rw [HR.out]
            exact ⟨HU5.out, ClRes.mk rfl HLN5.out HOW5.out HR5.out (by omega)⟩
          | false =>
            have HST : Hid (Rl.clauseP nmL verL provF false (d + 1) T1 out = match Rl.isT [124] T2 with | none => .ok (out ++ [a], T2) | some T3 => Rl.clauseP nmL verL provF false d T3 (out ++ [a])) := Lib.hid (by
              show (match Rl.atomP nmL verL T1 with | (none, _) => _ | (some a, T1) => _) = _
              rw [HAP.out]
              simp only
              rw [HMF.out]
              rfl)
            have HM3 : Hid (∀ T3, Rl.isT [124] T2 = some T3 → ∀ t ∈ T3, t ∈ T) := Lib.hid (fun T3 h9 t ht => HM2.out t (isT_mem h9 ht))
            have HIS0 : Hid (∀ (W : World) (A2 : Option Addr) (n2 c2 : Nat), RdAt W q M A2 n2 c2 T2 → n2 ≤ 4294967296 → Calls Tryz.prog 85 #[.pointer (some ⟨q, 0, none⟩), .string ⟨#[124]⟩] W fun e w' => e = .returned (.bool (Rl.isT [124] T2).isSome) ∧ Upd (fun k => k = q) W w' ∧ ∃ A' n' c', RdAt w' q M A' n' c' ((Rl.isT [124] T2).getD T2) ∧ n' ≤ n2) := Lib.hid (fun W A2 n2 c2 h hn => is_any2 q M A2 n2 c2 T2 [124] W h hn)
            obtain ⟨o2, ho2⟩ : ∃ o2, o2 = Rl.isT [124] T2 := ⟨_, rfl⟩
            rw [← ho2] at HIS0 HST HM3
            clear ho2
            cases o2 with
            | none =>
              have HR : Hid (RS = .ok (out ++ [a], T2)) := Lib.hid (by rw [← HCL.out, HST.out])
              go_wp2_with (first
                | (go_at_call 67; refine (HMY.out _).mono ?_; rintro e w4 ⟨rfl, hb4⟩; have HB4 := Lib.hid hb4; have hbg4 := HBG.out.below hb4 HBG.out.lt; have i0' : w4.cell? ⟨g, 0, none⟩ = some (.string X) := hbg4.cell 0; have i1' : w4.cell? ⟨g, 1, none⟩ = some (.int .i64 (k : Int)) := hbg4.cell 1; have i2' : w4.cell? ⟨g, 2, none⟩ = some (.string Y) := hbg4.cell 2; have hw4s : w.heap.size ≤ w4.heap.size := Nat.le_trans hw3s hb4.size; have HOW4 : Hid (w4.ownsRow w.heap.size 87 3 (.slice Ao m co) m (catA out)) := Lib.hid (own_upd HOW3.out (Upd.of_below hb4 (T := fun k => W3.heap.size ≤ k) (fun _ _ h => h)) (fun k hk h9 => by obtain ⟨_, cur, hc⟩ := own_is HOW3.out hk; have := (Array.getElem?_eq_some_iff.1 hc).1; omega)); have HR4 := Lib.hid (HR3.out.below hb4); have HU4 : Hid (Upd (fun k => k = q) w w4) := Lib.hid (HU3.out.trans (Upd.of_below hb4 (T := fun k => k = q) (fun j h1 h2 => by omega))); clear hb4 hbg4)
                | (at_builtin; refine wpList_append_any _ rfl (.tmp 27) (.tmp 29) 55 rfl w.heap.size 87 i0 _ 3 40 Tryz.underlying55 hi0 hz0 hz1 hz2 rfl (by decide) _ m (catA out) rfl (HOW4.out.alloc _) (w4.heap.size + 1) (some ⟨w4.heap.size, 0, none⟩) 1 1 [.string X, .int .i64 (k : Int), .string Y] rfl (reads_three (Blk.new w4 _ _) (by simp)) (fun u hu => by simp at hu; rcases hu with rfl | rfl | rfl <;> rfl) (by unfold maxLen; omega) (by omega) (by simp; omega) ?_; intro v5 w5 hown5 hg5 hat5; have HU5 := Lib.hid ((HU4.out.alloc (.cells #[.string X, .int .i64 (k : Int), .string Y] 87)).grown hg5 (fun j hj => .inr (own_is HOW4.out hj).1)); have hup5 : Upd (fun j => (Value.slice Ao m co).ownBlock = some j) w4 w5 := ((Upd.refl _ w4).alloc _).grown hg5 (fun j hj => .inl hj); have HR5 := Lib.hid (HR4.out.upd hup5 (fun e => by have := (own_is HOW4.out e).1; omega) (fun b o e _ h9 => by have := HR4.out.lo.2 b o e; have := (own_is HOW4.out h9).1; omega)); obtain ⟨A5, c5, rfl⟩ := own_shape hown5; have HOW5 : Hid (w5.ownsRow w.heap.size 87 3 (.slice A5 (m + 1) c5) (m + 1) (catA (out ++ [a]))) := Lib.hid (by rw [catA_snoc, HAC.out]; exact hown5); clear hown5 hg5 hat5 hup5; have HLN5 : Hid ((out ++ [a]).length = m + 1) := Lib.hid (by rw [List.length_append, HLN.out]; rfl); have HIS := Lib.hid (HIS0.out w5 A2 n2 c2 HR5.out (by omega)))
                | (go_at_call 85; refine HIS.out.mono ?_; rintro e w6 ⟨rfl, hu6, A6, n6, c6, hr6, hn6⟩; have hr6' : RdAt w6 q M A6 n6 c6 T2 := hr6; have HR6 := Lib.hid hr6'; have HU6 := Lib.hid (HU5.out.trans hu6); have HOW6 := Lib.hid (own_upd HOW5.out hu6 (fun k hk e => by have := (own_is HOW5.out hk).1; have e2 : k = q := e; omega)); clear hu6 hr6 hr6'))
              go_ret2
              rw [HR.out]
              exact ⟨HU6.out, ClRes.mk rfl HLN5.out HOW6.out HR6.out (by omega)⟩
            | some T3 =>
              have HCL2 : Hid (Rl.clauseP nmL verL provF false d T3 (out ++ [a]) = RS) := Lib.hid (by rw [← HCL.out, HST.out])
              go_wp2_with (first
                | (go_at_call 67; refine (HMY.out _).mono ?_; rintro e w4 ⟨rfl, hb4⟩; have HB4 := Lib.hid hb4; have hbg4 := HBG.out.below hb4 HBG.out.lt; have i0' : w4.cell? ⟨g, 0, none⟩ = some (.string X) := hbg4.cell 0; have i1' : w4.cell? ⟨g, 1, none⟩ = some (.int .i64 (k : Int)) := hbg4.cell 1; have i2' : w4.cell? ⟨g, 2, none⟩ = some (.string Y) := hbg4.cell 2; have hw4s : w.heap.size ≤ w4.heap.size := Nat.le_trans hw3s hb4.size; have HOW4 : Hid (w4.ownsRow w.heap.size 87 3 (.slice Ao m co) m (catA out)) := Lib.hid (own_upd HOW3.out (Upd.of_below hb4 (T := fun k => W3.heap.size ≤ k) (fun _ _ h => h)) (fun k hk h9 => by obtain ⟨_, cur, hc⟩ := own_is HOW3.out hk; have := (Array.getElem?_eq_some_iff.1 hc).1; omega)); have HR4 := Lib.hid (HR3.out.below hb4); have HU4 : Hid (Upd (fun k => k = q) w w4) := Lib.hid (HU3.out.trans (Upd.of_below hb4 (T := fun k => k = q) (fun j h1 h2 => by omega))); clear hb4 hbg4)
                | (at_builtin; refine wpList_append_any _ rfl (.tmp 27) (.tmp 29) 55 rfl w.heap.size 87 i0 _ 3 40 Tryz.underlying55 hi0 hz0 hz1 hz2 rfl (by decide) _ m (catA out) rfl (HOW4.out.alloc _) (w4.heap.size + 1) (some ⟨w4.heap.size, 0, none⟩) 1 1 [.string X, .int .i64 (k : Int), .string Y] rfl (reads_three (Blk.new w4 _ _) (by simp)) (fun u hu => by simp at hu; rcases hu with rfl | rfl | rfl <;> rfl) (by unfold maxLen; omega) (by omega) (by simp; omega) ?_; intro v5 w5 hown5 hg5 hat5; have HU5 := Lib.hid ((HU4.out.alloc (.cells #[.string X, .int .i64 (k : Int), .string Y] 87)).grown hg5 (fun j hj => .inr (own_is HOW4.out hj).1)); have hup5 : Upd (fun j => (Value.slice Ao m co).ownBlock = some j) w4 w5 := ((Upd.refl _ w4).alloc _).grown hg5 (fun j hj => .inl hj); have HR5 := Lib.hid (HR4.out.upd hup5 (fun e => by have := (own_is HOW4.out e).1; omega) (fun b o e _ h9 => by have := HR4.out.lo.2 b o e; have := (own_is HOW4.out h9).1; omega)); obtain ⟨A5, c5, rfl⟩ := own_shape hown5; have HOW5 : Hid (w5.ownsRow w.heap.size 87 3 (.slice A5 (m + 1) c5) (m + 1) (catA (out ++ [a]))) := Lib.hid (by rw [catA_snoc, HAC.out]; exact hown5); clear hown5 hg5 hat5 hup5; have HLN5 : Hid ((out ++ [a]).length = m + 1) := Lib.hid (by rw [List.length_append, HLN.out]; rfl); have HIS := Lib.hid (HIS0.out w5 A2 n2 c2 HR5.out (by omega)))
                | (go_at_call 85; refine HIS.out.mono ?_; rintro e w6 ⟨rfl, hu6, A6, n6, c6, hr6, hn6⟩; have hr6' : RdAt w6 q M A6 n6 c6 T3 := hr6; have HR6 := Lib.hid hr6'; have HU6 := Lib.hid (HU5.out.trans hu6); have HOW6 := Lib.hid (own_upd HOW5.out hu6 (fun k hk e => by have := (own_is HOW5.out hk).1; have e2 : k = q := e; omega)); clear hu6 hr6 hr6'))
              refine ⟨⟨d, out ++ [a], m + 1, A5, c5, A6, n6, c6, T3, rfl, by omega, HLN5, by omega, HOW6, HR6, HU6, Lib.hid (HM3.out T3 rfl), HCL2⟩, ?_⟩
              show 6 - (m + 1) < 6 - m
              omega
end Go.Proofs.YtjkaigfpjebfbaaGreatDoor
