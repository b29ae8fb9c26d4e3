/- sat: a search in memory; may, open. -/
import Derived.Test.YtghfelfljblkbaaSr3
import Derived.Test.YtghfelfljblkbaaPop
import Derived.Test.YtghfelfljblkbaaRPush
namespace Go.Proofs.Ytghfelfljblkbaa
open Go.RowKit Go.Sort
set_option linter.unusedVariables false

def chs (S : Sr.Stk) : List Int := S.reverse.map fun e => e.1
def mks (M0 : List Nat) (S : Sr.Stk) : List Nat := M0 ++ S.reverse.map fun e => e.2.length
theorem chs_cons (c : Int) (Tp : List Int) (S : Sr.Stk) : chs ((c, Tp) :: S) = chs S ++ [c] := by unfold chs; rw [List.reverse_cons, List.map_append]; rfl
theorem mks_cons (M0 : List Nat) (c : Int) (Tp : List Int) (S : Sr.Stk) : mks M0 ((c, Tp) :: S) = mks M0 S ++ [Tp.length] := by unfold mks; rw [List.reverse_cons, List.map_append, List.append_assoc]; rfl
theorem chs_len (S : Sr.Stk) : (chs S).length = S.length := by simp [chs]
theorem mk_len : ∀ {M : List Nat} {T : List Int}, MkOk M T → M.length ≤ T.length := by
  intro M T h
  obtain ⟨h1, h2⟩ := h
  generalize T.length = t at h2
  induction M generalizing t with
  | nil => exact Nat.zero_le _
  | cons a r ih =>
    have hp := List.pairwise_cons.1 h1
    have h3 := ih hp.2
    have ha := h2 a (by simp)
    cases t with
    | zero => omega
    | succ t =>
      have key : ∀ (M : List Nat) (a t : Nat), M.Pairwise (· < ·) → (∀ m ∈ M, a < m ∧ m < t) → a < t → M.length + a + 1 ≤ t := by
        intro M
        induction M with
        | nil => intro a t _ _ h; simp; omega
        | cons b r ih2 =>
          intro a t hp hm ha
          have hp2 := List.pairwise_cons.1 hp
          have hb := hm b (by simp)
          have := ih2 b t hp2.2 (fun m hm' => ⟨hp2.1 m hm', (hm m (by simp [hm'])).2⟩) hb.2
          simp
          omega
      have := key r a (t + 1) hp.2 (fun m hm => ⟨hp.1 m hm, h2 m (by simp [hm])⟩) ha
      simp
      omega
/-- A search. -/
structure SrAt (w0 w : World) (x p gv : Nat) (Al At Am Ch : Option Addr) (cl ct cm cc n : Nat) (K : Nat → Prop) (L : List (List Int)) (T : List Int) (M : List Nat) (cs : List Int) (s : Nat) : Prop where
  blk : Blk w x 99 #[.pointer (some ⟨p, 0, none⟩), .int .i64 (n : Int), .slice Ch cs.length cc, .int .i64 (s : Int)]
  tr : TrAt w p gv Al At Am cl ct cm n K L T M
  row : w.ownsRow 0 3 1 (.slice Ch cs.length cc) cs.length (cs.map (Value.int .i64))
  ne : ∀ i, (Value.slice Ch 0 0).ownBlock = some i → ¬ tF p gv At Am i
  nx : ¬ tF p gv At Am x
  k : ∀ i, K i → i ≠ x ∧ (Value.slice Ch 0 0).ownBlock ≠ some i
  bel : Below w0.heap.size w0 w
  lo : ∀ i, i = x ∨ (Value.slice Ch 0 0).ownBlock = some i ∨ tF p gv At Am i → w0.heap.size ≤ i
theorem sr_ne {w : World} {g base n : Nat} {v : Value} {xs : List Value} {C : Array Value} {e : TypeId} (ho : w.ownsRow base e 1 v n xs) (hb : Blk w g 99 C) (he : e ≠ 99) : ¬ v.ownBlock = some g := own_blk_ne ho hb he
section
variable {w0 w w' : World} {x p gv : Nat} {Al At Am Ch At' Am' A5 : Option Addr} {cl ct cm cc ct' cm' c5 n : Nat} {K : Nat → Prop} {L : List (List Int)} {T T' : List Int} {M M' : List Nat} {cs : List Int} {s : Nat}
theorem SrAt.below (h : SrAt w0 w x p gv Al At Am Ch cl ct cm cc n K L T M cs s) (hb : Below w.heap.size w w') : SrAt w0 w' x p gv Al At Am Ch cl ct cm cc n K L T M cs s :=
  ⟨h.blk.below hb h.blk.lt, h.tr.below hb, ownL_later h.row hb, h.ne, h.nx, h.k, h.bel.trans (hb.mono h.bel.size), h.lo⟩
theorem SrAt.step (h : SrAt w0 w x p gv Al At Am Ch cl ct cm cc n K L T M cs s) (hr : TrRes w w' p gv Al At Am At' Am' cl ct' cm' n K L T' M') : SrAt w0 w' x p gv Al At' Am' Ch cl ct' cm' cc n K L T' M' cs s := by
  refine ⟨h.blk.upd hr.upd h.nx, hr.tr, own_upd h.row hr.upd (fun i hi => h.ne i (by rw [← hi]; exact ownB)), fun i hi hf => ?_, fun hf => ?_, h.k, h.bel.trans (hr.upd.below (fun i hi => h.lo i (.inr (.inr hi))) h.bel.size), fun i hi => ?_⟩
  · rcases hr.own i hf with h9 | h9
    · exact h.ne i hi h9
    · have := (h.row.lt i (by rw [← hi]; exact ownB)).2; omega
  · rcases hr.own x hf with h9 | h9
    · exact h.nx h9
    · have := h.blk.lt; omega
  · rcases hi with hi | hi | hi
    · exact h.lo i (.inl hi)
    · exact h.lo i (.inr (.inl hi))
    · rcases hr.own i hi with h9 | h9
      · exact h.lo i (.inr (.inr h9))
      · exact Nat.le_trans h.bel.size h9
theorem SrAt.spend (h : SrAt w0 w x p gv Al At Am Ch cl ct cm cc n K L T M cs s) : SrAt w0 (w.setCell ⟨x, 3, none⟩ (.int .i64 ((s + 1 : Nat) : Int))) x p gv Al At Am Ch cl ct cm cc n K L T M cs (s + 1) := by
  have hu : Upd (fun i => i = x) w (w.setCell ⟨x, 3, none⟩ (.int .i64 ((s + 1 : Nat) : Int))) := (Upd.refl (fun i => i = x) w).setCell (p := ⟨x, 3, none⟩) (.inl rfl) _
  exact ⟨(h.blk.set_ 3 _).cast (by simp), h.tr.upd hu (fun i hi e => h.nx (e ▸ hi)) (fun i hi e => (h.k i hi).1 e), own_upd h.row hu (fun i hi e => by subst e; exact sr_ne h.row h.blk (by decide) hi), h.ne, h.nx, h.k, h.bel.trans (hu.below (fun i hi => h.lo i (.inl hi)) h.bel.size), h.lo⟩
theorem SrAt.cut {cs0 : List Int} {v : Int} {k : Nat} (h : SrAt w0 w x p gv Al At Am Ch cl ct cm cc n K L T M (cs0 ++ [v]) s) (hk : k = cs0.length) : SrAt w0 (w.setCell ⟨x, 2, none⟩ (.slice Ch k cc)) x p gv Al At Am Ch cl ct cm cc n K L T M cs0 s := by
  have hu : Upd (fun i => i = x) w (w.setCell ⟨x, 2, none⟩ (.slice Ch k cc)) := (Upd.refl (fun i => i = x) w).setCell (p := ⟨x, 2, none⟩) (.inl rfl) _
  have hr := own_upd h.row hu (fun i hi e => by subst e; exact sr_ne h.row h.blk (by decide) hi)
  have hc := own_cut hr (k := cs0.length) (by rw [List.length_append]; omega)
  rw [List.map_append, List.take_append_of_le_length (by rw [List.length_map]; exact Nat.le_refl _), List.take_of_length_le (by rw [List.length_map]; exact Nat.le_refl _)] at hc
  exact ⟨by rw [← hk]; exact (h.blk.set_ 2 _).cast (by simp), h.tr.upd hu (fun i hi e => h.nx (e ▸ hi)) (fun i hi e => (h.k i hi).1 e), hc, h.ne, h.nx, h.k, h.bel.trans (hu.below (fun i hi => h.lo i (.inl hi)) h.bel.size), h.lo⟩
theorem SrAt.app {w5 : World} {v : Int} {k : Nat} (h : SrAt w0 w x p gv Al At Am Ch cl ct cm cc n K L T M cs s) (hk : k = cs.length)
    (ho5 : w5.ownsRow 0 3 1 (.slice A5 (k + 1) c5) (k + 1) (cs.map (Value.int .i64) ++ [.int .i64 v])) (hu5 : Upd (fun i => (Value.slice Ch 0 0).ownBlock = some i) w w5)
    (hA5 : ∀ i, (Value.slice A5 0 0).ownBlock = some i → (Value.slice Ch 0 0).ownBlock = some i ∨ w.heap.size ≤ i) :
    SrAt w0 (w5.setCell ⟨x, 2, none⟩ (.slice A5 (k + 1) c5)) x p gv Al At Am A5 cl ct cm c5 n K L T M (cs ++ [v]) s := by
  have hb5 : Blk w5 x 99 _ := h.blk.upd hu5 (fun e => sr_ne h.row h.blk (by decide) (by rw [← e]; exact ownB))
  have ht5 := h.tr.upd hu5 (fun i hi e => h.ne i e hi) (fun i hi e => (h.k i hi).2 e)
  have hu : Upd (fun i => i = x) w5 (w5.setCell ⟨x, 2, none⟩ (.slice A5 (k + 1) c5)) := (Upd.refl (fun i => i = x) w5).setCell (p := ⟨x, 2, none⟩) (.inl rfl) _
  have hb9 : Below w0.heap.size w0 w5 := h.bel.trans (hu5.below (fun i hi => h.lo i (.inr (.inl hi))) h.bel.size)
  have hml : (cs ++ [v]).length = k + 1 := by rw [List.length_append, hk]; rfl
  refine ⟨by rw [hml]; exact (hb5.set_ 2 _).cast (by simp), ht5.upd hu (fun i hi e => h.nx (e ▸ hi)) (fun i hi e => (h.k i hi).1 e), ?_, fun i hi hf => ?_, h.nx, fun i hi => ⟨(h.k i hi).1, fun e => ?_⟩, hb9.trans (hu.below (fun i hi => h.lo i (.inl hi)) hb9.size), fun i hi => ?_⟩
  · rw [hml, List.map_append]
    exact own_upd ho5 hu (fun i hi e => by subst e; exact sr_ne ho5 hb5 (by decide) hi)
  · rcases hA5 i hi with h9 | h9
    · exact h.ne i h9 hf
    · have := h.tr.lt i hf; omega
  · rcases hA5 i e with h9 | h9
    · exact (h.k i hi).2 h9
    · have := h.tr.klt i hi; omega
  · rcases hi with hi | hi | hi
    · exact h.lo i (.inl hi)
    · rcases hA5 i hi with h9 | h9
      · exact h.lo i (.inr (.inl h9))
      · exact Nat.le_trans h.bel.size h9
    · exact h.lo i (.inr (.inr hi))
end
set_option maxRecDepth 100000 in
set_option maxHeartbeats 1000000 in
theorem open_any (w0 w : World) (x p gv : Nat) (Al At Am Ch : Option Addr) (cl ct cm cc n : Nat) (K : Nat → Prop) (L : List (List Int)) (T : List Int) (M : List Nat) (cs : List Int) (s : Nat) (h : SrAt w0 w x p gv Al At Am Ch cl ct cm cc n K L T M cs s) :
    Calls Try.prog 104 #[.pointer (some ⟨x, 0, none⟩)] w fun e w' => e = .returned (.int .i64 (Sr.openV n T : Int)) ∧ w = w' := by
  have k0 : w.cell? ⟨x, 0, none⟩ = some (.pointer (some ⟨p, 0, none⟩)) := h.blk.cell 0
  have k1 : w.cell? ⟨x, 1, none⟩ = some (.int .i64 (n : Int)) := h.blk.cell 1
  have hn := h.tr.n
  have HV := Lib.hid (fun v => Value_any p gv cl ct cm n Al At Am K L T M v w h.tr)
  clear h
  go_enter Try.func104, Try.ntmps104
  go_wp2_with fail
  go_loopw [3] (fun t wr => ∃ v : Nat, t = .int .i64 (v : Int) ∧ 1 ≤ v ∧ v ≤ n + 1 ∧ Hid (∀ u : Nat, 1 ≤ u → u < v → Pr.ofT T (u : Int) ≠ 0) ∧ wr = w) (fun t _ => n + 1 - (match t with | .int _ x => x.toNat | _ => 0))
  case atStart => exact ⟨1, rfl, by omega, by omega, Lib.hid (fun u h1 h2 => by omega), rfl⟩
  case round =>
    obtain ⟨v, rfl, hv1, hv2, HN, hwr⟩ := hrel
    subst hwr
    by_cases hlt : v ≤ n
    · have i1 : (v : Int) ≤ (n : Int) := by omega
      have HVV := HV.out (v : Int)
      have e : vl n T (v : Int) = Pr.ofT T (v : Int) := by unfold vl; rw [if_pos ⟨by omega, by omega⟩]
      rw [e] at HVV
      obtain ⟨y, hy⟩ : ∃ y, y = Pr.ofT T (v : Int) := ⟨_, rfl⟩
      rw [← hy] at HVV
      have HC := Lib.hid HVV
      have HY := Lib.hid hy
      clear HVV e hy
      by_cases h0 : y = 0
      · have HE : Hid (Sr.openV n T = v) := Lib.hid (Sr.openV_at hv1 hlt (by rw [← HY.out]; exact h0) HN.out)
        have hd : (y == 0) = true := by rw [h0]; rfl
        clear h0
        go_wp2_with (go_at_call 51; refine HC.out.mono ?_; rintro e w1 ⟨rfl, rfl⟩)
        go_ret
        exact ⟨ret_int (by rw [HE.out]), rfl⟩
      · have HN2 : Hid (∀ u : Nat, 1 ≤ u → u < v + 1 → Pr.ofT T (u : Int) ≠ 0) := Lib.hid (fun u h1 h2 => by
          rcases Nat.lt_or_ge u v with h | h
          · exact HN.out u h1 h
          · have e : u = v := by omega
            rw [e, ← HY.out]; exact h0)
        have hd : (y == 0) = false := by rw [beq_eq_false_iff_ne]; exact h0
        clear h0
        go_wp2_with (go_at_call 51; refine HC.out.mono ?_; rintro e w1 ⟨rfl, rfl⟩)
        refine ⟨⟨v + 1, by go_num, by omega, by omega, HN2, trivial⟩, ?_⟩
        show n + 1 - ((v : Int) + 1).toNat < n + 1 - (v : Int).toNat
        omega
    · have i1 : ¬ (v : Int) ≤ (n : Int) := by omega
      have HE : Hid (Sr.openV n T = 0) := Lib.hid (Sr.openV_not (fun u h1 h2 => HN.out u h1 (by omega)))
      go_wp2_with fail
      go_ret
      exact ⟨ret_int (by rw [HE.out]; rfl), rfl⟩
set_option maxRecDepth 100000 in
set_option maxHeartbeats 1000000 in
theorem smay_any (p cap n : Nat) (A : Option Addr) (L : List (List Int)) (x : Int) (hx : Ok x) (w : World) (h : SetAt w p A cap n L) :
    Calls Try.prog 91 #[.pointer (some ⟨p, 0, none⟩), .int .i64 x] w fun e w' => e = .returned (.bool (!offL n x)) ∧ w = w' := by
  have HV := Lib.hid (Vars_any p cap n A L w h)
  have hn := h.n
  have HO := Lib.hid (off_may (n := n) hx)
  obtain ⟨x1, x2⟩ := hx
  clear h
  by_cases h0 : x = 0
  · have HB : Hid ((!offL n x) = false) := Lib.hid (by rw [HO.out, decide_eq_false (by unfold Cf.va; omega)]; rfl)
    subst h0
    go_enter Try.func91, Try.ntmps91
    go_wp2_with fail
    go_ret
    exact ⟨ret_bool HB.out.symm, rfl⟩
  · have hd : (x != 0) = true := by rw [bne_iff_ne]; exact h0
    by_cases h1 : x ≤ (n : Int)
    · by_cases h2 : -(n : Int) ≤ x
      · have HB : Hid ((!offL n x) = true) := Lib.hid (by rw [HO.out, decide_eq_true (by unfold Cf.va; omega), decide_eq_true (by unfold Cf.va; omega)]; rfl)
        clear h0
        go_enter Try.func91, Try.ntmps91
        go_wp2_with (go_at_call 35; refine HV.out.mono ?_; rintro e w1 ⟨rfl, rfl⟩)
        go_ret
        exact ⟨ret_bool (by rw [HB.out]), rfl⟩
      · have HB : Hid ((!offL n x) = false) := Lib.hid (by rw [HO.out, decide_eq_true (by unfold Cf.va; omega), decide_eq_false (by unfold Cf.va; omega)]; rfl)
        have hd2 : decide (-(n : Int) ≤ x) = false := decide_eq_false h2
        clear h0
        go_enter Try.func91, Try.ntmps91
        go_wp2_with (go_at_call 35; refine HV.out.mono ?_; rintro e w1 ⟨rfl, rfl⟩)
        go_ret
        exact ⟨ret_bool (by rw [HB.out]), rfl⟩
    · have HB : Hid ((!offL n x) = false) := Lib.hid (by rw [HO.out, decide_eq_true (by unfold Cf.va; omega), decide_eq_false (by unfold Cf.va; omega)]; rfl)
      have hd2 : decide (x ≤ (n : Int)) = false := decide_eq_false h1
      clear h0
      go_enter Try.func91, Try.ntmps91
      go_wp2_with (go_at_call 35; refine HV.out.mono ?_; rintro e w1 ⟨rfl, rfl⟩)
      go_ret
      exact ⟨ret_bool (by rw [HB.out]), rfl⟩
end Go.Proofs.Ytghfelfljblkbaa
