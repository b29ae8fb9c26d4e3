/- The reference's trail: what it is in memory; may, Value. -/
import Derived.Test.YtghfelfljblkbaaPush
import Derived.Test.YtghfelfljblkbaaBoth
namespace Go.Proofs.Ytghfelfljblkbaa
open Go.RowKit Go.Sort
set_option linter.unusedVariables false

set_option maxRecDepth 100000 in
set_option maxHeartbeats 1000000 in
theorem RMayC_any (p n : Nat) (x : Int) (w : World) (k0 : w.cell? ⟨p, 0, none⟩ = some (.int .i64 (n : Int))) (hn : n ≤ 200) (hx : Ok x) :
    Calls Try.prog 77 #[.pointer (some ⟨p, 0, none⟩), .int .i64 x] w fun e w' => e = .returned (.bool (!offL n x)) ∧ ∃ m, w' = w.drewN m := by
  have HV := Lib.hid (fun W => size_any x hx W)
  unfold offL
  rw [vw_ok hx]
  obtain ⟨v, hv⟩ : ∃ v, v = Cf.va x := ⟨_, rfl⟩
  rw [← hv] at HV ⊢
  clear hv hx
  by_cases h0 : x = 0
  · subst h0
    go_enter Try.func77, Try.ntmps77
    go_wp2_with fail
    go_quiet ((go_at_call 99; exact ((HV.out _).mono fun e w' h => ⟨h.1, _, h.2.symm⟩)))
    go_wp2_with fail
    go_ret
    exact ⟨ret_bool (by simp), _, rfl⟩
  · have h0' : (x != 0) = true := by simpa using h0
    have h0'' : decide (x = 0) = false := decide_eq_false h0
    by_cases hv : n < v
    · have hd : decide ((n : Int) < (v : Int)) = true := decide_eq_true (by omega)
      have hd3 : decide (v ≤ n) = false := decide_eq_false (by omega)
      go_enter Try.func77, Try.ntmps77
      go_wp2_with fail
      go_quiet ((go_at_call 99; exact ((HV.out _).mono fun e w' h => ⟨h.1, _, h.2.symm⟩)))
      go_wp2_with fail
      go_ret
      exact ⟨ret_bool (by first | (rw [h0'', hd, hd3]; rfl) | (rw [h0'', hd]; rfl)), _, rfl⟩
    · have hd : decide ((n : Int) < (v : Int)) = false := decide_eq_false (by omega)
      have hd3 : decide (v ≤ n) = true := decide_eq_true (by omega)
      go_enter Try.func77, Try.ntmps77
      go_wp2_with fail
      go_quiet ((go_at_call 99; exact ((HV.out _).mono fun e w' h => ⟨h.1, _, h.2.symm⟩)))
      go_wp2_with fail
      go_ret
      exact ⟨ret_bool (by first | (rw [h0'', hd, hd3]; rfl) | (rw [h0'', hd]; rfl)), _, rfl⟩
/-- The reference's trail. -/
structure RTrAt (w : World) (q qs : Nat) (B Bt Bm : Option Addr) (cb ct cm n : Nat) (K : Nat → Prop) (L : List (List Int)) (T : List Int) (M : List Nat) : Prop where
  blk : Blk w q 92 #[.pointer (some ⟨qs, 0, none⟩), .slice Bt T.length ct, .slice Bm M.length cm]
  sblk : Blk w qs 42 #[.int .i64 (n : Int), .slice B L.length cb]
  cls : ClsK w K B L
  ks : K qs
  lits : w.ownsRow 0 37 1 (.slice Bt T.length ct) T.length (T.map (Value.int .i64))
  lev : w.ownsRow 0 3 1 (.slice Bm M.length cm) M.length (M.map fun (k : Nat) => Value.int .i64 (k : Int))
  un : Un n T
  cl : Pr.Cl n L
  n : n ≤ 200
  len : L.length ≤ 5000
  sh : ∀ c ∈ L, c.length ≤ 1048576
  k : ∀ i, K i → i ≠ q ∧ (Value.slice Bt 0 0).ownBlock ≠ some i ∧ (Value.slice Bm 0 0).ownBlock ≠ some i
/-- The blocks that the reference's trail turns. -/
def rF (q : Nat) (Bt Bm : Option Addr) : Nat → Prop := fun i => i = q ∨ (Value.slice Bt 0 0).ownBlock = some i ∨ (Value.slice Bm 0 0).ownBlock = some i
section
variable {w w' : World} {q qs cb ct cm n : Nat} {B Bt Bm : Option Addr} {K : Nat → Prop} {L : List (List Int)} {T : List Int} {M : List Nat}
theorem RTrAt.lt (h : RTrAt w q qs B Bt Bm cb ct cm n K L T M) : ∀ i, rF q Bt Bm i → i < w.heap.size := by
  rintro i (rfl | hi | hi)
  · exact h.blk.lt
  · exact (h.lits.lt i (by rw [← hi]; exact ownB)).2
  · exact (h.lev.lt i (by rw [← hi]; exact ownB)).2
theorem RTrAt.upd {S : Nat → Prop} (h : RTrAt w q qs B Bt Bm cb ct cm n K L T M) (hu : Upd S w w') (h1 : ∀ i, rF q Bt Bm i → ¬ S i) (h2 : ∀ i, K i → ¬ S i) : RTrAt w' q qs B Bt Bm cb ct cm n K L T M :=
  ⟨h.blk.upd hu (h1 q (.inl rfl)), h.sblk.upd hu (h2 qs h.ks), h.cls.upd hu h2, h.ks, own_upd h.lits hu (fun i hi => h1 i (.inr (.inl (by rw [← hi]; exact ownB)))), own_upd h.lev hu (fun i hi => h1 i (.inr (.inr (by rw [← hi]; exact ownB)))), h.un, h.cl, h.n, h.len, h.sh, h.k⟩
theorem RTrAt.below (h : RTrAt w q qs B Bt Bm cb ct cm n K L T M) (hb : Below w.heap.size w w') : RTrAt w' q qs B Bt Bm cb ct cm n K L T M :=
  h.upd (Upd.of_below hb (T := fun k => w.heap.size ≤ k) (fun _ _ h => h)) (fun i hi hT => by have := h.lt i hi; omega) (fun i hi hT => by have := h.cls.1 i hi; omega)
theorem RTrAt.drewN (h : RTrAt w q qs B Bt Bm cb ct cm n K L T M) (k : Nat) : RTrAt (w.drewN k) q qs B Bt Bm cb ct cm n K L T M := h.below ⟨rfl, rfl, rfl, Nat.le_refl _, fun _ _ => rfl⟩
theorem RTrAt.ok (h : RTrAt w q qs B Bt Bm cb ct cm n K L T M) : ∀ z ∈ T, Ok z := fun z hz => by
  have := h.un.ok h.n z hz
  exact ⟨by omega, by omega⟩
theorem RTrAt.tlen (h : RTrAt w q qs B Bt Bm cb ct cm n K L T M) : T.length ≤ 200 := Nat.le_trans (Pr.un_len h.un) h.n
theorem RTrAt.lit (h : RTrAt w q qs B Bt Bm cb ct cm n K L T M) : Lits w Bt T.length T := by
  obtain ⟨A, c, hv, hl, _⟩ := OwnL.lits (zs := T) h.lits h.ok
  cases hv
  exact hl
end
section
variable (q qs cb ct cm n : Nat) (B Bt Bm : Option Addr) (K : Nat → Prop) (L : List (List Int)) (T : List Int) (M : List Nat)
set_option maxRecDepth 100000 in
set_option maxHeartbeats 1000000 in
theorem RValue_any (x : Int) (w : World) (h : RTrAt w q qs B Bt Bm cb ct cm n K L T M) (hx : -100000 ≤ x ∧ x ≤ 100000) :
    Calls Try.prog 86 #[.pointer (some ⟨q, 0, none⟩), .int .i64 x] w fun e w' => e = .returned (.int .i64 (Pr.ofT T x)) ∧ w = w' := by
  obtain ⟨t, ht⟩ : ∃ t, t = T.length := ⟨_, rfl⟩
  have k1 : w.cell? ⟨q, 1, none⟩ = some (.slice Bt t ct) := by rw [ht]; exact h.blk.cell 1
  have htl := h.tlen
  have HL := Lib.hid h.lit
  rw [← ht] at htl HL
  have HTE := Lib.hid ht
  have HUN := Lib.hid h.un
  have HOK : Hid (∀ z ∈ T, -200 ≤ z ∧ z ≤ 200) := Lib.hid (h.un.ok h.n)
  obtain ⟨x1, x2⟩ := hx
  clear h ht
  go_enter Try.func86, Try.ntmps86
  go_wp2_with fail
  go_loopw [12] (fun s wx => ∃ j : Nat, s = .int .i64 (j : Int) ∧ j ≤ t ∧ Hid (∀ y ∈ T.take j, y ≠ x ∧ y ≠ -x) ∧ wx = w) (fun s _ => t - (match s with | .int _ x => x.toNat | _ => 0))
  case atStart => exact ⟨0, rfl, Nat.zero_le _, Lib.hid (by simp), rfl⟩
  case round =>
    obtain ⟨j, rfl, hj, HN, rfl⟩ := hrel
    by_cases hlt : j < t
    · obtain ⟨b, o, rfl, _, hcell⟩ := HL.out.2.2 (by omega)
      obtain ⟨y, hy⟩ : ∃ y, y = T.getD j 0 := ⟨_, rfl⟩
      have ky := hcell j hlt
      rw [← hy] at ky
      have hj2 : j < T.length := by have := HTE.out; omega
      have hyT : y ∈ T := by
        rw [hy, List.getD_eq_getElem?_getD, List.getElem?_eq_getElem hj2]
        exact List.getElem_mem _
      have HT1 := Lib.hid hyT
      have hyb := HOK.out y hyT
      have y1 : -200 ≤ y := hyb.1
      have y2 : y ≤ 200 := hyb.2
      have HTK : Hid (T.take (j + 1) = T.take j ++ [y]) := Lib.hid (by
        rw [List.take_add_one, List.getElem?_eq_getElem hj2, hy, List.getD_eq_getElem?_getD, List.getElem?_eq_getElem hj2]; rfl)
      have i1 : (j : Int) < (t : Int) := by omega
      clear hcell hy hj2 hyT hyb
      by_cases e1 : y = x
      · have HE : Hid (Pr.ofT T x = 1) := Lib.hid (by unfold Pr.ofT; rw [if_pos (by rw [← e1]; exact HT1.out)])
        have g1 : (y == x) = true := by rw [e1]; exact beq_self_eq_true x
        clear e1
        go_wp2_with fail
        go_ret
        exact ⟨ret_int HE.out.symm, rfl⟩
      · have g1 : (y == x) = false := by rw [beq_eq_false_iff_ne]; exact e1
        by_cases e2 : y = -x
        · have HE : Hid (Pr.ofT T x = -1) := Lib.hid (by
            have h1 : -x ∈ T := by rw [← e2]; exact HT1.out
            unfold Pr.ofT
            rw [if_neg (fun h0 => Pr.un_opp HUN.out h0 h1), if_pos h1])
          have g2 : (y == -x) = true := by rw [e2]; exact beq_self_eq_true (-x)
          clear e1 e2
          go_wp2_with fail
          go_ret
          exact ⟨ret_int HE.out.symm, rfl⟩
        · have g2 : (y == -x) = false := by rw [beq_eq_false_iff_ne]; exact e2
          have HN2 : Hid (∀ z ∈ T.take (j + 1), z ≠ x ∧ z ≠ -x) := Lib.hid (fun z hz => by
            rw [HTK.out] at hz
            rcases List.mem_append.1 hz with h | h
            · exact HN.out z h
            · rw [List.mem_singleton.1 h]; exact ⟨e1, e2⟩)
          clear e1 e2
          go_wp2_with fail
          refine ⟨⟨j + 1, by go_num, by omega, HN2, trivial⟩, ?_⟩
          show t - ((j : Int) + 1).toNat < t - (j : Int).toNat
          omega
    · have hjt : (j : Int) = (t : Int) := by omega
      have HE : Hid (Pr.ofT T x = 0) := Lib.hid (by
        have hall := HN.out
        rw [List.take_of_length_le (by have := HTE.out; omega)] at hall
        unfold Pr.ofT
        rw [if_neg (fun h0 => (hall x h0).1 rfl), if_neg (fun h0 => (hall (-x) h0).2 rfl)])
      clear HN
      go_wp2_with fail
      go_ret
      exact ⟨ret_int HE.out.symm, rfl⟩
end
end Go.Proofs.Ytghfelfljblkbaa
