/- stanza's reader: take. -/
import Derived.Test.YtjkaigfpjebfbaaDoorSt7
namespace Go.Proofs.YtjkaigfpjebfbaaDoor
open Go.RowKit
set_option linter.unusedVariables false

/-- How much there is, so far. -/
def Small (k : Nat) : PS → Prop
  | .shut L => L.length ≤ 200
  | .opn Lp l0 Fp nm ls => Lp.length ≤ 199 ∧ Fp.length ≤ 39 ∧ ls.length ≤ k ∧ (∀ f ∈ Fp, f.n.size ≤ 1048576) ∧ nm.size ≤ 1048576
theorem Small.mono {k k' : Nat} (hk : k ≤ k') : ∀ {σ : PS}, Small k σ → Small k' σ
  | .shut L, h => h
  | .opn Lp l0 Fp nm ls, h => ⟨h.1, h.2.1, Nat.le_trans h.2.2.1 hk, h.2.2.2⟩
theorem Small.all {k : Nat} : ∀ {σ : PS}, Small k σ → σ.all.length ≤ 200
  | .shut L, h => h
  | .opn Lp l0 Fp nm ls, h => by
    show (Lp ++ [_]).length ≤ 200
    rw [List.length_append]
    have := h.1
    show Lp.length + 1 ≤ 200
    omega
theorem Small.take {k : Nat} {σ σ' : PS} {s : ByteArray} {ln : Int} (h : Small k σ) (hk : 1 ≤ k + 1) (hs : s.size ≤ 1048576) (ht : takeS s ln σ = .ok σ') : Small (k + 1) σ' := by
  unfold takeS at ht
  split at ht
  · injection ht with ht; subst ht; exact h.mono (by omega)
  split at ht
  · injection ht with ht; subst ht; exact h.all
  split at ht
  · cases σ with
    | shut L => cases ht
    | opn Lp l0 Fp nm ls =>
      injection ht with ht
      subst ht
      exact ⟨h.1, h.2.1, by rw [List.length_append]; have := h.2.2.1; show _ + 1 ≤ _; omega, h.2.2.2⟩
  · have hsz : ∀ n, (s.extract 0 n).size ≤ 1048576 := fun n => by rw [ByteArray.size_extract]; omega
    unfold fieldS at ht
    split at ht
    · cases ht
    · cases σ with
      | shut L =>
        simp only at ht
        split at ht
        · cases ht
        · next h2 =>
          injection ht with ht
          subst ht
          have h3 : L.length ≤ 200 := h
          exact ⟨by omega, Nat.zero_le _, by show 1 ≤ k + 1; omega, (fun f hf => by cases hf), hsz _⟩
      | opn Lp l0 Fp nm ls =>
        simp only at ht
        split at ht
        · cases ht
        · next h2 =>
          split at ht
          · cases ht
          · injection ht with ht
            subst ht
            refine ⟨h.1, by rw [List.length_append]; have := h.2.1; show _ + 1 ≤ _; omega, by show 1 ≤ k + 1; omega, fun f hf => ?_, hsz _⟩
            rcases List.mem_append.1 hf with h9 | h9
            · exact h.2.2.2.1 f h9
            · rw [List.mem_singleton] at h9; subst h9; exact h.2.2.2.2
theorem rem_eq (s : ByteArray) : Lib.hasPrefix s.data.toList (⟨#[35]⟩ : ByteArray).data.toList = isRem s := by
  obtain ⟨⟨l⟩⟩ := s
  cases l with
  | nil => rfl
  | cons x r =>
    unfold isRem
    have h0 : 0 < (ByteArray.mk ⟨x :: r⟩).size := by show 0 < r.length + 1; omega
    have hb : byteAt (ByteArray.mk ⟨x :: r⟩) 0 = x.toNat := by rw [byteAt_get _ 0 h0]; rfl
    rw [decide_eq_true h0, hb, Bool.true_and]
    show Lib.hasPrefix (x :: r) [35] = _
    by_cases h : x = 35
    · subst h; simp [Lib.hasPrefix]
    · have h2 : x.toNat ≠ 35 := fun e => h (by rw [← UInt8.toNat_inj]; exact e)
      rw [decide_eq_false h2]
      have h3 : (35 == x) = false := by rw [beq_eq_false_iff_ne]; exact fun e => h e.symm
      show (35 == x && List.isPrefixOf [] r) = false
      rw [h3]
      rfl
theorem blank_eq (x : ByteArray) : x.toList.isEmpty = decide (x.size = 0) := by
  rw [ByteArray.toList_eq]
  obtain ⟨⟨l⟩⟩ := x
  cases l with
  | nil => rfl
  | cons a r => exact (decide_eq_false (by show ¬ r.length + 1 = 0; omega)).symm
theorem shu_ne {w : World} {base q c : Nat} {G : Nat → Prop} {A : Option Addr} {xs : List Value} {L : List St} {C : Array Value} (h : Shu w base G A c xs L) (hb : Blk w q 56 C) : ∀ k, A = some ⟨k, 0, none⟩ → k ≠ q := fun k e hq => by
  have ho := h.o
  rw [e] at ho
  exact own_ne_blk ho hb (by decide) hq
theorem RdS.far {w w' : World} {base q : Nat} : ∀ {σ : PS}, RdS w base q σ → Below w.heap.size w w' → RdS w' base q σ
  | .shut L, h, hb => by
    obtain ⟨G, A, c, xs, hr, ho, hG⟩ := h
    have hu : Upd (fun _ => False) w w' := Upd.of_below hb (fun k h1 h2 => by omega)
    exact ⟨G, A, c, xs, hr.below hb hr.lt, ho.upd hu (fun _ _ h => h) (fun _ _ h => h), hG⟩
  | .opn Lp ln Fp nm ls, h, hb => by
    obtain ⟨G, ko, co, kf, cf, kl, cl, xs, fx, hr, ho, hG⟩ := h
    have hu : Upd (fun _ => False) w w' := Upd.of_below hb (fun k h1 h2 => by omega)
    exact ⟨G, ko, co, kf, cf, kl, cl, xs, fx, hr.below hb hr.lt, ho.upd hu (fun h => h) (fun h => h) (fun h => h) (fun _ _ h => h), hG⟩
theorem RdS.cell1 {w : World} {base q : Nat} : ∀ {σ : PS}, RdS w base q σ → q < w.heap.size ∧ w.frozen? ⟨q, 1, none⟩ = false ∧ ∃ b, w.cell? ⟨q, 1, none⟩ = some (.bool b)
  | .shut L, h => by
    obtain ⟨G, A, c, xs, hr, ho, hG⟩ := h
    exact ⟨hr.lt, hr.frozen 1, _, hr.cell 1⟩
  | .opn Lp ln Fp nm ls, h => by
    obtain ⟨G, ko, co, kf, cf, kl, cl, xs, fx, hr, ho, hG⟩ := h
    exact ⟨hr.lt, hr.frozen 1, _, hr.cell 1⟩
theorem RdS.blank {w : World} {base q : Nat} {σ : PS} (h : RdS w base q σ) : RdS (w.setCell ⟨q, 1, none⟩ (.bool false)) base q (.shut σ.all) := by
  have hu : Upd (fun k => k = q) w (w.setCell ⟨q, 1, none⟩ (.bool false)) := (Upd.refl (fun k => k = q) w).setCell (p := ⟨q, 1, none⟩) (.inl rfl) _
  cases σ with
  | shut L =>
    obtain ⟨G, A, c, xs, hr, ho, hG⟩ := h
    exact ⟨G, A, c, xs, hr.set_ 1 _, ho.upd hu (shu_ne ho hr) (fun k hk => (hG k hk).2), hG⟩
  | opn Lp ln Fp nm ls =>
    obtain ⟨G, ko, co, kf, cf, kl, cl, xs, fx, hr, ho, hG⟩ := h
    have n1 : ko ≠ q := own_ne_blk ho.o hr (by decide)
    have n2 : kf ≠ q := own_ne_blk ho.f hr (by decide)
    have n3 : kl ≠ q := own_ne_blk ho.l hr (by decide)
    have hc := ho.close
    have hlen : (Lp ++ [(⟨ln, Fp ++ [⟨nm, ls⟩]⟩ : St)]).length = Lp.length + 1 := by simp
    have hG2 : ∀ k, (G k ∨ k = kf ∨ k = kl) → base ≤ k ∧ k ≠ q := fun k hk => by
      rcases hk with hk | rfl | rfl
      · exact hG k hk
      · exact ⟨(own_is ho.f rfl).1, n2⟩
      · exact ⟨(own_is ho.l rfl).1, n3⟩
    refine ⟨_, _, co, _, ?_, hc.upd hu (fun k e => by injection e with e; injection e with e; rw [← e]; exact n1) (fun k hk => (hG2 k hk).2), hG2⟩
    show Blk _ q _ #[.slice _ (PS.all _).length co, .bool false]
    have := hr.set_ 1 (.bool false)
    rw [← hlen] at this
    exact this
theorem fld_ret {w w' : World} {base q : Nat} {e : Ending} {r : Except Int PS} (h : FldRes w w' base q e r) : ∃ k, e = .returned (.int .i64 k) := by
  cases r with
  | error k => exact ⟨k, h.1⟩
  | ok σ => exact ⟨0, h.1⟩
theorem FldRes.after {w w0 w' : World} {base q : Nat} {e : Ending} {r : Except Int PS} (h : FldRes w w' base q e r) (hb : Below base w0 w) : FldRes w0 w' base q e r := by
  cases r with
  | error k => exact ⟨h.1, hb.trans h.2⟩
  | ok σ => exact ⟨h.1, h.2.1, hb.trans h.2.2⟩
set_option maxRecDepth 100000 in
set_option maxHeartbeats 4000000 in
theorem take_any (q base k : Nat) (σ : PS) (s : ByteArray) (ln : Int) (w : World) (h : RdS w base q σ) (hsm : Small k σ) (hk : k ≤ 1000000) (hs : s.size ≤ 1048576) (hbq : base ≤ q) (hbw : base ≤ w.heap.size)
    (hT : Lib.Utf8Tabs 0 1 w) :
    Calls Tryd.prog 25 #[.pointer (some ⟨q, 0, none⟩), .string s, .int .i64 ln] w fun e w' => FldRes w w' base q e (takeS s ln σ) := by
  have hp := fun W => Tryd.strings_HasPrefix s ⟨#[35]⟩ W
  rw [rem_eq] at hp
  have HP := Lib.hid hp
  by_cases hr : isRem s = true
  · have HE : Hid (takeS s ln σ = .ok σ) := Lib.hid (by unfold takeS; rw [if_pos hr])
    rw [hr] at HP
    have HH := Lib.hid h
    clear hp hr h hsm hT
    go_enter Tryd.func25, Tryd.ntmps25
    go_wp2_with (go_at_call 39; refine (HP.out _).mono ?_; rintro e w1 ⟨rfl, hw1⟩)
    go_ret
    rw [HE.out]
    subst hw1
    exact ⟨rfl, HH.out, (Below.refl _ _).mono hbw⟩
  have hr : isRem s = false := by simpa using hr
  rw [hr] at HP
  obtain ⟨x, hx⟩ : ∃ x, x = trimB s := ⟨_, rfl⟩
  have HTR : Hid (∀ W, Below w.heap.size w W → Calls Tryd.prog 31 #[.string s] W fun e w' => e = .returned (.string x) ∧ Below W.heap.size W w') := Lib.hid (fun W hW => by
    rw [hx]
    exact Trim_any s W (by omega) (tabs_later hT hW))
  have hbe := blank_eq x
  by_cases hb : x.size = 0
  · have HE : Hid (takeS s ln σ = .ok (.shut σ.all)) := Lib.hid (by unfold takeS; rw [if_neg (by rw [hr]; simp), if_pos (by rw [← hx]; exact hb)])
    rw [decide_eq_true hb] at hbe
    have HH := Lib.hid h
    clear hp hr h hsm hT hx hb
    go_enter Tryd.func25, Tryd.ntmps25
    go_wp2_with (first
      | (go_at_call 39; refine (HP.out _).mono ?_; rintro e w1 ⟨rfl, rfl⟩)
      | (go_at_call 31; refine (HTR.out _ (Below.refl _ _)).mono ?_; rintro e w2 ⟨rfl, hb2⟩; have HB2 := Lib.hid hb2; have HR2 := Lib.hid (HH.out.far hb2); obtain ⟨_, f2, bx, k2⟩ := HR2.out.cell1; clear hb2))
    go_ret
    rw [HE.out]
    exact ⟨rfl, HR2.out.blank, (HB2.out.mono hbw).setCell (p := ⟨q, 1, none⟩) hbq _⟩
  have HNE : Hid (takeS s ln σ = if isWh s then furS s σ else fieldS s ln σ) := Lib.hid (by unfold takeS; rw [if_neg (by rw [hr]; simp), if_neg (by rw [← hx]; exact hb)])
  rw [decide_eq_false hb] at hbe
  have HW := Lib.hid (fun W => swhite_any s W (by omega))
  have HH := Lib.hid h
  have hs0 : isWh s = true → 0 < s.size := fun h => by
    unfold isWh at h
    rw [Bool.and_eq_true, decide_eq_true_eq] at h
    exact h.1
  by_cases hw : isWh s = true
  · rw [hw] at HW
    have hs0 := hs0 hw
    have HF : Hid (∀ W, Below w.heap.size w W → Calls Tryd.prog 41 #[.pointer (some ⟨q, 0, none⟩), .string s] W fun e w' => FldRes W w' base q e (furS s σ)) := Lib.hid (fun W hW => by
      have hR := HH.out.far hW
      cases σ with
      | shut L => exact (further_shut q base L s W hR).mono fun e w' ⟨he, hw'⟩ => ⟨he, by rw [← hw']; exact (Below.refl _ _).mono (Nat.le_trans hbw hW.size)⟩
      | opn Lp l0 Fp nm ls =>
        refine (further_opn q base Lp l0 Fp nm ls s W hR hs0 hs hbq (Nat.le_trans hbw hW.size) ?_ ?_ ?_).mono fun e w' ⟨he, h1, h2⟩ => ⟨he, h1, h2⟩
        · have := hsm.1; omega
        · have := hsm.2.1; omega
        · have := hsm.2.2.1; omega)
    have HE : Hid (takeS s ln σ = furS s σ) := Lib.hid (by rw [HNE.out, if_pos hw])
    clear hp hr h hsm hT hx hb hw HNE hs0
    go_enter Tryd.func25, Tryd.ntmps25
    go_wp2_with (first
      | (go_at_call 39; refine (HP.out _).mono ?_; rintro e w1 ⟨rfl, rfl⟩)
      | (go_at_call 31; refine (HTR.out _ (Below.refl _ _)).mono ?_; rintro e w2 ⟨rfl, hb2⟩; have HB2 := Lib.hid hb2; clear hb2)
      | (go_at_call 40; refine (HW.out _).mono ?_; rintro e w3 ⟨rfl, rfl⟩)
      | (go_at_call 41; refine (HF.out _ HB2.out).mono ?_; rintro e w4 h4; obtain ⟨v4, rfl⟩ : ∃ k4, e = .returned (.int .i64 k4) := fld_ret h4; have H4 := Lib.hid h4; clear h4))
    go_ret
    rw [HE.out]
    exact H4.out.after (HB2.out.mono hbw)
  · have hw : isWh s = false := by simpa using hw
    rw [hw] at HW
    have HF : Hid (∀ W, Below w.heap.size w W → Calls Tryd.prog 42 #[.pointer (some ⟨q, 0, none⟩), .string s, .int .i64 ln] W fun e w' => FldRes W w' base q e (fieldS s ln σ)) := Lib.hid (fun W hW => by
      have hR := HH.out.far hW
      have hbW := Nat.le_trans hbw hW.size
      by_cases hn : nameN s = 0 ∨ nameN s = s.size
      · have e1 : fieldS s ln σ = .error 3 := by unfold fieldS; rw [if_pos hn]
        rw [e1]
        exact (field_none q s ln W hn hs).mono fun e w' ⟨he, h1⟩ => ⟨he, h1.mono hbW⟩
      · cases σ with
        | shut L => exact field_shut q base L s ln W hR hn hs hbq hbW (tabs_later hT hW) (by have h3 : L.length ≤ 200 := hsm; omega)
        | opn Lp l0 Fp nm ls => exact field_opn q base Lp l0 Fp nm ls s ln W hR hn hs hbq hbW (tabs_later hT hW) (by have := hsm.1; omega) (by have := hsm.2.1; omega) hsm.2.2.2.1 hsm.2.2.2.2)
    have HE : Hid (takeS s ln σ = fieldS s ln σ) := Lib.hid (by rw [HNE.out, if_neg (by rw [hw]; simp)])
    clear hp hr h hsm hT hx hb hw HNE hs0
    go_enter Tryd.func25, Tryd.ntmps25
    go_wp2_with (first
      | (go_at_call 39; refine (HP.out _).mono ?_; rintro e w1 ⟨rfl, rfl⟩)
      | (go_at_call 31; refine (HTR.out _ (Below.refl _ _)).mono ?_; rintro e w2 ⟨rfl, hb2⟩; have HB2 := Lib.hid hb2; clear hb2)
      | (go_at_call 40; refine (HW.out _).mono ?_; rintro e w3 ⟨rfl, rfl⟩)
      | (go_at_call 42; refine (HF.out _ HB2.out).mono ?_; rintro e w4 h4; obtain ⟨v4, rfl⟩ : ∃ k4, e = .returned (.int .i64 k4) := fld_ret h4; have H4 := Lib.hid h4; clear h4))
    go_ret
    rw [HE.out]
    exact H4.out.after (HB2.out.mono hbw)
end Go.Proofs.YtjkaigfpjebfbaaDoor
