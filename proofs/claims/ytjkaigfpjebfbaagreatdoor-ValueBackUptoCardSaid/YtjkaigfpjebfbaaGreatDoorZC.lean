/- Put together: relation.Atom, chandlerref4.Atom; relation.Text; chandlerref4.Text; relation.Atoms, relation.Provides, chandlerref4.Singles, chandlerref4.Provided. -/
import Derived.Test.YtjkaigfpjebfbaaGreatDoorZB
import Derived.Deep.QuietTactic
/- relation.Atom, chandlerref4.Atom. -/
namespace Go.Proofs.YtjkaigfpjebfbaaGreatDoor
open Go.RowKit
set_option linter.unusedVariables false

theorem tob_app (a b : Rl.Bs) : Rl.tob (a ++ b) = Rl.tob a ++ Rl.tob b := by
  apply bl_inj
  show a ++ b = (Rl.tob a ++ Rl.tob b).data.toList
  simp [Rl.tob]
theorem atx_no {a : RA} (h : mayR a = false) : Rl.tob (atx a) = ⟨#[]⟩ := by unfold atx; rw [h]; rfl
theorem atx_any {a : RA} (h : mayR a = true) (hr : a.r = 0) : Rl.tob (atx a) = a.n := by unfold atx; rw [if_pos h, if_pos hr]; rfl
theorem atx_rel {a : RA} (h : mayR a = true) (hr : a.r ≠ 0) : Rl.tob (atx a) = a.n ++ ⟨#[32, 40]⟩ ++ sgnB a.r ++ ⟨#[32]⟩ ++ a.v ++ ⟨#[41]⟩ := by
  unfold atx
  rw [if_pos h, if_neg hr]
  simp only [tob_app]
  rfl
set_option maxRecDepth 100000 in
set_option maxHeartbeats 4000000 in
theorem Atom_any (a : RA) (w : World) (hn : a.n.size ≤ 1048576) (hv : a.v.size ≤ 1048576) :
    Calls Tryz.prog 52 #[atV a.n a.r a.v] w fun e w' => e = .returned (.string (Rl.tob (atx a))) ∧ Below w.heap.size w w' := by
  have HMY : Hid (∀ W, Calls Tryz.prog 51 #[atV a.n a.r a.v] W fun e w' => e = .returned (.bool (mayR a)) ∧ Below W.heap.size W w') := Lib.hid (fun W => may_any a.n a.r a.v W hn hv)
  have HSG : Hid (∀ W, Calls Tryz.prog 70 #[.int .i64 a.r] W fun e w' => e = .returned (.string (sgnB a.r)) ∧ w' = W) := Lib.hid (fun W => (Sign_any a.r W).mono fun e w' h => ⟨h.1, h.2.symm⟩)
  obtain ⟨A, hA⟩ : ∃ A, A = Rl.tob (atx a) := ⟨_, rfl⟩
  have H0 : Hid (mayR a = false → A = ⟨#[]⟩) := Lib.hid (fun h => by rw [hA]; exact atx_no h)
  have H1 : Hid (mayR a = true → a.r = 0 → A = a.n) := Lib.hid (fun h hr => by rw [hA]; exact atx_any h hr)
  have H2 : Hid (mayR a = true → a.r ≠ 0 → A = a.n ++ ⟨#[32, 40]⟩ ++ sgnB a.r ++ ⟨#[32]⟩ ++ a.v ++ ⟨#[41]⟩) := Lib.hid (fun h hr => by rw [hA]; exact atx_rel h hr)
  have H3 : Hid (mayR a = true → a.n.size ≤ 24 ∧ a.v.size ≤ 48) := Lib.hid (fun h => ⟨(mayR_len h).1, (mayR_len h).2.1⟩)
  have H4 : Hid ((sgnB a.r).size ≤ 2) := Lib.hid (sgnB_len _)
  rw [← hA]
  clear hA
  generalize sgnB a.r = sg at *
  generalize mayR a = m at *
  obtain ⟨n, r, v⟩ := a
  simp only at *
  have hb0 : Below w.heap.size w (w.alloc (.cells #[.string n, .int .i64 r, .string v] 87)) := (Below.refl _ _).alloc (Nat.le_refl _) _
  have hbk := Blk.new w 87 #[.string n, .int .i64 r, .string v]
  have HB0 := Lib.hid hb0
  have HBK := Lib.hid hbk
  clear hb0 hbk
  unfold atV at *
  go_enter Tryz.func52, Tryz.ntmps52
  cases m with
  | false =>
    go_wp2_with (go_at_call 51; refine (HMY.out _).mono ?_; rintro e w2 ⟨rfl, hb2⟩)
    go_ret
    exact ⟨by rw [H0.out (by first | rfl | trivial)]; rfl, HB0.out.trans (hb2.mono HB0.out.size)⟩
  | true =>
    have hz := H3.out (by first | rfl | trivial)
    have hz1 := hz.1
    have hz2 := hz.2
    have hsg := H4.out
    clear hz
    by_cases hr : r = 0
    · have q : (r == 0) = true := by rw [beq_iff_eq]; exact hr
      have HE := Lib.hid (H1.out (by first | rfl | trivial) hr)
      clear hr
      go_wp2_with (go_at_call 51; refine (HMY.out _).mono ?_; rintro e w2 ⟨rfl, hb2⟩; have hbk2 := HBK.out.below hb2 HBK.out.lt; have k0 : w2.cell? ⟨w.heap.size, 0, none⟩ = some (.string n) := hbk2.cell 0; have k1 : w2.cell? ⟨w.heap.size, 1, none⟩ = some (.int .i64 r) := hbk2.cell 1; have k2 : w2.cell? ⟨w.heap.size, 2, none⟩ = some (.string v) := hbk2.cell 2; have HB2 := Lib.hid (HB0.out.trans (hb2.mono HB0.out.size)); clear hb2 hbk2)
      go_ret
      exact ⟨by rw [HE.out]; rfl, HB2.out⟩
    · have q : (r == 0) = false := by rw [beq_eq_false_iff_ne]; exact hr
      have HE := Lib.hid (H2.out (by first | rfl | trivial) hr)
      clear hr
      go_wp2_with (go_at_call 51; refine (HMY.out _).mono ?_; rintro e w2 ⟨rfl, hb2⟩; have hbk2 := HBK.out.below hb2 HBK.out.lt; have k0 : w2.cell? ⟨w.heap.size, 0, none⟩ = some (.string n) := hbk2.cell 0; have k1 : w2.cell? ⟨w.heap.size, 1, none⟩ = some (.int .i64 r) := hbk2.cell 1; have k2 : w2.cell? ⟨w.heap.size, 2, none⟩ = some (.string v) := hbk2.cell 2; have HB2 := Lib.hid (HB0.out.trans (hb2.mono HB0.out.size)); clear hb2 hbk2)
      go_quiet ((go_at_call 70; exact Calls.quiet_of_same (HSG.out _)))
      go_wp2_with fail
      go_ret
      exact ⟨by rw [HE.out]; rfl, HB2.out.trans ⟨rfl, rfl, rfl, Nat.le_refl _, fun _ _ => rfl⟩⟩
set_option maxRecDepth 100000 in
set_option maxHeartbeats 4000000 in
theorem RAtom_any (a : RA) (w : World) (hn : a.n.size ≤ 1048576) (hv : a.v.size ≤ 1048576) :
    Calls Tryz.prog 55 #[atV a.n a.r a.v] w fun e w' => e = .returned (.string (Rl.tob (atx a))) ∧ Below w.heap.size w w' := by
  have HMY : Hid (∀ W, Calls Tryz.prog 54 #[atV a.n a.r a.v] W fun e w' => e = .returned (.bool (mayR a)) ∧ Below W.heap.size W w') := Lib.hid (fun W => rmay_any a.n a.r a.v W hn hv)
  have HSG : Hid (∀ W, Calls Tryz.prog 75 #[.int .i64 a.r] W fun e w' => e = .returned (.string (sgnB a.r)) ∧ w' = W) := Lib.hid (fun W => (RSign_any a.r W).mono fun e w' h => ⟨h.1, h.2.symm⟩)
  obtain ⟨A, hA⟩ : ∃ A, A = Rl.tob (atx a) := ⟨_, rfl⟩
  have H0 : Hid (mayR a = false → A = ⟨#[]⟩) := Lib.hid (fun h => by rw [hA]; exact atx_no h)
  have H1 : Hid (mayR a = true → a.r = 0 → A = a.n) := Lib.hid (fun h hr => by rw [hA]; exact atx_any h hr)
  have H2 : Hid (mayR a = true → a.r ≠ 0 → A = a.n ++ ⟨#[32, 40]⟩ ++ sgnB a.r ++ ⟨#[32]⟩ ++ a.v ++ ⟨#[41]⟩) := Lib.hid (fun h hr => by rw [hA]; exact atx_rel h hr)
  have H3 : Hid (mayR a = true → a.n.size ≤ 24 ∧ a.v.size ≤ 48) := Lib.hid (fun h => ⟨(mayR_len h).1, (mayR_len h).2.1⟩)
  have H4 : Hid ((sgnB a.r).size ≤ 2) := Lib.hid (sgnB_len _)
  rw [← hA]
  clear hA
  generalize sgnB a.r = sg at *
  generalize mayR a = m at *
  obtain ⟨n, r, v⟩ := a
  simp only at *
  have hb0 : Below w.heap.size w (w.alloc (.cells #[.string n, .int .i64 r, .string v] 87)) := (Below.refl _ _).alloc (Nat.le_refl _) _
  have hbk := Blk.new w 87 #[.string n, .int .i64 r, .string v]
  have HB0 := Lib.hid hb0
  have HBK := Lib.hid hbk
  clear hb0 hbk
  unfold atV at *
  go_enter Tryz.func55, Tryz.ntmps55
  cases m with
  | false =>
    go_wp2_with (go_at_call 54; refine (HMY.out _).mono ?_; rintro e w2 ⟨rfl, hb2⟩)
    go_ret
    exact ⟨by rw [H0.out (by first | rfl | trivial)]; rfl, HB0.out.trans (hb2.mono HB0.out.size)⟩
  | true =>
    have hz := H3.out (by first | rfl | trivial)
    have hz1 := hz.1
    have hz2 := hz.2
    have hsg := H4.out
    clear hz
    by_cases hr : r = 0
    · have q : (r == 0) = true := by rw [beq_iff_eq]; exact hr
      have HE := Lib.hid (H1.out (by first | rfl | trivial) hr)
      clear hr
      go_wp2_with (go_at_call 54; refine (HMY.out _).mono ?_; rintro e w2 ⟨rfl, hb2⟩; have hbk2 := HBK.out.below hb2 HBK.out.lt; have k0 : w2.cell? ⟨w.heap.size, 0, none⟩ = some (.string n) := hbk2.cell 0; have k1 : w2.cell? ⟨w.heap.size, 1, none⟩ = some (.int .i64 r) := hbk2.cell 1; have k2 : w2.cell? ⟨w.heap.size, 2, none⟩ = some (.string v) := hbk2.cell 2; have HB2 := Lib.hid (HB0.out.trans (hb2.mono HB0.out.size)); clear hb2 hbk2)
      go_ret
      exact ⟨by rw [HE.out]; rfl, HB2.out⟩
    · have q : (r == 0) = false := by rw [beq_eq_false_iff_ne]; exact hr
      have HE := Lib.hid (H2.out (by first | rfl | trivial) hr)
      clear hr
      go_wp2_with (go_at_call 54; refine (HMY.out _).mono ?_; rintro e w2 ⟨rfl, hb2⟩; have hbk2 := HBK.out.below hb2 HBK.out.lt; have k0 : w2.cell? ⟨w.heap.size, 0, none⟩ = some (.string n) := hbk2.cell 0; have k1 : w2.cell? ⟨w.heap.size, 1, none⟩ = some (.int .i64 r) := hbk2.cell 1; have k2 : w2.cell? ⟨w.heap.size, 2, none⟩ = some (.string v) := hbk2.cell 2; have HB2 := Lib.hid (HB0.out.trans (hb2.mono HB0.out.size)); clear hb2 hbk2)
      go_quiet ((go_at_call 75; exact Calls.quiet_of_same (HSG.out _)))
      go_wp2_with fail
      go_ret
      exact ⟨by rw [HE.out]; rfl, HB2.out.trans ⟨rfl, rfl, rfl, Nat.le_refl _, fun _ _ => rfl⟩⟩
end Go.Proofs.YtjkaigfpjebfbaaGreatDoor
/- relation.Text. -/
namespace Go.Proofs.YtjkaigfpjebfbaaGreatDoor
open Go.RowKit
set_option linter.unusedVariables false

theorem joinTail_le (sep : List UInt8) (m : Nat) : ∀ (r : List (List UInt8)), (∀ x ∈ r, x.length ≤ m) → (Lib.joinTail sep r).length ≤ r.length * (sep.length + m)
  | [], h => Nat.zero_le _
  | x :: r, h => by
    have h1 := joinTail_le sep m r (fun y hy => h y (.tail _ hy))
    have h2 := h x (.head _)
    have e : (Lib.joinTail sep (x :: r)).length = sep.length + x.length + (Lib.joinTail sep r).length := by unfold Lib.joinTail; simp [Nat.add_assoc]
    rw [e, List.length_cons, Nat.succ_mul]
    omega
theorem join_le (sep : List UInt8) (m : Nat) (r : List (List UInt8)) (h : ∀ x ∈ r, x.length ≤ m) : (Lib.join r sep).length ≤ r.length * (sep.length + m) := by
  cases r with
  | nil => exact Nat.zero_le _
  | cons x r =>
    rw [Lib.join_cons, List.length_append, List.length_cons, Nat.succ_mul]
    have h1 := joinTail_le sep m r (fun y hy => h y (.tail _ hy))
    have h2 := h x (.head _)
    omega
theorem ctx_len {c : List RA} (h : c.length ≤ 6) : (ctx c).length ≤ 486 := by
  have := join_le [32, 124, 32] 78 (c.map atx) (fun x hx => by
    obtain ⟨a, _, rfl⟩ := List.mem_map.1 hx
    exact atx_len a)
  rw [List.length_map] at this
  unfold ctx
  refine Nat.le_trans this ?_
  have : c.length * (3 + 78) ≤ 6 * (3 + 78) := Nat.mul_le_mul_right _ h
  exact this
theorem okC_len {c : List RA} (h : okC c = true) : 1 ≤ c.length ∧ c.length ≤ 6 ∧ ∀ a ∈ c, mayR a = true := by
  unfold okC at h
  simp only [Bool.and_eq_true, decide_eq_true_eq, List.all_eq_true] at h
  exact ⟨h.1.1, h.1.2, h.2⟩
theorem okL_len {L : List (List RA)} (h : okL L = true) : L.length ≤ 12 ∧ ∀ c ∈ L, okC c = true := by
  unfold okL at h
  simp only [Bool.and_eq_true, decide_eq_true_eq, List.all_eq_true] at h
  exact h
theorem ltx_len (L : List (List RA)) : (ltx L).length ≤ 6000 := by
  unfold ltx
  split
  · next h =>
    have h9 := okL_len h
    have := join_le [44, 32] 486 (L.map ctx) (fun x hx => by
      obtain ⟨c, hc, rfl⟩ := List.mem_map.1 hx
      exact ctx_len (okC_len (h9.2 c hc)).2.1)
    rw [List.length_map] at this
    have h2 : L.length * 488 ≤ 12 * 488 := Nat.mul_le_mul_right _ h9.1
    have h3 : (Lib.join (L.map ctx) [44, 32]).length ≤ L.length * 488 := this
    omega
  · exact Nat.zero_le _
theorem join_any {w : World} {base c : Nat} {A : Option Addr} (xs : List Rl.Bs) (sep : ByteArray) (n : Nat) (hn : xs.length = n) (h : w.ownsRow base 9 1 (.slice A n c) n (xs.map (fun x => Value.string (Rl.tob x)))) (hN : n ≤ 1000) (hlen : (Lib.join xs (bl sep)).length ≤ 1048576) :
    Calls Tryz.prog 53 #[.slice A n c, .string sep] w fun e w' => e = .returned (.string (Rl.tob (Lib.join xs (bl sep)))) ∧ Below w.heap.size w w' := by
  subst hn
  rcases h.2 with ⟨h9, h8⟩ | ⟨g, cap, cur, h9, hg, hh, hle, _⟩
  · have e : xs = [] := List.eq_nil_of_length_eq_zero h8
    subst e
    exact (Tryz.strings_Join_none A c sep w).mono fun e w' ⟨he, hw⟩ => ⟨he, by rw [hw]; exact Below.refl _ _⟩
  · injection h9 with h1 h2 h3
    subst h1 h3
    have hj := Tryz.strings_Join g 0 c (xs.map Rl.tob) sep w (fun j x hx => by
      have hjl : j < xs.length := by
        have := (List.getElem?_eq_some_iff.1 hx).1
        simpa using this
      rw [Nat.zero_add, h.cellAt j (by omega)]
      rw [List.getElem?_map] at hx ⊢
      rw [List.getElem?_eq_getElem hjl] at hx ⊢
      injection hx with hx
      rw [← hx]; rfl) (Blk.lt hh) (by rw [List.length_map]; omega) (by rw [List.length_map]; exact hle) (by
        have e : (xs.map Rl.tob).map (fun x => x.data.toList) = xs := by rw [List.map_map]; exact List.map_id' _
        rw [e]
        exact Nat.le_trans hlen (by omega))
    rw [List.length_map] at hj
    have e : (xs.map Rl.tob).map (fun x => x.data.toList) = xs := by rw [List.map_map]; exact List.map_id' _
    rw [e] at hj
    exact hj
theorem ltx_bad {L : List (List RA)} (h : okL L = false) : Rl.tob (ltx L) = ⟨#[]⟩ := by unfold ltx; rw [h]; rfl
theorem okL_at {L : List (List RA)} {j : Nat} (hj : j < L.length) (h : okC L[j] = false) : okL L = false := by
  cases h9 : okL L with
  | false => rfl
  | true => rw [(okL_len h9).2 _ (List.getElem_mem hj)] at h; cases h
theorem okC_at {c : List RA} {j : Nat} (hj : j < c.length) (h : mayR c[j] = false) : okC c = false := by
  cases h9 : okC c with
  | false => rfl
  | true => rw [(okC_len h9).2.2 _ (List.getElem_mem hj)] at h; cases h
theorem okL_all {L : List (List RA)} (hl : L.length ≤ 12) (h : ∀ j (hj : j < L.length), okC L[j] = true) : okL L = true := by
  unfold okL
  rw [decide_eq_true hl, Bool.true_and, List.all_eq_true]
  intro c hc
  obtain ⟨j, hj, rfl⟩ := List.mem_iff_getElem.1 hc
  exact h j hj
theorem okC_all {c : List RA} (h1 : 1 ≤ c.length) (h6 : c.length ≤ 6) (h : ∀ j (hj : j < c.length), mayR c[j] = true) : okC c = true := by
  unfold okC
  rw [decide_eq_true h1, decide_eq_true h6, Bool.true_and, Bool.true_and, List.all_eq_true]
  intro a ha
  obtain ⟨j, hj, rfl⟩ := List.mem_iff_getElem.1 ha
  exact h j hj
theorem own_later {w w' : World} {base : Nat} {e : TypeId} {size n : Nat} {v : Value} {xs : List Value} (h : w.ownsRow base e size v n xs) (hb : Below w.heap.size w w') : w'.ownsRow base e size v n xs := by
  refine ⟨h.1, ?_⟩
  rcases h.2 with h2 | ⟨g, cap, cur, hv, hg, hh, h3⟩
  · exact .inl h2
  · exact .inr ⟨g, cap, cur, hv, hg, (hb.block g (Blk.lt hh)).trans hh, h3⟩
theorem take_map_succ {α β : Type} (f : α → β) (L : List α) (i : Nat) (hi : i < L.length) : (L.take (i + 1)).map f = (L.take i).map f ++ [f L[i]] := by
  rw [List.take_succ_eq_append_getElem hi, List.map_append]; rfl
set_option maxRecDepth 100000 in
set_option maxHeartbeats 16000000 in
theorem RelText_any (v : Value) (L : List (List RA)) (w : World) (h : ClsAt w v L) (hsz : ∀ c ∈ L, ∀ a ∈ c, a.n.size ≤ 1048576 ∧ a.v.size ≤ 1048576) :
    Calls Tryz.prog 30 #[v] w fun e w' => e = .returned (.string (Rl.tob (ltx L))) ∧ Below w.heap.size w w' := by
  obtain ⟨i0, hi0, hz0, hz1, hz2⟩ := info_parts str_row
  obtain ⟨A, cA, rfl, hcA, hA⟩ := h
  obtain ⟨X, hX⟩ : ∃ X, X = Rl.tob (ltx L) := ⟨_, rfl⟩
  have HBAD : Hid (∀ j (h : j < L.length), okC L[j] = false → X = ⟨#[]⟩) := Lib.hid (fun j hj h => by rw [hX]; exact ltx_bad (okL_at hj h))
  have HMANY : Hid (12 < L.length → X = ⟨#[]⟩) := Lib.hid (fun h => by rw [hX]; exact ltx_bad (by unfold okL; rw [decide_eq_false (by omega)]; rfl))
  have HOK : Hid (L.length ≤ 12 → (∀ j (h : j < L.length), okC L[j] = true) → X = Rl.tob (Lib.join (L.map ctx) [44, 32]) ∧ (Lib.join (L.map ctx) [44, 32]).length ≤ 6000) := Lib.hid (fun h1 h2 => by
    have h9 := ltx_len L
    have e : ltx L = Lib.join (L.map ctx) [44, 32] := by unfold ltx; rw [if_pos (okL_all h1 h2)]
    rw [e] at hX h9
    exact ⟨hX, h9⟩)
  rw [← hX]
  obtain ⟨n, hn⟩ : ∃ n, n = L.length := ⟨_, rfl⟩
  rw [← hn]
  have HN := Lib.hid hn
  have HA := Lib.hid hA
  have HSZ := Lib.hid hsz
  clear hX hn hA hsz hcA
  go_enter Tryz.func30, Tryz.ntmps30
  by_cases h12 : n ≤ 12
  case neg =>
    have q : (12 : Int) < (n : Int) := by omega
    have HR := Lib.hid (HMANY.out (by rw [← HN.out]; omega))
    clear h12
    go_wp2_with fail
    go_ret
    exact ⟨by rw [HR.out]; rfl, Below.refl _ _⟩
  have q : ¬ (12 : Int) < (n : Int) := by omega
  go_wp2_with fail
  go_loopw [3, 14] (fun u t wr => ∃ (i co : Nat) (Ao : Option Addr), u = .slice Ao i co ∧ t = .int .i64 (i : Int) ∧ i ≤ n ∧ Hid (wr.ownsRow w.heap.size 9 1 (.slice Ao i co) i ((L.take i).map (fun c => Value.string (Rl.tob (ctx c))))) ∧ Hid (∀ j (h : j < L.length), j < i → okC L[j] = true) ∧ Hid (Below w.heap.size w wr)) (fun _ t _ => n - (match t with | .int _ x => x.toNat | _ => 0))
  case atStart => exact ⟨0, 0, none, rfl, rfl, Nat.zero_le _, Lib.hid (World.ownsRow_nil _ _ _ _), Lib.hid (fun j _ hj => by omega), Lib.hid (Below.refl _ _)⟩
  case round =>
    obtain ⟨i, co, Ao, rfl, rfl, hi, HO, HI, HB⟩ := hrel
    by_cases hlt : i < n
    case neg =>
      have hin : i = n := by omega
      have hok := HOK.out (by have := HN.out; omega) (fun j hj => HI.out j hj (by have := HN.out; omega))
      have HR := Lib.hid hok.1
      have hrow : wr.ownsRow w.heap.size 9 1 (.slice Ao i co) i ((L.map ctx).map (fun x => Value.string (Rl.tob x))) := by
        have := HO.out
        rw [List.take_of_length_le (by have := HN.out; omega)] at this
        rw [List.map_map]; exact this
      have HJ := Lib.hid (join_any (L.map ctx) ⟨#[44, 32]⟩ i (by rw [List.length_map]; have := HN.out; omega) hrow (by omega) (Nat.le_trans hok.2 (by omega)))
      have hnn : ¬ (i : Int) < (n : Int) := by omega
      clear hok hrow hin
      go_wp2_with (go_at_call 53; refine HJ.out.mono ?_; rintro e w2 ⟨rfl, hb2⟩)
      go_ret
      exact ⟨by rw [HR.out]; rfl, HB.out.trans (hb2.mono HB.out.size)⟩
    obtain ⟨g, o, V, e1, a1, hats⟩ := HA.out i (by have := HN.out; omega)
    obtain ⟨B, cB, hV, hcB, hB⟩ := hats
    subst e1
    have hil : i < L.length := by have := HN.out; omega
    have hok := HBAD.out i hil
    have hczs := HSZ.out (L[i]'hil) (List.getElem_mem hil)
    have htk := take_map_succ (fun c => Value.string (Rl.tob (ctx c))) L i (by have := HN.out; omega)
    obtain ⟨c, hc⟩ : ∃ c, c = L[i]'(by have := HN.out; omega) := ⟨_, rfl⟩
    rw [← hc] at hok hczs hV hB htk
    have hi1 : ∀ j (h : j < L.length), okC c = true → j < i + 1 → okC L[j] = true := fun j h h9 hj => by
      by_cases e : j = i
      · subst e; rw [← hc]; exact h9
      · exact HI.out j h (by omega)
    have HI1 := Lib.hid hi1
    have HBD := Lib.hid hok
    have HCS := Lib.hid hczs
    have HTK := Lib.hid htk
    obtain ⟨k, hk⟩ : ∃ k, k = c.length := ⟨_, rfl⟩
    rw [← hk] at hV
    rw [hV] at a1
    have ka := (HB.out.cell (World.block_lt_of_cell? w _ a1)).trans a1
    have HK := Lib.hid hk
    have HBB := Lib.hid hB
    have hln : (i : Int) < (n : Int) := by omega
    clear hok hczs htk hc hil hi1 hk hV a1 hB hcB
    by_cases hk1 : 1 ≤ k
    case neg =>
      have q0 : ((k : Int) == 0) = true := by rw [beq_iff_eq]; omega
      have HR := Lib.hid (HBD.out (by unfold okC; rw [← HK.out, decide_eq_false (by omega)]; rfl))
      clear hk1
      go_wp2_with fail
      go_ret
      exact ⟨by rw [HR.out]; rfl, HB.out⟩
    have q0 : ((k : Int) == 0) = false := by rw [beq_eq_false_iff_ne]; omega
    by_cases hk6 : k ≤ 6
    case neg =>
      have q6 : decide ((6 : Int) < (k : Int)) = true := decide_eq_true (by omega)
      have HR := Lib.hid (HBD.out (by unfold okC; rw [← HK.out, decide_eq_false hk6]; simp))
      clear hk1 hk6
      go_wp2_with fail
      go_ret
      exact ⟨by rw [HR.out]; rfl, HB.out⟩
    have q6 : decide ((6 : Int) < (k : Int)) = false := decide_eq_false (by omega)
    go_wp2_with fail
    clear ka
    obtain ⟨wo, rfl⟩ : ∃ wo : World, wo = wr := ⟨_, rfl⟩
    go_loopw [6, 28] (fun u t wr => ∃ (j bo : Nat) (Bo : Option Addr), u = .slice Bo j bo ∧ t = .int .i64 (j : Int) ∧ j ≤ k ∧ Hid (wr.ownsRow wo.heap.size 9 1 (.slice Bo j bo) j ((c.take j).map (fun a => Value.string (Rl.tob (atx a))))) ∧ Hid (∀ m (h : m < c.length), m < j → mayR c[m] = true) ∧ Hid (Below wo.heap.size wo wr)) (fun _ t _ => k - (match t with | .int _ x => x.toNat | _ => 0))
    case atStart => exact ⟨0, 0, none, rfl, rfl, Nat.zero_le _, Lib.hid (World.ownsRow_nil _ _ _ _), Lib.hid (fun j _ hj => by omega), Lib.hid (Below.refl _ _)⟩
    case round =>
      obtain ⟨j, bo, Bo, rfl, rfl, hj, HOI, HMI, HBI⟩ := hrel
      by_cases hjk : j < k
      case neg =>
        have hcok := okC_all (c := c) (by have := HK.out; omega) (by have := HK.out; omega) (fun m hm => HMI.out m hm (by have := HK.out; omega))
        have HI2 := Lib.hid (fun j h hj => HI1.out j h hcok hj)
        have hrow : wr.ownsRow wo.heap.size 9 1 (.slice Bo j bo) j ((c.map atx).map (fun x => Value.string (Rl.tob x))) := by
          have := HOI.out
          rw [List.take_of_length_le (by have := HK.out; omega)] at this
          rw [List.map_map]; exact this
        have hJ := join_any (c.map atx) ⟨#[32, 124, 32]⟩ j (by rw [List.length_map]; have := HK.out; omega) hrow (by omega) (Nat.le_trans (ctx_len (by have := HK.out; omega)) (by omega))
        have hJ2 : Calls Tryz.prog 53 #[.slice Bo j bo, .string ⟨#[32, 124, 32]⟩] wr fun e w' => e = .returned (.string (Rl.tob (ctx c))) ∧ Below wr.heap.size wr w' := hJ
        obtain ⟨Y, hY⟩ : ∃ Y, Y = Rl.tob (ctx c) := ⟨_, rfl⟩
        rw [← hY] at hJ2
        have HTK2 : Hid ((L.take (i + 1)).map (fun c => Value.string (Rl.tob (ctx c))) = (L.take i).map (fun c => Value.string (Rl.tob (ctx c))) ++ [Value.string Y]) := Lib.hid (by rw [hY]; exact HTK.out)
        have HJ := Lib.hid hJ2
        have hjn : ¬ (j : Int) < (k : Int) := by omega
        have hwz := HB.out.size
        have hwz1 := HBI.out.size
        clear hcok hrow hJ hJ2 hY
        go_wp2_with (first
          | (go_at_call 53; refine HJ.out.mono ?_; rintro e w2 ⟨rfl, hb2⟩; have HB2 := Lib.hid (HBI.out.trans (hb2.mono HBI.out.size)); have HO2 := Lib.hid (own_later HO.out HB2.out); have hw2 := hb2.size; clear hb2)
          | (at_builtin; refine wpList_append_any _ rfl (.tmp 41) (.tmp 44) 93 rfl w.heap.size 9 i0 _ 1 16 Tryz.underlying93 hi0 hz0 hz1 hz2 rfl (by decide) _ i _ rfl (HO2.out.alloc _) (w2.heap.size + 1) (some ⟨w2.heap.size, 0, none⟩) 1 1 [.string Y] rfl (reads_one (Blk.new w2 _ _) (by simp)) (fun u hu => by simp at hu; subst hu; rfl) (by unfold maxLen; omega) (by omega) (by simp; omega) ?_; intro v5 w5 hown5 hg5 hat5; have hup5 : Upd (fun j => (Value.slice Ao i co).ownBlock = some j) w2 w5 := ((Upd.refl _ w2).alloc _).grown hg5 (fun j hj => .inl hj); have HB5 := Lib.hid ((HB.out.trans (HB2.out.mono HB.out.size)).trans (hup5.below (fun j hj => (own_is HO2.out hj).1) (by omega))); obtain ⟨A5, c5, rfl⟩ := own_shape hown5; have HOW5 := Lib.hid hown5; clear hown5 hg5 hat5 hup5))
        refine ⟨⟨i + 1, c5, A5, rfl, by go_num, by omega, Lib.hid (by rw [HTK2.out]; exact HOW5.out), HI2, HB5⟩, ?_⟩
        show n - ((i : Int) + 1).toNat < n - (i : Int).toNat
        omega
      obtain ⟨b2, o2, e2, a4, a5, a6⟩ := HBB.out j (by have := HK.out; omega)
      subst e2
      have hjl0 : j < c.length := by have := HK.out; omega
      have hasz := HCS.out (c[j]'hjl0) (List.getElem_mem hjl0)
      have hmb := fun (hh : mayR c[j] = false) => HBD.out (okC_at hjl0 hh)
      have htk := take_map_succ (fun a => Value.string (Rl.tob (atx a))) c j (by have := HK.out; omega)
      obtain ⟨a, ha⟩ : ∃ a, a = c[j]'(by have := HK.out; omega) := ⟨_, rfl⟩
      rw [← ha] at hasz hmb htk a4 a5 a6
      have hm1 : mayR a = true → ∀ m (h : m < c.length), m < j + 1 → mayR c[m] = true := fun h9 m h hm => by
        by_cases e : m = j
        · subst e; rw [← ha]; exact h9
        · exact HMI.out m h (by omega)
      have HM1 := Lib.hid hm1
      have hbz : Below w.heap.size w wr := HB.out.trans (HBI.out.mono HB.out.size)
      have ka := (hbz.cell (World.block_lt_of_cell? w _ a4)).trans a4
      have kb := (hbz.cell (World.block_lt_of_cell? w _ a5)).trans a5
      have kc := (hbz.cell (World.block_lt_of_cell? w _ a6)).trans a6
      have HMAY : Hid (∀ W, Calls Tryz.prog 51 #[.agg #[.string a.n, .int .i64 a.r, .string a.v]] W fun e w' => e = .returned (.bool (mayR a)) ∧ Below W.heap.size W w') := Lib.hid (fun W => may_any a.n a.r a.v W hasz.1 hasz.2)
      have HATM : Hid (∀ W, Calls Tryz.prog 52 #[.agg #[.string a.n, .int .i64 a.r, .string a.v]] W fun e w' => e = .returned (.string (Rl.tob (atx a))) ∧ Below W.heap.size W w') := Lib.hid (fun W => Atom_any a W hasz.1 hasz.2)
      obtain ⟨Y, hY⟩ : ∃ Y, Y = Rl.tob (atx a) := ⟨_, rfl⟩
      rw [← hY] at HATM htk
      have HTK2 := Lib.hid htk
      have HMB := Lib.hid hmb
      obtain ⟨my, hmy⟩ : ∃ my, my = mayR a := ⟨_, rfl⟩
      rw [← hmy] at HMB HMAY HM1
      obtain ⟨an, ar, av⟩ := a
      simp only at ka kb kc HMAY HATM
      have hjl : (j : Int) < (k : Int) := by omega
      have hbk := Blk.new wr 87 #[.string an, .int .i64 ar, .string av]
      have HBK := Lib.hid hbk
      have HBZ := Lib.hid hbz
      have hba : Below wr.heap.size wr (wr.alloc (.cells #[.string an, .int .i64 ar, .string av] 87)) := (Below.refl _ _).alloc (Nat.le_refl _) _
      have HBA := Lib.hid hba
      have hwz := HB.out.size
      have hwz1 := HBI.out.size
      clear hjl0 a4 a5 a6 hasz hmb htk ha hm1 hY hmy hbk hbz hba
      cases my with
      | false =>
        have HR := Lib.hid (HMB.out rfl)
        go_wp2_with (go_at_call 51; refine (HMAY.out _).mono ?_; rintro e w2 ⟨rfl, hb2⟩)
        go_ret
        exact ⟨by rw [HR.out]; rfl, HBZ.out.trans ((HBA.out.trans (hb2.mono HBA.out.size)).mono HBZ.out.size)⟩
      | true =>
        have HM2 := Lib.hid (HM1.out rfl)
        clear HMB HM1
        go_wp2_with (first
          | (go_at_call 51; refine (HMAY.out _).mono ?_; rintro e w2 ⟨rfl, hb2⟩; have hbk2 := HBK.out.below hb2 HBK.out.lt; have k0 : w2.cell? ⟨wr.heap.size, 0, none⟩ = some (.string an) := hbk2.cell 0; have k1 : w2.cell? ⟨wr.heap.size, 1, none⟩ = some (.int .i64 ar) := hbk2.cell 1; have k2 : w2.cell? ⟨wr.heap.size, 2, none⟩ = some (.string av) := hbk2.cell 2; have HB2 := Lib.hid (HBA.out.trans (hb2.mono HBA.out.size)); clear hb2 hbk2)
          | (go_at_call 52; refine (HATM.out _).mono ?_; rintro e w3 ⟨rfl, hb3⟩; have HB3 := Lib.hid (HB2.out.trans (hb3.mono HB2.out.size)); have HO3 := Lib.hid (own_later HOI.out HB3.out); have hw3 := HB3.out.size; clear hb3)
          | (at_builtin; refine wpList_append_any _ rfl (.tmp 35) (.tmp 38) 93 rfl wo.heap.size 9 i0 _ 1 16 Tryz.underlying93 hi0 hz0 hz1 hz2 rfl (by decide) _ j _ rfl (HO3.out.alloc _) (w3.heap.size + 1) (some ⟨w3.heap.size, 0, none⟩) 1 1 [.string Y] rfl (reads_one (Blk.new w3 _ _) (by simp)) (fun u hu => by simp at hu; subst hu; rfl) (by unfold maxLen; omega) (by omega) (by simp; omega) ?_; intro v5 w5 hown5 hg5 hat5; have hup5 : Upd (fun m => (Value.slice Bo j bo).ownBlock = some m) w3 w5 := ((Upd.refl _ w3).alloc _).grown hg5 (fun m hm => .inl hm); have HB5 := Lib.hid ((HBI.out.trans (HB3.out.mono HBI.out.size)).trans (hup5.below (fun m hm => (own_is HO3.out hm).1) (by omega))); obtain ⟨A5, c5, rfl⟩ := own_shape hown5; have HOW5 := Lib.hid hown5; clear hown5 hg5 hat5 hup5))
        refine ⟨⟨j + 1, c5, A5, rfl, by go_num, by omega, Lib.hid (by rw [HTK2.out]; exact HOW5.out), HM2, HB5⟩, ?_⟩
        show k - ((j : Int) + 1).toNat < k - (j : Int).toNat
        omega
end Go.Proofs.YtjkaigfpjebfbaaGreatDoor
/- chandlerref4.Text. -/
namespace Go.Proofs.YtjkaigfpjebfbaaGreatDoor
open Go.RowKit
set_option linter.unusedVariables false

theorem join_snoc (sep x : List UInt8) (xs : List (List UInt8)) : Lib.join (xs ++ [x]) sep = (if xs = [] then [] else Lib.join xs sep ++ sep) ++ x := by
  cases xs with
  | nil => simp [Lib.join_one]
  | cons y r =>
    rw [if_neg (by simp), List.cons_append, Lib.join_cons, Lib.join_cons]
    unfold Lib.joinTail
    simp
/-- The text ahead of a row's next part. -/
def ahd (sep : Rl.Bs) (xs : List Rl.Bs) : Rl.Bs := if xs = [] then [] else Lib.join xs sep ++ sep
theorem tob_size' (l : Rl.Bs) : (Rl.tob l).size = l.length := rfl
set_option maxRecDepth 100000 in
set_option maxHeartbeats 16000000 in
theorem RText_any (v : Value) (L : List (List RA)) (w : World) (h : ClsAt w v L) (hsz : ∀ c ∈ L, ∀ a ∈ c, a.n.size ≤ 1048576 ∧ a.v.size ≤ 1048576) :
    Calls Tryz.prog 33 #[v] w fun e w' => e = .returned (.string (Rl.tob (ltx L))) ∧ Below w.heap.size w w' := by
  obtain ⟨A, cA, rfl, hcA, hA⟩ := h
  obtain ⟨X, hX⟩ : ∃ X, X = Rl.tob (ltx L) := ⟨_, rfl⟩
  have HBAD : Hid (∀ j (h : j < L.length), okC L[j] = false → X = ⟨#[]⟩) := Lib.hid (fun j hj h => by rw [hX]; exact ltx_bad (okL_at hj h))
  have HMANY : Hid (12 < L.length → X = ⟨#[]⟩) := Lib.hid (fun h => by rw [hX]; exact ltx_bad (by unfold okL; rw [decide_eq_false (by omega)]; rfl))
  have HOK : Hid (L.length ≤ 12 → (∀ j (h : j < L.length), okC L[j] = true) → X = Rl.tob (Lib.join (L.map ctx) [44, 32])) := Lib.hid (fun h1 h2 => by
    rw [hX]
    have e : ltx L = Lib.join (L.map ctx) [44, 32] := by unfold ltx; rw [if_pos (okL_all h1 h2)]
    rw [e])
  rw [← hX]
  obtain ⟨n, hn⟩ : ∃ n, n = L.length := ⟨_, rfl⟩
  rw [← hn]
  have HN := Lib.hid hn
  have HA := Lib.hid hA
  have HSZ := Lib.hid hsz
  clear hX hn hA hsz hcA
  go_enter Tryz.func33, Tryz.ntmps33
  by_cases h12 : n ≤ 12
  case neg =>
    have q : (12 : Int) < (n : Int) := by omega
    have HR := Lib.hid (HMANY.out (by rw [← HN.out]; omega))
    clear h12
    go_wp2_with fail
    go_ret
    exact ⟨by rw [HR.out]; rfl, Below.refl _ _⟩
  have q : ¬ (12 : Int) < (n : Int) := by omega
  go_wp2_with fail
  go_loopw [3, 13] (fun u t wr => ∃ (i : Nat) (S : ByteArray), u = .string S ∧ t = .int .i64 (i : Int) ∧ i ≤ n ∧ S.size ≤ 600 * i ∧ Hid (S = Rl.tob (Lib.join ((L.take i).map ctx) [44, 32])) ∧ Hid (∀ j (h : j < L.length), j < i → okC L[j] = true) ∧ Hid (Below w.heap.size w wr)) (fun _ t _ => n - (match t with | .int _ x => x.toNat | _ => 0))
  case atStart => exact ⟨0, ⟨#[]⟩, rfl, rfl, Nat.zero_le _, Nat.zero_le _, Lib.hid rfl, Lib.hid (fun j _ hj => by omega), Lib.hid (Below.refl _ _)⟩
  case round =>
    obtain ⟨i, S, rfl, rfl, hi, hS6, HS, HI, HB⟩ := hrel
    by_cases hlt : i < n
    case neg =>
      have hok := HOK.out (by have := HN.out; omega) (fun j hj => HI.out j hj (by have := HN.out; omega))
      have HR : Hid (X = S) := Lib.hid (by rw [hok, HS.out, List.take_of_length_le (by have := HN.out; omega)])
      have hnn : ¬ (i : Int) < (n : Int) := by omega
      clear hok
      go_wp2_with fail
      go_ret
      exact ⟨by rw [HR.out]; rfl, HB.out⟩
    obtain ⟨g, o, V, e1, a1, hats⟩ := HA.out i (by have := HN.out; omega)
    obtain ⟨B, cB, hV, hcB, hB⟩ := hats
    subst e1
    have hil : i < L.length := by have := HN.out; omega
    have hok := HBAD.out i hil
    have hczs := HSZ.out (L[i]'hil) (List.getElem_mem hil)
    have htk := take_map_succ ctx L i hil
    obtain ⟨c, hc⟩ : ∃ c, c = L[i]'(by have := HN.out; omega) := ⟨_, rfl⟩
    rw [← hc] at hok hczs hV hB htk
    have hi1 : ∀ j (h : j < L.length), okC c = true → j < i + 1 → okC L[j] = true := fun j h h9 hj => by
      by_cases e : j = i
      · subst e; rw [← hc]; exact h9
      · exact HI.out j h (by omega)
    have HI1 := Lib.hid hi1
    have HBD := Lib.hid hok
    have HCS := Lib.hid hczs
    have HNX : Hid (Rl.tob (Lib.join ((L.take (i + 1)).map ctx) [44, 32]) = Rl.tob (ahd [44, 32] ((L.take i).map ctx) ++ ctx c)) := Lib.hid (by rw [htk, join_snoc]; rfl)
    obtain ⟨k, hk⟩ : ∃ k, k = c.length := ⟨_, rfl⟩
    rw [← hk] at hV
    rw [hV] at a1
    have ka := (HB.out.cell (World.block_lt_of_cell? w _ a1)).trans a1
    have HK := Lib.hid hk
    have HBB := Lib.hid hB
    have hln : (i : Int) < (n : Int) := by omega
    clear hok hczs htk hc hil hi1 hk hV a1 hB hcB
    by_cases hi00 : i = 0
    · have i0 : ¬ (0 : Int) < (i : Int) := by omega
      have HP0 : Hid (S = Rl.tob (ahd [44, 32] ((L.take i).map ctx))) := Lib.hid (by
        have hz : (L.take i).map ctx = [] ↔ i = 0 := by rw [List.map_eq_nil_iff, List.take_eq_nil_iff]; constructor; { rintro (h | h); { exact h }; { have := HN.out; rw [h] at this; simp at this; omega } }; { exact fun h => .inl h }
        unfold ahd
        rw [HS.out, (hz.2 (by omega)), if_pos rfl]; rfl)
      clear hi00
      by_cases hk1 : 1 ≤ k
      case neg =>
        have q0 : ((k : Int) == 0) = true := by rw [beq_iff_eq]; omega
        have HR := Lib.hid (HBD.out (by unfold okC; rw [← HK.out, decide_eq_false (by omega)]; rfl))
        clear hk1
        go_wp2_with fail
        go_ret
        exact ⟨by rw [HR.out]; rfl, HB.out⟩
      have q0 : ((k : Int) == 0) = false := by rw [beq_eq_false_iff_ne]; omega
      by_cases hk6 : k ≤ 6
      case neg =>
        have q6 : decide ((6 : Int) < (k : Int)) = true := decide_eq_true (by omega)
        have HR := Lib.hid (HBD.out (by unfold okC; rw [← HK.out, decide_eq_false hk6]; simp))
        clear hk1 hk6
        go_wp2_with fail
        go_ret
        exact ⟨by rw [HR.out]; rfl, HB.out⟩
      have q6 : decide ((6 : Int) < (k : Int)) = false := decide_eq_false (by omega)
      go_wp2_with fail
      obtain ⟨P, hP⟩ : ∃ P, P = S := ⟨_, rfl⟩
      have hPs : P.size ≤ 600 * i + 2 := by rw [hP]; omega
      have hsp := hP.symm; subst hsp
      obtain ⟨P0, hP0⟩ : ∃ P0, P0 = ahd [44, 32] ((L.take i).map ctx) := ⟨_, rfl⟩
      have HP := HP0.out
      rw [← hP0] at HP
      have HNX2 := HNX.out
      rw [← hP0] at HNX2
      have HPH := Lib.hid HP
      have HNXH := Lib.hid HNX2
      clear ka HP0 HNX HP HNX2 hP0
      obtain ⟨wo, rfl⟩ : ∃ wo : World, wo = wr := ⟨_, rfl⟩
      go_loopw [3, 32] (fun u t wr => ∃ (j : Nat) (S2 : ByteArray), u = .string S2 ∧ t = .int .i64 (j : Int) ∧ j ≤ k ∧ S2.size ≤ 600 * i + 2 + 90 * j ∧ Hid (S2 = Rl.tob (P0 ++ Lib.join ((c.take j).map atx) [32, 124, 32])) ∧ Hid (∀ m (h : m < c.length), m < j → mayR c[m] = true) ∧ Hid (Below w.heap.size w wr)) (fun _ t _ => k - (match t with | .int _ x => x.toNat | _ => 0))
      case atStart => exact ⟨0, S, rfl, rfl, Nat.zero_le _, by omega, Lib.hid (by rw [HPH.out]; show Rl.tob P0 = Rl.tob (P0 ++ []); rw [List.append_nil]), Lib.hid (fun j _ hj => by omega), HB⟩
      case round =>
        obtain ⟨j, S2, rfl, rfl, hj, hS7, HS2, HMI, HBI⟩ := hrel
        by_cases hjk : j < k
        case neg =>
          have hcok := okC_all (c := c) (by have := HK.out; omega) (by have := HK.out; omega) (fun m hm => HMI.out m hm (by have := HK.out; omega))
          have HI2 := Lib.hid (fun j h hj => HI1.out j h hcok hj)
          have HS3 : Hid (S2 = Rl.tob (Lib.join ((L.take (i + 1)).map ctx) [44, 32])) := Lib.hid (by
            rw [HNXH.out, HS2.out, List.take_of_length_le (by have := HK.out; omega)]; rfl)
          have hjn : ¬ (j : Int) < (k : Int) := by omega
          clear hcok
          go_wp2_with fail
          refine ⟨⟨i + 1, S2, rfl, by go_num, by omega, by omega, HS3, HI2, HBI⟩, ?_⟩
          show n - ((i : Int) + 1).toNat < n - (i : Int).toNat
          omega
        obtain ⟨b2, o2, e2, a4, a5, a6⟩ := HBB.out j (by have := HK.out; omega)
        subst e2
        have hjl0 : j < c.length := by have := HK.out; omega
        have hasz := HCS.out (c[j]'hjl0) (List.getElem_mem hjl0)
        have hmb := fun (hh : mayR c[j] = false) => HBD.out (okC_at hjl0 hh)
        have htk := take_map_succ atx c j hjl0
        obtain ⟨a, ha⟩ : ∃ a, a = c[j]'(by have := HK.out; omega) := ⟨_, rfl⟩
        rw [← ha] at hasz hmb htk a4 a5 a6
        have hm1 : mayR a = true → ∀ m (h : m < c.length), m < j + 1 → mayR c[m] = true := fun h9 m h hm => by
          by_cases e : m = j
          · subst e; rw [← ha]; exact h9
          · exact HMI.out m h (by omega)
        have HM1 := Lib.hid hm1
        have hbz : Below w.heap.size w wr := HBI.out
        have ka := (hbz.cell (World.block_lt_of_cell? w _ a4)).trans a4
        have kb := (hbz.cell (World.block_lt_of_cell? w _ a5)).trans a5
        have kc := (hbz.cell (World.block_lt_of_cell? w _ a6)).trans a6
        have HMAY : Hid (∀ W, Calls Tryz.prog 54 #[.agg #[.string a.n, .int .i64 a.r, .string a.v]] W fun e w' => e = .returned (.bool (mayR a)) ∧ Below W.heap.size W w') := Lib.hid (fun W => rmay_any a.n a.r a.v W hasz.1 hasz.2)
        have HATM : Hid (∀ W, Calls Tryz.prog 55 #[.agg #[.string a.n, .int .i64 a.r, .string a.v]] W fun e w' => e = .returned (.string (Rl.tob (atx a))) ∧ Below W.heap.size W w') := Lib.hid (fun W => RAtom_any a W hasz.1 hasz.2)
        obtain ⟨Y, hY⟩ : ∃ Y, Y = Rl.tob (atx a) := ⟨_, rfl⟩
        have hYs : Y.size ≤ 78 := by rw [hY]; exact atx_len a
        rw [← hY] at HATM
        have HY := Lib.hid hY
        have HTK2 := Lib.hid htk
        have HMB := Lib.hid hmb
        obtain ⟨my, hmy⟩ : ∃ my, my = mayR a := ⟨_, rfl⟩
        rw [← hmy] at HMB HMAY HM1
        obtain ⟨an, ar, av⟩ := a
        simp only at ka kb kc HMAY HATM
        have hjl : (j : Int) < (k : Int) := by omega
        have hbk := Blk.new wr 87 #[.string an, .int .i64 ar, .string av]
        have HBK := Lib.hid hbk
        have HBZ := Lib.hid hbz
        have hba : Below wr.heap.size wr (wr.alloc (.cells #[.string an, .int .i64 ar, .string av] 87)) := (Below.refl _ _).alloc (Nat.le_refl _) _
        have HBA := Lib.hid hba
        clear hjl0 a4 a5 a6 hasz hmb htk ha hm1 hY hmy hbk hbz hba
        by_cases hj0 : j = 0
        · have j0 : ¬ (0 : Int) < (j : Int) := by omega
          have HNY : Hid (S2 ++ Y = Rl.tob (P0 ++ Lib.join ((c.take (j + 1)).map atx) [32, 124, 32])) := Lib.hid (by
            have hz : (c.take j).map atx = [] ↔ j = 0 := by rw [List.map_eq_nil_iff, List.take_eq_nil_iff]; constructor; { rintro (h | h); { exact h }; { have := HK.out; rw [h] at this; simp at this; omega } }; { exact fun h => .inl h }
            rw [HS2.out, HY.out, HTK2.out, join_snoc]
            rw [if_pos (hz.2 (by omega)), (hz.2 (by omega)), List.nil_append, Lib.join_nil, List.append_nil, tob_app])
          clear hj0
          cases my with
          | false =>
            have HR := Lib.hid (HMB.out rfl)
            go_wp2_with (go_at_call 54; refine (HMAY.out _).mono ?_; rintro e w2 ⟨rfl, hb2⟩)
            go_ret
            exact ⟨by rw [HR.out]; rfl, HBZ.out.trans ((HBA.out.trans (hb2.mono HBA.out.size)).mono HBZ.out.size)⟩
          | true =>
            have HM2 := Lib.hid (HM1.out rfl)
            clear HMB HM1
            go_wp2_with (first
              | (go_at_call 54; refine (HMAY.out _).mono ?_; rintro e w2 ⟨rfl, hb2⟩; have hbk2 := HBK.out.below hb2 HBK.out.lt; have k0 : w2.cell? ⟨wr.heap.size, 0, none⟩ = some (.string an) := hbk2.cell 0; have k1 : w2.cell? ⟨wr.heap.size, 1, none⟩ = some (.int .i64 ar) := hbk2.cell 1; have k2 : w2.cell? ⟨wr.heap.size, 2, none⟩ = some (.string av) := hbk2.cell 2; have HB2 := Lib.hid (HBA.out.trans (hb2.mono HBA.out.size)); clear hb2 hbk2)
              | (go_at_call 55; refine (HATM.out _).mono ?_; rintro e w3 ⟨rfl, hb3⟩; have HB3 := Lib.hid (HB2.out.trans (hb3.mono HB2.out.size)); clear hb3))
            refine ⟨⟨j + 1, S2 ++ Y, rfl, by go_num, by omega, ?_, HNY, HM2, Lib.hid (HBZ.out.trans (HB3.out.mono HBZ.out.size))⟩, ?_⟩
            · simp only [ByteArray.size_append]; first | omega | (have : (⟨#[32, 124, 32]⟩ : ByteArray).size = 3 := rfl; omega)
            · show k - ((j : Int) + 1).toNat < k - (j : Int).toNat
              omega
        · have j0 : 0 < j := by omega
          have HNY : Hid (S2 ++ ⟨#[32, 124, 32]⟩ ++ Y = Rl.tob (P0 ++ Lib.join ((c.take (j + 1)).map atx) [32, 124, 32])) := Lib.hid (by
            have hz : (c.take j).map atx = [] ↔ j = 0 := by rw [List.map_eq_nil_iff, List.take_eq_nil_iff]; constructor; { rintro (h | h); { exact h }; { have := HK.out; rw [h] at this; simp at this; omega } }; { exact fun h => .inl h }
            rw [HS2.out, HY.out, HTK2.out, join_snoc]
            rw [if_neg (fun h => by have := hz.1 h; omega)]; simp only [tob_app]; rw [ByteArray.append_assoc, ByteArray.append_assoc, ByteArray.append_assoc]; rfl)
          clear hj0
          cases my with
          | false =>
            have HR := Lib.hid (HMB.out rfl)
            go_wp2_with (go_at_call 54; refine (HMAY.out _).mono ?_; rintro e w2 ⟨rfl, hb2⟩)
            go_ret
            exact ⟨by rw [HR.out]; rfl, HBZ.out.trans ((HBA.out.trans (hb2.mono HBA.out.size)).mono HBZ.out.size)⟩
          | true =>
            have HM2 := Lib.hid (HM1.out rfl)
            clear HMB HM1
            go_wp2_with (first
              | (go_at_call 54; refine (HMAY.out _).mono ?_; rintro e w2 ⟨rfl, hb2⟩; have hbk2 := HBK.out.below hb2 HBK.out.lt; have k0 : w2.cell? ⟨wr.heap.size, 0, none⟩ = some (.string an) := hbk2.cell 0; have k1 : w2.cell? ⟨wr.heap.size, 1, none⟩ = some (.int .i64 ar) := hbk2.cell 1; have k2 : w2.cell? ⟨wr.heap.size, 2, none⟩ = some (.string av) := hbk2.cell 2; have HB2 := Lib.hid (HBA.out.trans (hb2.mono HBA.out.size)); clear hb2 hbk2)
              | (go_at_call 55; refine (HATM.out _).mono ?_; rintro e w3 ⟨rfl, hb3⟩; have HB3 := Lib.hid (HB2.out.trans (hb3.mono HB2.out.size)); clear hb3))
            refine ⟨⟨j + 1, S2 ++ ⟨#[32, 124, 32]⟩ ++ Y, rfl, by go_num, by omega, ?_, HNY, HM2, Lib.hid (HBZ.out.trans (HB3.out.mono HBZ.out.size))⟩, ?_⟩
            · simp only [ByteArray.size_append]; first | omega | (have : (⟨#[32, 124, 32]⟩ : ByteArray).size = 3 := rfl; omega)
            · show k - ((j : Int) + 1).toNat < k - (j : Int).toNat
              omega
    · have i0 : 0 < i := by omega
      have HP0 : Hid ((S ++ ⟨#[44, 32]⟩) = Rl.tob (ahd [44, 32] ((L.take i).map ctx))) := Lib.hid (by
        have hz : (L.take i).map ctx = [] ↔ i = 0 := by rw [List.map_eq_nil_iff, List.take_eq_nil_iff]; constructor; { rintro (h | h); { exact h }; { have := HN.out; rw [h] at this; simp at this; omega } }; { exact fun h => .inl h }
        unfold ahd
        rw [HS.out, if_neg (fun h => by have := hz.1 h; omega), tob_app]; rfl)
      clear hi00
      by_cases hk1 : 1 ≤ k
      case neg =>
        have q0 : ((k : Int) == 0) = true := by rw [beq_iff_eq]; omega
        have HR := Lib.hid (HBD.out (by unfold okC; rw [← HK.out, decide_eq_false (by omega)]; rfl))
        clear hk1
        go_wp2_with fail
        go_ret
        exact ⟨by rw [HR.out]; rfl, HB.out⟩
      have q0 : ((k : Int) == 0) = false := by rw [beq_eq_false_iff_ne]; omega
      by_cases hk6 : k ≤ 6
      case neg =>
        have q6 : decide ((6 : Int) < (k : Int)) = true := decide_eq_true (by omega)
        have HR := Lib.hid (HBD.out (by unfold okC; rw [← HK.out, decide_eq_false hk6]; simp))
        clear hk1 hk6
        go_wp2_with fail
        go_ret
        exact ⟨by rw [HR.out]; rfl, HB.out⟩
      have q6 : decide ((6 : Int) < (k : Int)) = false := decide_eq_false (by omega)
      go_wp2_with fail
      obtain ⟨P, hP⟩ : ∃ P, P = (S ++ ⟨#[44, 32]⟩) := ⟨_, rfl⟩
      have hPs : P.size ≤ 600 * i + 2 := by rw [hP]; rw [ByteArray.size_append]; have : (⟨#[44, 32]⟩ : ByteArray).size = 2 := rfl; omega
      rw [← hP]
      obtain ⟨P0, hP0⟩ : ∃ P0, P0 = ahd [44, 32] ((L.take i).map ctx) := ⟨_, rfl⟩
      have HP := HP0.out
      rw [← hP0, ← hP] at HP
      have HNX2 := HNX.out
      rw [← hP0] at HNX2
      have HPH := Lib.hid HP
      have HNXH := Lib.hid HNX2
      clear ka HP0 HNX hP HP HNX2 hP0
      obtain ⟨wo, rfl⟩ : ∃ wo : World, wo = wr := ⟨_, rfl⟩
      go_loopw [3, 32] (fun u t wr => ∃ (j : Nat) (S2 : ByteArray), u = .string S2 ∧ t = .int .i64 (j : Int) ∧ j ≤ k ∧ S2.size ≤ 600 * i + 2 + 90 * j ∧ Hid (S2 = Rl.tob (P0 ++ Lib.join ((c.take j).map atx) [32, 124, 32])) ∧ Hid (∀ m (h : m < c.length), m < j → mayR c[m] = true) ∧ Hid (Below w.heap.size w wr)) (fun _ t _ => k - (match t with | .int _ x => x.toNat | _ => 0))
      case atStart => exact ⟨0, P, rfl, rfl, Nat.zero_le _, by omega, Lib.hid (by rw [HPH.out]; show Rl.tob P0 = Rl.tob (P0 ++ []); rw [List.append_nil]), Lib.hid (fun j _ hj => by omega), HB⟩
      case round =>
        obtain ⟨j, S2, rfl, rfl, hj, hS7, HS2, HMI, HBI⟩ := hrel
        by_cases hjk : j < k
        case neg =>
          have hcok := okC_all (c := c) (by have := HK.out; omega) (by have := HK.out; omega) (fun m hm => HMI.out m hm (by have := HK.out; omega))
          have HI2 := Lib.hid (fun j h hj => HI1.out j h hcok hj)
          have HS3 : Hid (S2 = Rl.tob (Lib.join ((L.take (i + 1)).map ctx) [44, 32])) := Lib.hid (by
            rw [HNXH.out, HS2.out, List.take_of_length_le (by have := HK.out; omega)]; rfl)
          have hjn : ¬ (j : Int) < (k : Int) := by omega
          clear hcok
          go_wp2_with fail
          refine ⟨⟨i + 1, S2, rfl, by go_num, by omega, by omega, HS3, HI2, HBI⟩, ?_⟩
          show n - ((i : Int) + 1).toNat < n - (i : Int).toNat
          omega
        obtain ⟨b2, o2, e2, a4, a5, a6⟩ := HBB.out j (by have := HK.out; omega)
        subst e2
        have hjl0 : j < c.length := by have := HK.out; omega
        have hasz := HCS.out (c[j]'hjl0) (List.getElem_mem hjl0)
        have hmb := fun (hh : mayR c[j] = false) => HBD.out (okC_at hjl0 hh)
        have htk := take_map_succ atx c j hjl0
        obtain ⟨a, ha⟩ : ∃ a, a = c[j]'(by have := HK.out; omega) := ⟨_, rfl⟩
        rw [← ha] at hasz hmb htk a4 a5 a6
        have hm1 : mayR a = true → ∀ m (h : m < c.length), m < j + 1 → mayR c[m] = true := fun h9 m h hm => by
          by_cases e : m = j
          · subst e; rw [← ha]; exact h9
          · exact HMI.out m h (by omega)
        have HM1 := Lib.hid hm1
        have hbz : Below w.heap.size w wr := HBI.out
        have ka := (hbz.cell (World.block_lt_of_cell? w _ a4)).trans a4
        have kb := (hbz.cell (World.block_lt_of_cell? w _ a5)).trans a5
        have kc := (hbz.cell (World.block_lt_of_cell? w _ a6)).trans a6
        have HMAY : Hid (∀ W, Calls Tryz.prog 54 #[.agg #[.string a.n, .int .i64 a.r, .string a.v]] W fun e w' => e = .returned (.bool (mayR a)) ∧ Below W.heap.size W w') := Lib.hid (fun W => rmay_any a.n a.r a.v W hasz.1 hasz.2)
        have HATM : Hid (∀ W, Calls Tryz.prog 55 #[.agg #[.string a.n, .int .i64 a.r, .string a.v]] W fun e w' => e = .returned (.string (Rl.tob (atx a))) ∧ Below W.heap.size W w') := Lib.hid (fun W => RAtom_any a W hasz.1 hasz.2)
        obtain ⟨Y, hY⟩ : ∃ Y, Y = Rl.tob (atx a) := ⟨_, rfl⟩
        have hYs : Y.size ≤ 78 := by rw [hY]; exact atx_len a
        rw [← hY] at HATM
        have HY := Lib.hid hY
        have HTK2 := Lib.hid htk
        have HMB := Lib.hid hmb
        obtain ⟨my, hmy⟩ : ∃ my, my = mayR a := ⟨_, rfl⟩
        rw [← hmy] at HMB HMAY HM1
        obtain ⟨an, ar, av⟩ := a
        simp only at ka kb kc HMAY HATM
        have hjl : (j : Int) < (k : Int) := by omega
        have hbk := Blk.new wr 87 #[.string an, .int .i64 ar, .string av]
        have HBK := Lib.hid hbk
        have HBZ := Lib.hid hbz
        have hba : Below wr.heap.size wr (wr.alloc (.cells #[.string an, .int .i64 ar, .string av] 87)) := (Below.refl _ _).alloc (Nat.le_refl _) _
        have HBA := Lib.hid hba
        clear hjl0 a4 a5 a6 hasz hmb htk ha hm1 hY hmy hbk hbz hba
        by_cases hj0 : j = 0
        · have j0 : ¬ (0 : Int) < (j : Int) := by omega
          have HNY : Hid (S2 ++ Y = Rl.tob (P0 ++ Lib.join ((c.take (j + 1)).map atx) [32, 124, 32])) := Lib.hid (by
            have hz : (c.take j).map atx = [] ↔ j = 0 := by rw [List.map_eq_nil_iff, List.take_eq_nil_iff]; constructor; { rintro (h | h); { exact h }; { have := HK.out; rw [h] at this; simp at this; omega } }; { exact fun h => .inl h }
            rw [HS2.out, HY.out, HTK2.out, join_snoc]
            rw [if_pos (hz.2 (by omega)), (hz.2 (by omega)), List.nil_append, Lib.join_nil, List.append_nil, tob_app])
          clear hj0
          cases my with
          | false =>
            have HR := Lib.hid (HMB.out rfl)
            go_wp2_with (go_at_call 54; refine (HMAY.out _).mono ?_; rintro e w2 ⟨rfl, hb2⟩)
            go_ret
            exact ⟨by rw [HR.out]; rfl, HBZ.out.trans ((HBA.out.trans (hb2.mono HBA.out.size)).mono HBZ.out.size)⟩
          | true =>
            have HM2 := Lib.hid (HM1.out rfl)
            clear HMB HM1
            go_wp2_with (first
              | (go_at_call 54; refine (HMAY.out _).mono ?_; rintro e w2 ⟨rfl, hb2⟩; have hbk2 := HBK.out.below hb2 HBK.out.lt; have k0 : w2.cell? ⟨wr.heap.size, 0, none⟩ = some (.string an) := hbk2.cell 0; have k1 : w2.cell? ⟨wr.heap.size, 1, none⟩ = some (.int .i64 ar) := hbk2.cell 1; have k2 : w2.cell? ⟨wr.heap.size, 2, none⟩ = some (.string av) := hbk2.cell 2; have HB2 := Lib.hid (HBA.out.trans (hb2.mono HBA.out.size)); clear hb2 hbk2)
              | (go_at_call 55; refine (HATM.out _).mono ?_; rintro e w3 ⟨rfl, hb3⟩; have HB3 := Lib.hid (HB2.out.trans (hb3.mono HB2.out.size)); clear hb3))
            refine ⟨⟨j + 1, S2 ++ Y, rfl, by go_num, by omega, ?_, HNY, HM2, Lib.hid (HBZ.out.trans (HB3.out.mono HBZ.out.size))⟩, ?_⟩
            · simp only [ByteArray.size_append]; first | omega | (have : (⟨#[32, 124, 32]⟩ : ByteArray).size = 3 := rfl; omega)
            · show k - ((j : Int) + 1).toNat < k - (j : Int).toNat
              omega
        · have j0 : 0 < j := by omega
          have HNY : Hid (S2 ++ ⟨#[32, 124, 32]⟩ ++ Y = Rl.tob (P0 ++ Lib.join ((c.take (j + 1)).map atx) [32, 124, 32])) := Lib.hid (by
            have hz : (c.take j).map atx = [] ↔ j = 0 := by rw [List.map_eq_nil_iff, List.take_eq_nil_iff]; constructor; { rintro (h | h); { exact h }; { have := HK.out; rw [h] at this; simp at this; omega } }; { exact fun h => .inl h }
            rw [HS2.out, HY.out, HTK2.out, join_snoc]
            rw [if_neg (fun h => by have := hz.1 h; omega)]; simp only [tob_app]; rw [ByteArray.append_assoc, ByteArray.append_assoc, ByteArray.append_assoc]; rfl)
          clear hj0
          cases my with
          | false =>
            have HR := Lib.hid (HMB.out rfl)
            go_wp2_with (go_at_call 54; refine (HMAY.out _).mono ?_; rintro e w2 ⟨rfl, hb2⟩)
            go_ret
            exact ⟨by rw [HR.out]; rfl, HBZ.out.trans ((HBA.out.trans (hb2.mono HBA.out.size)).mono HBZ.out.size)⟩
          | true =>
            have HM2 := Lib.hid (HM1.out rfl)
            clear HMB HM1
            go_wp2_with (first
              | (go_at_call 54; refine (HMAY.out _).mono ?_; rintro e w2 ⟨rfl, hb2⟩; have hbk2 := HBK.out.below hb2 HBK.out.lt; have k0 : w2.cell? ⟨wr.heap.size, 0, none⟩ = some (.string an) := hbk2.cell 0; have k1 : w2.cell? ⟨wr.heap.size, 1, none⟩ = some (.int .i64 ar) := hbk2.cell 1; have k2 : w2.cell? ⟨wr.heap.size, 2, none⟩ = some (.string av) := hbk2.cell 2; have HB2 := Lib.hid (HBA.out.trans (hb2.mono HBA.out.size)); clear hb2 hbk2)
              | (go_at_call 55; refine (HATM.out _).mono ?_; rintro e w3 ⟨rfl, hb3⟩; have HB3 := Lib.hid (HB2.out.trans (hb3.mono HB2.out.size)); clear hb3))
            refine ⟨⟨j + 1, S2 ++ ⟨#[32, 124, 32]⟩ ++ Y, rfl, by go_num, by omega, ?_, HNY, HM2, Lib.hid (HBZ.out.trans (HB3.out.mono HBZ.out.size))⟩, ?_⟩
            · simp only [ByteArray.size_append]; first | omega | (have : (⟨#[32, 124, 32]⟩ : ByteArray).size = 3 := rfl; omega)
            · show k - ((j : Int) + 1).toNat < k - (j : Int).toNat
              omega
end Go.Proofs.YtjkaigfpjebfbaaGreatDoor
/- relation.Atoms, relation.Provides, chandlerref4.Singles, chandlerref4.Provided. -/
namespace Go.Proofs.YtjkaigfpjebfbaaGreatDoor
open Go.RowKit
set_option linter.unusedVariables false
/-- Rows of one atom each. -/
def Ones (w : World) (xs : List Value) (L : List RA) : Prop :=
  xs.length = L.length ∧ ∀ j (h : j < L.length), ∃ g, xs[j]? = some (.slice (some ⟨g, 0, none⟩) 1 1) ∧ Blk w g 87 #[.string L[j].n, .int .i64 L[j].r, .string L[j].v]
theorem Ones.nil (w : World) : Ones w [] [] := ⟨rfl, fun j h => absurd h (by simp)⟩
theorem Ones.upd {T : Nat → Prop} {w w' : World} {xs : List Value} {L : List RA} (h : Ones w xs L) (hu : Upd T w w') (hT : ∀ k, T k → ¬ IsA w k) : Ones w' xs L :=
  ⟨h.1, fun j hj => by
    obtain ⟨g, h1, h2⟩ := h.2 j hj
    exact ⟨g, h1, h2.upd hu (fun ht => hT g ht ⟨_, _, h2⟩)⟩⟩
theorem Ones.snoc {w : World} {xs : List Value} {L : List RA} {a : RA} {g : Nat} (h : Ones w xs L) (hg : Blk w g 87 #[.string a.n, .int .i64 a.r, .string a.v]) : Ones w (xs ++ [.slice (some ⟨g, 0, none⟩) 1 1]) (L ++ [a]) := by
  refine ⟨by rw [List.length_append, List.length_append, h.1]; rfl, fun j hj => ?_⟩
  rw [List.length_append] at hj
  by_cases e : j < L.length
  · obtain ⟨g', h1, h2⟩ := h.2 j e
    have e1 : (L ++ [a])[j] = L[j] := List.getElem_append_left e
    exact ⟨g', by rw [List.getElem?_append_left (by rw [h.1]; exact e)]; exact h1, by rw [e1]; exact h2⟩
  · have e2 : j = L.length := by simp at hj; omega
    subst e2
    have e1 : (L ++ [a])[L.length] = a := by simp
    exact ⟨g, by rw [← h.1, List.getElem?_concat_length], by rw [e1]; exact hg⟩
theorem Ones.cls {w : World} {base m c : Nat} {A : Option Addr} {xs : List Value} {L : List RA} (h : Ones w xs L) (ho : w.ownsRow base 55 1 (.slice A m c) m xs) (hm : m = L.length) : ClsAt w (.slice A m c) (L.map (fun a => [a])) := by
  subst hm
  refine ⟨A, c, by rw [List.length_map], by rw [List.length_map]; exact (row_shape ho).1, fun j hj => ?_⟩
  rw [List.length_map] at hj
  obtain ⟨g, h1, h2⟩ := h.2 j hj
  obtain ⟨ad, e, hb, hc2⟩ := (Reads.of_own ho).2 (by omega)
  have h0 := (row_shape ho).2 _ e
  obtain ⟨g0, o, sp⟩ := ad
  have h0 : sp = none := h0
  subst h0 e
  rw [List.getElem_map]
  refine ⟨g0, o, _, rfl, by have := hc2 _ _ h1; rwa [addN] at this, some ⟨g, 0, none⟩, 1, rfl, Nat.le_refl _, fun i hi => ?_⟩
  have hi0 : i = 0 := by simp at hi; exact hi
  subst hi0
  exact ⟨g, 0, rfl, h2.cell 0, h2.cell 1, h2.cell 2⟩
/-- An atom's cells. -/
def raC7 (a : RA) : List Value := [.string a.n, .int .i64 a.r, .string a.v]
def catR7 (l : List RA) : List Value := l.flatMap raC7
theorem catR_snoc (l : List RA) (a : RA) : catR7 (l ++ [a]) = catR7 l ++ raC7 a := by unfold catR7; rw [List.flatMap_append]; simp
theorem catR_at7 : ∀ (l : List RA) (j : Nat) (h : j < l.length), (catR7 l)[j * 3]? = some (.string l[j].n) ∧ (catR7 l)[j * 3 + 1]? = some (.int .i64 l[j].r) ∧ (catR7 l)[j * 3 + 2]? = some (.string l[j].v)
  | [], j, h => absurd h (by simp)
  | a :: r, 0, h => ⟨rfl, rfl, rfl⟩
  | a :: r, j + 1, h => by
    have hr := catR_at7 r j (by simpa using h)
    have e : catR7 (a :: r) = raC7 a ++ catR7 r := rfl
    have hl : (raC7 a).length = 3 := rfl
    have h3 : ∀ k, (catR7 (a :: r))[(j + 1) * 3 + k]? = (catR7 r)[j * 3 + k]? := fun k => by
      rw [e, List.getElem?_append_right (by omega), hl]
      congr 1
      omega
    exact ⟨(h3 0).trans hr.1, (h3 1).trans hr.2.1, (h3 2).trans hr.2.2⟩
theorem AtsAt.of_row7 {w : World} {base m c : Nat} {A : Option Addr} {l : List RA} (h : w.ownsRow base 87 3 (.slice A m c) m (catR7 l)) (hm : m = l.length) : AtsAt w (.slice A m c) l := by
  subst hm
  refine ⟨A, c, rfl, (row_shape h).1, fun j hj => ?_⟩
  obtain ⟨ad, e, hb, hc2⟩ := (Reads.of_own h).2 (by omega)
  have h0 := (row_shape h).2 _ e
  obtain ⟨g, o, sp⟩ := ad
  have h0 : sp = none := h0
  subst h0 e
  have ha := catR_at7 l j hj
  refine ⟨g, o, rfl, ?_, ?_, ?_⟩
  · have := hc2 _ _ ha.1; rwa [addN] at this
  · have := hc2 _ _ ha.2.1; rwa [addN] at this
  · have := hc2 _ _ ha.2.2; rwa [addN] at this
/-- A provide as an atom. -/
def pvA (p : RP) : RA := ⟨p.n, if p.v.size = 0 then 0 else 3, p.v⟩
set_option maxRecDepth 100000 in
set_option maxHeartbeats 4000000 in
theorem Singles_any (v : Value) (L : List RA) (w : World) (h : AtsAt w v L) (hl : L.length ≤ 1048576) :
    Calls Tryz.prog 34 #[v] w fun e w' => ∃ v', e = .returned v' ∧ ClsAt w' v' (L.map (fun a => [a])) ∧ Below w.heap.size w w' := by
  obtain ⟨i0, hi0, hz0, hz1, hz2⟩ := info_parts cl_row
  obtain ⟨A, cA, rfl, hcA, hA⟩ := h
  have HA := Lib.hid hA
  obtain ⟨n, hn⟩ : ∃ n, n = L.length := ⟨_, rfl⟩
  rw [← hn] at hl ⊢
  have HN := Lib.hid hn
  clear hA hcA hn
  go_enter Tryz.func34, Tryz.ntmps34
  go_wp2_with fail
  go_loopw [3, 8] (fun u t wr => ∃ (i co : Nat) (Ao : Option Addr) (xs : List Value), u = .slice Ao i co ∧ t = .int .i64 (i : Int) ∧ i ≤ n ∧ Hid (wr.ownsRow w.heap.size 55 1 (.slice Ao i co) i xs) ∧ Hid (Ones wr xs (L.take i)) ∧ Hid (Below w.heap.size w wr)) (fun _ t _ => n - (match t with | .int _ x => x.toNat | _ => 0))
  case atStart => exact ⟨0, 0, none, [], rfl, rfl, Nat.zero_le _, Lib.hid (World.ownsRow_nil _ _ _ _), Lib.hid (Ones.nil _), Lib.hid (Below.refl _ _)⟩
  case round =>
    obtain ⟨i, co, Ao, xs, rfl, rfl, hi, HO, HX, HB⟩ := hrel
    by_cases hlt : i < n
    case neg =>
      have hnn : ¬ (i : Int) < (n : Int) := by omega
      have HXL := Lib.hid (show Ones wr xs L by have := HX.out; rwa [List.take_of_length_le (by have := HN.out; omega)] at this)
      have HC := Lib.hid (HXL.out.cls HO.out (by have := HN.out; omega))
      go_wp2_with fail
      go_ret
      exact ⟨_, rfl, HC.out, HB.out⟩
    obtain ⟨g, o, e1, a1, a2, a3⟩ := HA.out i (by have := HN.out; omega)
    subst e1
    have hil : i < L.length := by have := HN.out; omega
    have htk : L.take (i + 1) = L.take i ++ [L[i]'hil] := List.take_succ_eq_append_getElem hil
    obtain ⟨a, ha⟩ : ∃ a, a = L[i]'hil := ⟨_, rfl⟩
    rw [← ha] at a1 a2 a3 htk
    have HTK := Lib.hid htk
    have ka := (HB.out.cell (World.block_lt_of_cell? w _ a1)).trans a1
    have kb := (HB.out.cell (World.block_lt_of_cell? w _ a2)).trans a2
    have kc := (HB.out.cell (World.block_lt_of_cell? w _ a3)).trans a3
    obtain ⟨an, ar, av⟩ := a
    simp only at ka kb kc
    have hln : (i : Int) < (n : Int) := by omega
    clear a1 a2 a3 htk ha hil
    go_upto_region 5 with fail
    obtain ⟨b, hb⟩ : ∃ b, b = wr.heap.size := ⟨_, rfl⟩
    obtain ⟨w1, hw1⟩ : ∃ w1, w1 = wr.alloc (.cells #[.string an, .int .i64 ar, .string av] 87) := ⟨_, rfl⟩
    have hbk : Blk w1 b 87 #[.string an, .int .i64 ar, .string av] := by rw [hw1, hb]; exact Blk.new wr _ _
    have k0 : w1.cell? ⟨b, 0, none⟩ = some (.string an) := hbk.cell 0
    have k1 : w1.cell? ⟨b, 1, none⟩ = some (.int .i64 ar) := hbk.cell 1
    have k2 : w1.cell? ⟨b, 2, none⟩ = some (.string av) := hbk.cell 2
    have HO1 : Hid (w1.ownsRow w.heap.size 55 1 (.slice Ao i co) i xs) := Lib.hid (by rw [hw1]; exact HO.out.alloc _)
    have HX1 : Hid (Ones w1 xs (L.take i)) := Lib.hid (by rw [hw1]; exact HX.out.upd ((Upd.refl (fun _ => False) wr).alloc _) (fun _ h => h.elim))
    have HB1 : Hid (Below w.heap.size w w1) := Lib.hid (by rw [hw1]; exact HB.out.alloc HB.out.size _)
    have hs1 := HB1.out.size
    obtain ⟨O1, hO1⟩ : ∃ O1, O1 = Obj.cells #[.string an, .int .i64 ar, .string av] 87 := ⟨_, rfl⟩
    have hA1 : Blk (w1.alloc (.cells #[.string an, .int .i64 ar, .string av] 87)) w1.heap.size 87 #[.string an, .int .i64 ar, .string av] := Blk.new w1 _ _
    have hC1 : Blk ((w1.alloc (.cells #[.string an, .int .i64 ar, .string av] 87)).alloc (.cells #[.slice (some ⟨w1.heap.size, 0, none⟩) 1 1] 55)) (w1.heap.size + 1) 55 #[.slice (some ⟨w1.heap.size, 0, none⟩) 1 1] := by
      have := Blk.new (w1.alloc (.cells #[.string an, .int .i64 ar, .string av] 87)) 55 #[.slice (some ⟨w1.heap.size, 0, none⟩) 1 1]
      rw [World.size_alloc] at this
      exact this
    have HA1 := Lib.hid (hA1.alloc (.cells #[.slice (some ⟨w1.heap.size, 0, none⟩) 1 1] 55))
    have HC1 := Lib.hid hC1
    rw [← hw1, ← hb]
    clear hbk hw1 hb hA1 hC1 ka kb kc hO1
    go_wp2_with (at_builtin; refine wpList_append_any _ rfl (.tmp 12) (.tmp 15) 22 rfl w.heap.size 55 i0 _ 1 24 Tryz.underlying22 hi0 hz0 hz1 hz2 rfl (by decide) _ i xs rfl ((HO1.out.alloc _).alloc _) (w1.heap.size + 2) (some ⟨w1.heap.size + 1, 0, none⟩) 1 1 [.slice (some ⟨w1.heap.size, 0, none⟩) 1 1] rfl (reads_one HC1.out (by omega)) (fun u hu => by simp at hu; subst hu; rfl) (by unfold maxLen; omega) (by omega) (by simp; omega) ?_; intro v5 w5 hown5 hg5 hat5; have hup5 : Upd (fun m => (Value.slice Ao i co).ownBlock = some m) w1 w5 := (((Upd.refl _ w1).alloc _).alloc _).grown hg5 (fun m hm => .inl hm); have hup6 : Upd (fun m => (Value.slice Ao i co).ownBlock = some m) ((w1.alloc (.cells #[.string an, .int .i64 ar, .string av] 87)).alloc (.cells #[.slice (some ⟨w1.heap.size, 0, none⟩) 1 1] 55)) w5 := (Upd.refl _ _).grown hg5 (fun m hm => .inl hm); have HB5 := Lib.hid (HB1.out.trans (hup5.below (fun m hm => (own_is HO1.out hm).1) hs1)); have HX5 := Lib.hid ((HX1.out.upd hup5 (fun m hm => own_noA HO1.out (by decide) hm)).snoc (a := ⟨an, ar, av⟩) (HA1.out.upd hup6 (fun hm => own_noA ((HO1.out.alloc (.cells #[.string an, .int .i64 ar, .string av] 87)).alloc (.cells #[.slice (some ⟨w1.heap.size, 0, none⟩) 1 1] 55)) (by decide) hm ⟨_, _, HA1.out⟩))); obtain ⟨A5, c5, rfl⟩ := own_shape hown5; have HOW5 := Lib.hid hown5; clear hown5 hg5 hat5 hup5 hup6)
    refine ⟨⟨i + 1, c5, A5, _, rfl, by go_num, by omega, HOW5, Lib.hid (by rw [HTK.out]; exact HX5.out), HB5⟩, ?_⟩
    show n - ((i : Int) + 1).toNat < n - (i : Int).toNat
    omega
set_option maxRecDepth 100000 in
set_option maxHeartbeats 4000000 in
theorem RelAtoms_any (v : Value) (L : List RA) (w : World) (h : AtsAt w v L) (hl : L.length ≤ 1048576) (hsz : ∀ a ∈ L, a.n.size ≤ 1048576 ∧ a.v.size ≤ 1048576) :
    Calls Tryz.prog 31 #[v] w fun e w' => e = .returned (.string (Rl.tob (ltx (L.map (fun a => [a]))))) ∧ Below w.heap.size w w' := by
  obtain ⟨i0, hi0, hz0, hz1, hz2⟩ := info_parts cl_row
  obtain ⟨A, cA, rfl, hcA, hA⟩ := h
  have HA := Lib.hid hA
  obtain ⟨n, hn⟩ : ∃ n, n = L.length := ⟨_, rfl⟩
  rw [← hn] at hl ⊢
  have HN := Lib.hid hn
  have HSZ := Lib.hid hsz
  clear hA hcA hn hsz
  go_enter Tryz.func31, Tryz.ntmps31
  go_wp2_with fail
  go_loopw [3, 8] (fun u t wr => ∃ (i co : Nat) (Ao : Option Addr) (xs : List Value), u = .slice Ao i co ∧ t = .int .i64 (i : Int) ∧ i ≤ n ∧ Hid (wr.ownsRow w.heap.size 55 1 (.slice Ao i co) i xs) ∧ Hid (Ones wr xs (L.take i)) ∧ Hid (Below w.heap.size w wr)) (fun _ t _ => n - (match t with | .int _ x => x.toNat | _ => 0))
  case atStart => exact ⟨0, 0, none, [], rfl, rfl, Nat.zero_le _, Lib.hid (World.ownsRow_nil _ _ _ _), Lib.hid (Ones.nil _), Lib.hid (Below.refl _ _)⟩
  case round =>
    obtain ⟨i, co, Ao, xs, rfl, rfl, hi, HO, HX, HB⟩ := hrel
    by_cases hlt : i < n
    case neg =>
      have hnn : ¬ (i : Int) < (n : Int) := by omega
      have HXL := Lib.hid (show Ones wr xs L by have := HX.out; rwa [List.take_of_length_le (by have := HN.out; omega)] at this)
      have HC := Lib.hid (HXL.out.cls HO.out (by have := HN.out; omega))
      have HT := Lib.hid (RelText_any _ _ wr HC.out (fun c hc a ha => by
        obtain ⟨b, hb, rfl⟩ := List.mem_map.1 hc
        have e : a = b := by simpa using ha
        rw [e]; exact HSZ.out b hb))
      go_wp2_with (go_at_call 30; refine HT.out.mono ?_; rintro e w2 ⟨rfl, hb2⟩)
      go_ret
      exact ⟨rfl, HB.out.trans (hb2.mono HB.out.size)⟩
    obtain ⟨g, o, e1, a1, a2, a3⟩ := HA.out i (by have := HN.out; omega)
    subst e1
    have hil : i < L.length := by have := HN.out; omega
    have htk : L.take (i + 1) = L.take i ++ [L[i]'hil] := List.take_succ_eq_append_getElem hil
    obtain ⟨a, ha⟩ : ∃ a, a = L[i]'hil := ⟨_, rfl⟩
    rw [← ha] at a1 a2 a3 htk
    have HTK := Lib.hid htk
    have ka := (HB.out.cell (World.block_lt_of_cell? w _ a1)).trans a1
    have kb := (HB.out.cell (World.block_lt_of_cell? w _ a2)).trans a2
    have kc := (HB.out.cell (World.block_lt_of_cell? w _ a3)).trans a3
    obtain ⟨an, ar, av⟩ := a
    simp only at ka kb kc
    have hln : (i : Int) < (n : Int) := by omega
    clear a1 a2 a3 htk ha hil
    go_upto_region 5 with fail
    obtain ⟨b, hb⟩ : ∃ b, b = wr.heap.size := ⟨_, rfl⟩
    obtain ⟨w1, hw1⟩ : ∃ w1, w1 = wr.alloc (.cells #[.string an, .int .i64 ar, .string av] 87) := ⟨_, rfl⟩
    have hbk : Blk w1 b 87 #[.string an, .int .i64 ar, .string av] := by rw [hw1, hb]; exact Blk.new wr _ _
    have k0 : w1.cell? ⟨b, 0, none⟩ = some (.string an) := hbk.cell 0
    have k1 : w1.cell? ⟨b, 1, none⟩ = some (.int .i64 ar) := hbk.cell 1
    have k2 : w1.cell? ⟨b, 2, none⟩ = some (.string av) := hbk.cell 2
    have HO1 : Hid (w1.ownsRow w.heap.size 55 1 (.slice Ao i co) i xs) := Lib.hid (by rw [hw1]; exact HO.out.alloc _)
    have HX1 : Hid (Ones w1 xs (L.take i)) := Lib.hid (by rw [hw1]; exact HX.out.upd ((Upd.refl (fun _ => False) wr).alloc _) (fun _ h => h.elim))
    have HB1 : Hid (Below w.heap.size w w1) := Lib.hid (by rw [hw1]; exact HB.out.alloc HB.out.size _)
    have hs1 := HB1.out.size
    obtain ⟨O1, hO1⟩ : ∃ O1, O1 = Obj.cells #[.string an, .int .i64 ar, .string av] 87 := ⟨_, rfl⟩
    have hA1 : Blk (w1.alloc (.cells #[.string an, .int .i64 ar, .string av] 87)) w1.heap.size 87 #[.string an, .int .i64 ar, .string av] := Blk.new w1 _ _
    have hC1 : Blk ((w1.alloc (.cells #[.string an, .int .i64 ar, .string av] 87)).alloc (.cells #[.slice (some ⟨w1.heap.size, 0, none⟩) 1 1] 55)) (w1.heap.size + 1) 55 #[.slice (some ⟨w1.heap.size, 0, none⟩) 1 1] := by
      have := Blk.new (w1.alloc (.cells #[.string an, .int .i64 ar, .string av] 87)) 55 #[.slice (some ⟨w1.heap.size, 0, none⟩) 1 1]
      rw [World.size_alloc] at this
      exact this
    have HA1 := Lib.hid (hA1.alloc (.cells #[.slice (some ⟨w1.heap.size, 0, none⟩) 1 1] 55))
    have HC1 := Lib.hid hC1
    rw [← hw1, ← hb]
    clear hbk hw1 hb hA1 hC1 ka kb kc hO1
    go_wp2_with (at_builtin; refine wpList_append_any _ rfl (.tmp 12) (.tmp 15) 22 rfl w.heap.size 55 i0 _ 1 24 Tryz.underlying22 hi0 hz0 hz1 hz2 rfl (by decide) _ i xs rfl ((HO1.out.alloc _).alloc _) (w1.heap.size + 2) (some ⟨w1.heap.size + 1, 0, none⟩) 1 1 [.slice (some ⟨w1.heap.size, 0, none⟩) 1 1] rfl (reads_one HC1.out (by omega)) (fun u hu => by simp at hu; subst hu; rfl) (by unfold maxLen; omega) (by omega) (by simp; omega) ?_; intro v5 w5 hown5 hg5 hat5; have hup5 : Upd (fun m => (Value.slice Ao i co).ownBlock = some m) w1 w5 := (((Upd.refl _ w1).alloc _).alloc _).grown hg5 (fun m hm => .inl hm); have hup6 : Upd (fun m => (Value.slice Ao i co).ownBlock = some m) ((w1.alloc (.cells #[.string an, .int .i64 ar, .string av] 87)).alloc (.cells #[.slice (some ⟨w1.heap.size, 0, none⟩) 1 1] 55)) w5 := (Upd.refl _ _).grown hg5 (fun m hm => .inl hm); have HB5 := Lib.hid (HB1.out.trans (hup5.below (fun m hm => (own_is HO1.out hm).1) hs1)); have HX5 := Lib.hid ((HX1.out.upd hup5 (fun m hm => own_noA HO1.out (by decide) hm)).snoc (a := ⟨an, ar, av⟩) (HA1.out.upd hup6 (fun hm => own_noA ((HO1.out.alloc (.cells #[.string an, .int .i64 ar, .string av] 87)).alloc (.cells #[.slice (some ⟨w1.heap.size, 0, none⟩) 1 1] 55)) (by decide) hm ⟨_, _, HA1.out⟩))); obtain ⟨A5, c5, rfl⟩ := own_shape hown5; have HOW5 := Lib.hid hown5; clear hown5 hg5 hat5 hup5 hup6)
    refine ⟨⟨i + 1, c5, A5, _, rfl, by go_num, by omega, HOW5, Lib.hid (by rw [HTK.out]; exact HX5.out), HB5⟩, ?_⟩
    show n - ((i : Int) + 1).toNat < n - (i : Int).toNat
    omega
set_option maxRecDepth 100000 in
set_option maxHeartbeats 4000000 in
theorem Provided_any (v : Value) (L : List RP) (w : World) (h : PrsAt w v L) (hl : L.length ≤ 1048576) :
    Calls Tryz.prog 35 #[v] w fun e w' => ∃ v', e = .returned v' ∧ AtsAt w' v' (L.map pvA) ∧ Below w.heap.size w w' := by
  obtain ⟨i0, hi0, hz0, hz1, hz2⟩ := info_parts atom_row
  obtain ⟨A, cA, rfl, hcA, hA⟩ := h
  have HA := Lib.hid hA
  obtain ⟨n, hn⟩ : ∃ n, n = L.length := ⟨_, rfl⟩
  rw [← hn] at hl ⊢
  have HN := Lib.hid hn
  clear hA hcA hn
  go_enter Tryz.func35, Tryz.ntmps35
  go_wp2_with fail
  go_loopw [3, 9] (fun u t wr => ∃ (i co : Nat) (Ao : Option Addr), u = .slice Ao i co ∧ t = .int .i64 (i : Int) ∧ i ≤ n ∧ Hid (wr.ownsRow w.heap.size 87 3 (.slice Ao i co) i (catR7 ((L.take i).map pvA))) ∧ Hid (Below w.heap.size w wr)) (fun _ t _ => n - (match t with | .int _ x => x.toNat | _ => 0))
  case atStart => exact ⟨0, 0, none, rfl, rfl, Nat.zero_le _, Lib.hid (World.ownsRow_nil _ _ _ _), Lib.hid (Below.refl _ _)⟩
  case round =>
    obtain ⟨i, co, Ao, rfl, rfl, hi, HO, HB⟩ := hrel
    by_cases hlt : i < n
    case neg =>
      have hnn : ¬ (i : Int) < (n : Int) := by omega
      have HC := Lib.hid (show AtsAt wr (.slice Ao i co) (L.map pvA) from AtsAt.of_row7 (base := w.heap.size) (by have := HO.out; rwa [List.take_of_length_le (by have := HN.out; omega)] at this) (by rw [List.length_map]; have := HN.out; omega))
      go_wp2_with fail
      go_ret
      exact ⟨_, rfl, HC.out, HB.out⟩
    obtain ⟨g, o, e1, a1, a3⟩ := HA.out i (by have := HN.out; omega)
    subst e1
    have hil : i < L.length := by have := HN.out; omega
    have htk := take_map_succ pvA L i hil
    obtain ⟨a, ha⟩ : ∃ a, a = L[i]'hil := ⟨_, rfl⟩
    rw [← ha] at a1 a3 htk
    have HTK := Lib.hid htk
    have ka := (HB.out.cell (World.block_lt_of_cell? w _ a1)).trans a1
    have kc := (HB.out.cell (World.block_lt_of_cell? w _ a3)).trans a3
    obtain ⟨an, av⟩ := a
    simp only at ka kc
    have hln : (i : Int) < (n : Int) := by omega
    clear a1 a3 htk ha hil
    go_upto_region 5 with fail
    obtain ⟨b, hb⟩ : ∃ b, b = wr.heap.size := ⟨_, rfl⟩
    obtain ⟨w1, hw1⟩ : ∃ w1, w1 = wr.alloc (.cells #[.string an, .string av] 90) := ⟨_, rfl⟩
    have hbk : Blk w1 b 90 #[.string an, .string av] := by rw [hw1, hb]; exact Blk.new wr _ _
    have k0 : w1.cell? ⟨b, 0, none⟩ = some (.string an) := hbk.cell 0
    have k1 : w1.cell? ⟨b, 1, none⟩ = some (.string av) := hbk.cell 1
    have HO1 : Hid (w1.ownsRow w.heap.size 87 3 (.slice Ao i co) i (catR7 ((L.take i).map pvA))) := Lib.hid (by rw [hw1]; exact HO.out.alloc _)
    have HB1 : Hid (Below w.heap.size w w1) := Lib.hid (by rw [hw1]; exact HB.out.alloc HB.out.size _)
    have HK := Lib.hid hbk
    rw [← hw1, ← hb]
    clear hbk hw1 hb ka kc HO HB
    go_upto_region 6 with fail
    obtain ⟨b2, hb2⟩ : ∃ b2, b2 = w1.heap.size := ⟨_, rfl⟩
    obtain ⟨w2, hw2⟩ : ∃ w2, w2 = w1.alloc (.cells #[.string an, .int .i64 0, .string av] 87) := ⟨_, rfl⟩
    have hbk2 : Blk w2 b2 87 #[.string an, .int .i64 0, .string av] := by rw [hw2, hb2]; exact Blk.new w1 _ _
    have HB2 : Hid (Below w.heap.size w w2) := Lib.hid (by rw [hw2]; exact HB1.out.alloc HB1.out.size _)
    have HO2 : Hid (w2.ownsRow w.heap.size 87 3 (.slice Ao i co) i (catR7 ((L.take i).map pvA))) := Lib.hid (by rw [hw2]; exact HO1.out.alloc _)
    have hne : (Value.slice Ao i co).ownBlock ≠ some b2 := fun e => by
      obtain ⟨_, cur, hc⟩ := own_is HO1.out e
      have := Blk.lt (show Blk w1 b2 _ cur from hc)
      omega
    have hbge : w.heap.size ≤ b2 := by rw [hb2]; exact HB1.out.size
    have k2 : w2.cell? ⟨b, 1, none⟩ = some (.string av) := by rw [hw2]; exact (HK.out.alloc _).cell 1
    have HK2 := Lib.hid hbk2
    have HNE := Lib.hid hne
    rw [← hw2, ← hb2]
    clear hbk2 hw2 hb2 k0 k1 HO1 HB1 HK hne
    by_cases hv : 1 ≤ av.size
    · have n0 := str_ne hv
      have HTK2 : Hid ((L.take (i + 1)).map pvA = (L.take i).map pvA ++ [⟨an, 3, av⟩]) := Lib.hid (by rw [HTK.out]; unfold pvA; rw [if_neg (by show ¬ av.size = 0; omega)])
      have fz : w2.frozen? ⟨b2, 1, none⟩ = false := HK2.out.frozen 1
      have k9 : w2.cell? ⟨b2, 1, none⟩ = some (.int .i64 0) := HK2.out.cell 1
      clear hv
      go_upto_region 8 with fail
      obtain ⟨w3, hw3⟩ : ∃ w3, w3 = w2.setCell ⟨b2, 1, none⟩ (.int .i64 3) := ⟨_, rfl⟩
      have hbk3 : Blk w3 b2 87 #[.string an, .int .i64 3, .string av] := by
        have := HK2.out.set_ 1 (.int .i64 3)
        rw [hw3]
        simpa using this
      have hu3 : Upd (fun k => k = b2) w2 w3 := by rw [hw3]; exact (Upd.refl (fun k => k = b2) _).setCell (p := ⟨b2, 1, none⟩) (.inl rfl) _
      have HB3 : Hid (Below w.heap.size w w3) := Lib.hid (HB2.out.trans (hu3.below (fun k hk => by rw [hk]; exact hbge) HB2.out.size))
      have HO3 := Lib.hid (own_upd HO2.out hu3 (fun k hk e => HNE.out (by rw [hk, e])))
      have k0 : w3.cell? ⟨b2, 0, none⟩ = some (.string an) := hbk3.cell 0
      have k1 : w3.cell? ⟨b2, 1, none⟩ = some (.int .i64 3) := hbk3.cell 1
      have k3 : w3.cell? ⟨b2, 2, none⟩ = some (.string av) := hbk3.cell 2
      rw [← hw3]
      clear hw3 hbk3 hu3 fz k9 k2 HO2 HB2 HK2 HNE
      have hs1 := HB3.out.size
      go_wp2_with (at_builtin; refine wpList_append_any _ rfl (.tmp 22) (.tmp 24) 23 rfl w.heap.size 87 i0 _ 3 40 Tryz.underlying23 hi0 hz0 hz1 hz2 rfl (by decide) _ i _ rfl (HO3.out.alloc _) (w3.heap.size + 1) (some ⟨w3.heap.size, 0, none⟩) 1 1 [.string an, .int .i64 3, .string av] rfl (reads_three (Blk.new w3 _ _) (by simp)) (fun u hu => by simp at hu; rcases hu with rfl | rfl | rfl <;> rfl) (by unfold maxLen; omega) (by omega) (by simp; omega) ?_; intro v5 w5 hown5 hg5 hat5; have hup5 : Upd (fun m => (Value.slice Ao i co).ownBlock = some m) w3 w5 := ((Upd.refl _ w3).alloc _).grown hg5 (fun m hm => .inl hm); have HB5 := Lib.hid (HB3.out.trans (hup5.below (fun m hm => (own_is HO3.out hm).1) hs1)); obtain ⟨A5, c5, rfl⟩ := own_shape hown5; have HOW5 := Lib.hid hown5; clear hown5 hg5 hat5 hup5)
      refine ⟨⟨i + 1, c5, A5, rfl, by go_num, by omega, Lib.hid (by rw [HTK2.out, catR_snoc]; exact HOW5.out), HB5⟩, ?_⟩
      show n - ((i : Int) + 1).toNat < n - (i : Int).toNat
      omega
    · have hv0 := str_nil hv
      have n0 : av.toList.isEmpty = true := by rw [hv0, ByteArray.toList_eq]; rfl
      have HTK2 : Hid ((L.take (i + 1)).map pvA = (L.take i).map pvA ++ [⟨an, 0, av⟩]) := Lib.hid (by rw [HTK.out]; unfold pvA; rw [if_pos (by show av.size = 0; omega)])
      have k0 : w2.cell? ⟨b2, 0, none⟩ = some (.string an) := HK2.out.cell 0
      have k1 : w2.cell? ⟨b2, 1, none⟩ = some (.int .i64 0) := HK2.out.cell 1
      have k3 : w2.cell? ⟨b2, 2, none⟩ = some (.string av) := HK2.out.cell 2
      have hs1 := HB2.out.size
      clear hv hv0 HK2 HNE
      go_wp2_with (at_builtin; refine wpList_append_any _ rfl (.tmp 22) (.tmp 24) 23 rfl w.heap.size 87 i0 _ 3 40 Tryz.underlying23 hi0 hz0 hz1 hz2 rfl (by decide) _ i _ rfl (HO2.out.alloc _) (w2.heap.size + 1) (some ⟨w2.heap.size, 0, none⟩) 1 1 [.string an, .int .i64 0, .string av] rfl (reads_three (Blk.new w2 _ _) (by simp)) (fun u hu => by simp at hu; rcases hu with rfl | rfl | rfl <;> rfl) (by unfold maxLen; omega) (by omega) (by simp; omega) ?_; intro v5 w5 hown5 hg5 hat5; have hup5 : Upd (fun m => (Value.slice Ao i co).ownBlock = some m) w2 w5 := ((Upd.refl _ w2).alloc _).grown hg5 (fun m hm => .inl hm); have HB5 := Lib.hid (HB2.out.trans (hup5.below (fun m hm => (own_is HO2.out hm).1) hs1)); obtain ⟨A5, c5, rfl⟩ := own_shape hown5; have HOW5 := Lib.hid hown5; clear hown5 hg5 hat5 hup5)
      refine ⟨⟨i + 1, c5, A5, rfl, by go_num, by omega, Lib.hid (by rw [HTK2.out, catR_snoc]; exact HOW5.out), HB5⟩, ?_⟩
      show n - ((i : Int) + 1).toNat < n - (i : Int).toNat
      omega
set_option maxRecDepth 100000 in
set_option maxHeartbeats 4000000 in
theorem RelProvides_any (v : Value) (L : List RP) (w : World) (h : PrsAt w v L) (hl : L.length ≤ 1048576) (hsz : ∀ a ∈ L, a.n.size ≤ 1048576 ∧ a.v.size ≤ 1048576) :
    Calls Tryz.prog 32 #[v] w fun e w' => e = .returned (.string (Rl.tob (ltx ((L.map pvA).map (fun a => [a]))))) ∧ Below w.heap.size w w' := by
  obtain ⟨i0, hi0, hz0, hz1, hz2⟩ := info_parts atom_row
  obtain ⟨X, hX⟩ : ∃ X, X = Rl.tob (ltx ((L.map pvA).map (fun a => [a]))) := ⟨_, rfl⟩
  rw [← hX]
  have HXX := Lib.hid hX
  clear hX
  obtain ⟨A, cA, rfl, hcA, hA⟩ := h
  have HA := Lib.hid hA
  obtain ⟨n, hn⟩ : ∃ n, n = L.length := ⟨_, rfl⟩
  rw [← hn] at hl ⊢
  have HN := Lib.hid hn
  have HSZ := Lib.hid hsz
  clear hA hcA hn hsz
  go_enter Tryz.func32, Tryz.ntmps32
  go_wp2_with fail
  go_loopw [3, 9] (fun u t wr => ∃ (i co : Nat) (Ao : Option Addr), u = .slice Ao i co ∧ t = .int .i64 (i : Int) ∧ i ≤ n ∧ Hid (wr.ownsRow w.heap.size 87 3 (.slice Ao i co) i (catR7 ((L.take i).map pvA))) ∧ Hid (Below w.heap.size w wr)) (fun _ t _ => n - (match t with | .int _ x => x.toNat | _ => 0))
  case atStart => exact ⟨0, 0, none, rfl, rfl, Nat.zero_le _, Lib.hid (World.ownsRow_nil _ _ _ _), Lib.hid (Below.refl _ _)⟩
  case round =>
    obtain ⟨i, co, Ao, rfl, rfl, hi, HO, HB⟩ := hrel
    by_cases hlt : i < n
    case neg =>
      have hnn : ¬ (i : Int) < (n : Int) := by omega
      have HC := Lib.hid (show AtsAt wr (.slice Ao i co) (L.map pvA) from AtsAt.of_row7 (base := w.heap.size) (by have := HO.out; rwa [List.take_of_length_le (by have := HN.out; omega)] at this) (by rw [List.length_map]; have := HN.out; omega))
      have hT := (RelAtoms_any _ _ wr HC.out (by rw [List.length_map]; have := HN.out; omega) (fun a ha => by
        obtain ⟨b, hb, rfl⟩ := List.mem_map.1 ha
        exact HSZ.out b hb))
      rw [← HXX.out] at hT
      have HT := Lib.hid hT
      clear hT
      go_wp2_with (go_at_call 31; refine HT.out.mono ?_; rintro e w2 ⟨rfl, hb2⟩)
      go_ret
      exact ⟨rfl, HB.out.trans (hb2.mono HB.out.size)⟩
    obtain ⟨g, o, e1, a1, a3⟩ := HA.out i (by have := HN.out; omega)
    subst e1
    have hil : i < L.length := by have := HN.out; omega
    have htk := take_map_succ pvA L i hil
    obtain ⟨a, ha⟩ : ∃ a, a = L[i]'hil := ⟨_, rfl⟩
    rw [← ha] at a1 a3 htk
    have HTK := Lib.hid htk
    have ka := (HB.out.cell (World.block_lt_of_cell? w _ a1)).trans a1
    have kc := (HB.out.cell (World.block_lt_of_cell? w _ a3)).trans a3
    obtain ⟨an, av⟩ := a
    simp only at ka kc
    have hln : (i : Int) < (n : Int) := by omega
    clear a1 a3 htk ha hil
    go_upto_region 5 with fail
    obtain ⟨b, hb⟩ : ∃ b, b = wr.heap.size := ⟨_, rfl⟩
    obtain ⟨w1, hw1⟩ : ∃ w1, w1 = wr.alloc (.cells #[.string an, .string av] 90) := ⟨_, rfl⟩
    have hbk : Blk w1 b 90 #[.string an, .string av] := by rw [hw1, hb]; exact Blk.new wr _ _
    have k0 : w1.cell? ⟨b, 0, none⟩ = some (.string an) := hbk.cell 0
    have k1 : w1.cell? ⟨b, 1, none⟩ = some (.string av) := hbk.cell 1
    have HO1 : Hid (w1.ownsRow w.heap.size 87 3 (.slice Ao i co) i (catR7 ((L.take i).map pvA))) := Lib.hid (by rw [hw1]; exact HO.out.alloc _)
    have HB1 : Hid (Below w.heap.size w w1) := Lib.hid (by rw [hw1]; exact HB.out.alloc HB.out.size _)
    have HK := Lib.hid hbk
    rw [← hw1, ← hb]
    clear hbk hw1 hb ka kc HO HB
    go_upto_region 6 with fail
    obtain ⟨b2, hb2⟩ : ∃ b2, b2 = w1.heap.size := ⟨_, rfl⟩
    obtain ⟨w2, hw2⟩ : ∃ w2, w2 = w1.alloc (.cells #[.string an, .int .i64 0, .string av] 87) := ⟨_, rfl⟩
    have hbk2 : Blk w2 b2 87 #[.string an, .int .i64 0, .string av] := by rw [hw2, hb2]; exact Blk.new w1 _ _
    have HB2 : Hid (Below w.heap.size w w2) := Lib.hid (by rw [hw2]; exact HB1.out.alloc HB1.out.size _)
    have HO2 : Hid (w2.ownsRow w.heap.size 87 3 (.slice Ao i co) i (catR7 ((L.take i).map pvA))) := Lib.hid (by rw [hw2]; exact HO1.out.alloc _)
    have hne : (Value.slice Ao i co).ownBlock ≠ some b2 := fun e => by
      obtain ⟨_, cur, hc⟩ := own_is HO1.out e
      have := Blk.lt (show Blk w1 b2 _ cur from hc)
      omega
    have hbge : w.heap.size ≤ b2 := by rw [hb2]; exact HB1.out.size
    have k2 : w2.cell? ⟨b, 1, none⟩ = some (.string av) := by rw [hw2]; exact (HK.out.alloc _).cell 1
    have HK2 := Lib.hid hbk2
    have HNE := Lib.hid hne
    rw [← hw2, ← hb2]
    clear hbk2 hw2 hb2 k0 k1 HO1 HB1 HK hne
    by_cases hv : 1 ≤ av.size
    · have n0 := str_ne hv
      have HTK2 : Hid ((L.take (i + 1)).map pvA = (L.take i).map pvA ++ [⟨an, 3, av⟩]) := Lib.hid (by rw [HTK.out]; unfold pvA; rw [if_neg (by show ¬ av.size = 0; omega)])
      have fz : w2.frozen? ⟨b2, 1, none⟩ = false := HK2.out.frozen 1
      have k9 : w2.cell? ⟨b2, 1, none⟩ = some (.int .i64 0) := HK2.out.cell 1
      clear hv
      go_upto_region 8 with fail
      obtain ⟨w3, hw3⟩ : ∃ w3, w3 = w2.setCell ⟨b2, 1, none⟩ (.int .i64 3) := ⟨_, rfl⟩
      have hbk3 : Blk w3 b2 87 #[.string an, .int .i64 3, .string av] := by
        have := HK2.out.set_ 1 (.int .i64 3)
        rw [hw3]
        simpa using this
      have hu3 : Upd (fun k => k = b2) w2 w3 := by rw [hw3]; exact (Upd.refl (fun k => k = b2) _).setCell (p := ⟨b2, 1, none⟩) (.inl rfl) _
      have HB3 : Hid (Below w.heap.size w w3) := Lib.hid (HB2.out.trans (hu3.below (fun k hk => by rw [hk]; exact hbge) HB2.out.size))
      have HO3 := Lib.hid (own_upd HO2.out hu3 (fun k hk e => HNE.out (by rw [hk, e])))
      have k0 : w3.cell? ⟨b2, 0, none⟩ = some (.string an) := hbk3.cell 0
      have k1 : w3.cell? ⟨b2, 1, none⟩ = some (.int .i64 3) := hbk3.cell 1
      have k3 : w3.cell? ⟨b2, 2, none⟩ = some (.string av) := hbk3.cell 2
      rw [← hw3]
      clear hw3 hbk3 hu3 fz k9 k2 HO2 HB2 HK2 HNE
      have hs1 := HB3.out.size
      go_wp2_with (at_builtin; refine wpList_append_any _ rfl (.tmp 22) (.tmp 24) 23 rfl w.heap.size 87 i0 _ 3 40 Tryz.underlying23 hi0 hz0 hz1 hz2 rfl (by decide) _ i _ rfl (HO3.out.alloc _) (w3.heap.size + 1) (some ⟨w3.heap.size, 0, none⟩) 1 1 [.string an, .int .i64 3, .string av] rfl (reads_three (Blk.new w3 _ _) (by simp)) (fun u hu => by simp at hu; rcases hu with rfl | rfl | rfl <;> rfl) (by unfold maxLen; omega) (by omega) (by simp; omega) ?_; intro v5 w5 hown5 hg5 hat5; have hup5 : Upd (fun m => (Value.slice Ao i co).ownBlock = some m) w3 w5 := ((Upd.refl _ w3).alloc _).grown hg5 (fun m hm => .inl hm); have HB5 := Lib.hid (HB3.out.trans (hup5.below (fun m hm => (own_is HO3.out hm).1) hs1)); obtain ⟨A5, c5, rfl⟩ := own_shape hown5; have HOW5 := Lib.hid hown5; clear hown5 hg5 hat5 hup5)
      refine ⟨⟨i + 1, c5, A5, rfl, by go_num, by omega, Lib.hid (by rw [HTK2.out, catR_snoc]; exact HOW5.out), HB5⟩, ?_⟩
      show n - ((i : Int) + 1).toNat < n - (i : Int).toNat
      omega
    · have hv0 := str_nil hv
      have n0 : av.toList.isEmpty = true := by rw [hv0, ByteArray.toList_eq]; rfl
      have HTK2 : Hid ((L.take (i + 1)).map pvA = (L.take i).map pvA ++ [⟨an, 0, av⟩]) := Lib.hid (by rw [HTK.out]; unfold pvA; rw [if_pos (by show av.size = 0; omega)])
      have k0 : w2.cell? ⟨b2, 0, none⟩ = some (.string an) := HK2.out.cell 0
      have k1 : w2.cell? ⟨b2, 1, none⟩ = some (.int .i64 0) := HK2.out.cell 1
      have k3 : w2.cell? ⟨b2, 2, none⟩ = some (.string av) := HK2.out.cell 2
      have hs1 := HB2.out.size
      clear hv hv0 HK2 HNE
      go_wp2_with (at_builtin; refine wpList_append_any _ rfl (.tmp 22) (.tmp 24) 23 rfl w.heap.size 87 i0 _ 3 40 Tryz.underlying23 hi0 hz0 hz1 hz2 rfl (by decide) _ i _ rfl (HO2.out.alloc _) (w2.heap.size + 1) (some ⟨w2.heap.size, 0, none⟩) 1 1 [.string an, .int .i64 0, .string av] rfl (reads_three (Blk.new w2 _ _) (by simp)) (fun u hu => by simp at hu; rcases hu with rfl | rfl | rfl <;> rfl) (by unfold maxLen; omega) (by omega) (by simp; omega) ?_; intro v5 w5 hown5 hg5 hat5; have hup5 : Upd (fun m => (Value.slice Ao i co).ownBlock = some m) w2 w5 := ((Upd.refl _ w2).alloc _).grown hg5 (fun m hm => .inl hm); have HB5 := Lib.hid (HB2.out.trans (hup5.below (fun m hm => (own_is HO2.out hm).1) hs1)); obtain ⟨A5, c5, rfl⟩ := own_shape hown5; have HOW5 := Lib.hid hown5; clear hown5 hg5 hat5 hup5)
      refine ⟨⟨i + 1, c5, A5, rfl, by go_num, by omega, Lib.hid (by rw [HTK2.out, catR_snoc]; exact HOW5.out), HB5⟩, ?_⟩
      show n - ((i : Int) + 1).toNat < n - (i : Int).toNat
      omega
end Go.Proofs.YtjkaigfpjebfbaaGreatDoor
