/- relation.parse. -/
import Derived.Test.YtjkaigfpjebfbaaGreatDoorRk
namespace Go.Proofs.YtjkaigfpjebfbaaGreatDoor
open Go.RowKit
set_option linter.unusedVariables false

theorem own_mono {w : World} {base base' : Nat} {e : TypeId} {size n : Nat} {v : Value} {xs : List Value} (h : w.ownsRow base e size v n xs) (hb : base' ≤ base) : w.ownsRow base' e size v n xs := by
  refine ⟨h.1, ?_⟩
  rcases h.2 with h2 | ⟨g, cap, cur, h1, h2, h3⟩
  · exact .inl h2
  · exact .inr ⟨g, cap, cur, h1, Nat.le_trans hb h2, h3⟩
/-- A block of atoms. -/
def IsA (w : World) (g : Nat) : Prop := ∃ cs fr, w.heap[g]? = some (.cells cs 87 fr)
theorem IsA.upd {T : Nat → Prop} {w w' : World} {g : Nat} (h : IsA w g) (hu : Upd T w w') (hT : ¬ T g) : IsA w' g := by
  obtain ⟨cs, fr, h8⟩ := h
  exact ⟨cs, fr, (hu.block g (Array.getElem?_eq_some_iff.1 h8).1 hT).trans h8⟩
theorem IsA.lt {w : World} {g : Nat} (h : IsA w g) : g < w.heap.size := by
  obtain ⟨cs, fr, h8⟩ := h
  exact (Array.getElem?_eq_some_iff.1 h8).1
theorem IsA.no {w : World} {g : Nat} {t : TypeId} {C : Array Value} (h : IsA w g) (hb : Blk w g t C) (ht : t ≠ 87) : False := by
  obtain ⟨cs, fr, h8⟩ := h
  unfold Blk at hb
  rw [hb] at h8
  injection h8 with h8
  injection h8 with _ h9
  exact ht h9
theorem own_noA {w : World} {base : Nat} {e : TypeId} {size n : Nat} {v : Value} {xs : List Value} (h : w.ownsRow base e size v n xs) (he : e ≠ 87) {k : Nat} (hk : v.ownBlock = some k) : ¬ IsA w k := by
  obtain ⟨_, cur, hc⟩ := own_is h hk
  intro hA
  exact hA.no (show Blk w k e cur from hc) he
theorem Reads.upd3 {T : Nat → Prop} {w w' : World} {A : Option Addr} {n : Nat} {xs : List Value} (h : Reads w w.heap.size 3 A n xs) (hu : Upd T w w') (hT : ∀ a, A = some a → 0 < n → ¬ T a.block) : Reads w' w'.heap.size 3 A n xs :=
  ⟨h.1, fun hn => by
    obtain ⟨ad, e, hb, hc⟩ := h.2 hn
    refine ⟨ad, e, Nat.lt_of_lt_of_le hb hu.size, fun j u hj => ?_⟩
    rw [hu.cell (by rw [block_of_add]; exact hb) (by rw [block_of_add]; exact hT ad e hn)]
    exact hc j u hj⟩
/-- The rows xs of atoms read as L. -/
def AIn (w : World) (xs : List Value) (L : List (List Rl.Atm)) : Prop :=
  xs.length = L.length ∧ ∀ j, j < L.length → ∃ Aj cj, xs[j]? = some (.slice Aj (L.getD j []).length cj) ∧ (L.getD j []).length ≤ cj ∧ Reads w w.heap.size 3 Aj (L.getD j []).length (catA (L.getD j [])) ∧ ∀ a, Aj = some a → a.spot = none ∧ IsA w a.block
theorem AIn.nil (w : World) : AIn w [] [] := ⟨rfl, fun j h => absurd h (by simp)⟩
theorem AIn.upd {T : Nat → Prop} {w w' : World} {xs : List Value} {L : List (List Rl.Atm)} (h : AIn w xs L) (hu : Upd T w w') (hT : ∀ k, T k → ¬ IsA w k) : AIn w' xs L :=
  ⟨h.1, fun j hj => by
    obtain ⟨Aj, cj, h1, h0, h2, h3⟩ := h.2 j hj
    exact ⟨Aj, cj, h1, h0, h2.upd3 hu (fun a e _ ht => hT _ ht (h3 a e).2), fun a e => ⟨(h3 a e).1, (h3 a e).2.upd hu (fun ht => hT _ ht (h3 a e).2)⟩⟩⟩
theorem AIn.snoc {w : World} {xs : List Value} {L : List (List Rl.Atm)} {A : Option Addr} {c base : Nat} {l : List Rl.Atm} (h : AIn w xs L) (hl : w.ownsRow base 87 3 (.slice A l.length c) l.length (catA l)) : AIn w (xs ++ [.slice A l.length c]) (L ++ [l]) := by
  refine ⟨by simp [h.1], fun j hj => ?_⟩
  rw [List.length_append] at hj
  by_cases e : j < L.length
  · obtain ⟨Aj, cj, h1, h2⟩ := h.2 j e
    have e2 : (L ++ [l]).getD j [] = L.getD j [] := by rw [List.getD_eq_getElem?_getD, List.getD_eq_getElem?_getD, List.getElem?_append_left e]
    rw [e2]
    exact ⟨Aj, cj, by rw [List.getElem?_append_left (by rw [h.1]; exact e)]; exact h1, h2⟩
  · have e3 : j = L.length := by simp at hj; omega
    subst e3
    have e2 : (L ++ [l]).getD L.length [] = l := by simp
    rw [e2]
    refine ⟨A, c, by rw [← h.1]; simp, ?_, Reads.of_own hl, fun a ha => ?_⟩
    · rcases hl.2 with ⟨h0, h9⟩ | ⟨g, cap, cur, h0, _, _, h9, _⟩
      · omega
      · injection h0 with _ _ h0; omega
    · subst ha
      rcases hl.2 with ⟨h0, _⟩ | ⟨g, cap, cur, h0, _, hc, _⟩
      · cases h0
      · injection h0 with h0 _ _
        injection h0 with h0
        subst h0
        exact ⟨rfl, cur, (0, 0), hc⟩
theorem cl_row : (Tryz.prog.info? 55).map (fun i => (i.zero, i.size, i.bytes)) = some (some (.slice none 0 0), 1, 24) := by kernel_rfl
/-- What parse hands back. -/
def ParRes (w w' : World) (e : Ending) : Rl.Rd (List (List Rl.Atm)) → Prop
  | .many => e = .returned (.tuple #[.slice none 0 0, .int .i64 12])
  | .form => e = .returned (.tuple #[.slice none 0 0, .int .i64 3])
  | .ok L => ∃ A c xs, e = .returned (.tuple #[.slice A L.length c, .int .i64 0]) ∧ w'.ownsRow w.heap.size 55 1 (.slice A L.length c) L.length xs ∧ AIn w' xs L
theorem ParRes.mk {w w' : World} {m c : Nat} {A : Option Addr} {e : Ending} {L : List (List Rl.Atm)} {xs : List Value} (he : e = .returned (.tuple #[.slice A m c, .int .i64 0])) (hm : L.length = m) (ho : w'.ownsRow w.heap.size 55 1 (.slice A m c) m xs) (hi : AIn w' xs L) : ParRes w w' e (.ok L) := by
  subst hm
  exact ⟨A, c, xs, he, ho, hi⟩
theorem tk_len : ∀ (l cur : Rl.Bs) (was : Nat), (Rl.tk l cur was).length ≤ l.length + (if cur = [] then 0 else 1)
  | [], cur, was => by
    unfold Rl.tk
    split
    · next h => rw [if_neg h.2]; simp
    · simp
  | b :: r, cur, was => by
    rw [Rl.tk_cons]
    have h1 := tk_len r [b] (Rl.cls b)
    have h2 := tk_len r (cur ++ [b]) was
    rw [if_neg (by simp)] at h1 h2
    have h3 : (b :: r).length = r.length + 1 := rfl
    split
    · split
      · next h => rw [if_neg h.2]; simp only [List.length_cons]; omega
      · split <;> omega
    · split <;> omega
theorem tk_each : ∀ (l cur : Rl.Bs) (was : Nat), ∀ t ∈ Rl.tk l cur was, t.length ≤ cur.length + l.length
  | [], cur, was, t, h => by
    unfold Rl.tk at h
    split at h
    · simp at h; subst h; simp
    · cases h
  | b :: r, cur, was, t, h => by
    rw [Rl.tk_cons] at h
    have h1 := tk_each r [b] (Rl.cls b) t
    have h2 := tk_each r (cur ++ [b]) was t
    have h3 : (b :: r).length = r.length + 1 := rfl
    simp only [List.length_append, List.length_cons, List.length_nil] at h1 h2
    split at h
    · split at h
      · rcases List.mem_cons.1 h with rfl | h
        · omega
        · have := h1 h; omega
      · have := h1 h; omega
    · have := h2 h; omega
theorem txts_of {w : World} {base : Nat} {A : Option Addr} {c : Nat} {T : List Rl.Bs} (h : w.ownsRow base 9 1 (.slice A (T.map Rl.tob).length c) (T.map Rl.tob).length ((T.map Rl.tob).map Value.string)) : Txts w A T.length T ∧ T.length ≤ c ∧ ∀ b o, A = some ⟨b, o, none⟩ → b < w.heap.size := by
  rw [List.length_map] at h
  have hr := Reads.of_own h
  refine ⟨⟨rfl, fun h0 => ?_⟩, ?_, fun b o e => ?_⟩
  · rcases h.2 with ⟨_, h9⟩ | ⟨g, cap, cur, h1, _, hc, _⟩
    · omega
    · injection h1 with h1 _ _
      obtain ⟨ad, e, hb, hcell⟩ := hr.2 h0
      subst h1
      injection e with e
      subst e
      refine ⟨g, 0, rfl, hb, fun k hk => ?_⟩
      have := hcell k (.string (Rl.tob (T.getD k []))) (by
        rw [List.getElem?_map, List.getElem?_map, List.getElem?_eq_getElem hk, List.getD_eq_getElem?_getD, List.getElem?_eq_getElem hk]; rfl)
      have e2 : (⟨g, 0, none⟩ : Addr).add k = ⟨g, 0 + k, none⟩ := by unfold Addr.add; simp; intro h; exact h.symm
      rw [e2] at this
      exact this
  · rcases h.2 with ⟨_, h9⟩ | ⟨g, cap, cur, h1, _, _, h9, _⟩
    · omega
    · injection h1 with _ _ h1; omega
  · rcases h.2 with ⟨h1, _⟩ | ⟨g, cap, cur, h1, _, hc, _⟩
    · injection h1 with h1 _ _; rw [h1] at e; cases e
    · injection h1 with h1 _ _
      rw [h1] at e
      injection e with e
      injection e with e _
      rw [← e]
      exact (Array.getElem?_eq_some_iff.1 hc).1
theorem clauseP_mem {mf : Rl.Atm → Bool} {one : Bool} : ∀ (d : Nat) {T T' : List Rl.Bs} {out l : List Rl.Atm}, Rl.clauseP nmL verL mf one d T out = .ok (l, T') → ∀ t ∈ T', t ∈ T
  | 0, T, T', out, l, h => by cases h
  | d + 1, T, T', out, l, h => by
    intro t ht
    unfold Rl.clauseP at h
    cases hap : Rl.atomP nmL verL T with
    | mk o T1 =>
      rw [hap] at h
      cases o with
      | none => cases h
      | some a =>
        simp only at h
        split at h
        · split at h
          · injection h with h; injection h with _ h; subst h
            exact atomP_mem hap t ht
          · cases hi : Rl.isT [124] T1 with
            | none =>
              rw [hi] at h
              injection h with h; injection h with _ h; subst h
              exact atomP_mem hap t ht
            | some T2 =>
              rw [hi] at h
              exact atomP_mem hap t (isT_mem hi (clauseP_mem d h t ht))
        · cases h
set_option maxRecDepth 100000 in
set_option maxHeartbeats 8000000 in
theorem parse_any (s : ByteArray) (one : Bool) (w : World) (hs : s.size ≤ 1048576) :
    Calls Tryz.prog 65 #[.string s, .func (.func 66) #[] #[], .bool one] w fun e w' => Below w.heap.size w w' ∧ ParRes w w' e (Rl.allP nmL verL anyF one (bl s)) := by
  obtain ⟨i0, hi0, hz0, hz1, hz2⟩ := info_parts cl_row
  have HWD := Lib.hid (words_any s w hs)
  obtain ⟨T, hT⟩ : ∃ T, T = Rl.toks (bl s) := ⟨_, rfl⟩
  have HDN : Hid (Rl.done s = T.map Rl.tob) := Lib.hid (by rw [hT]; rfl)
  have htl : T.length ≤ 1048576 := by
    rw [hT]
    have := tk_len (bl s) [] 1
    rw [if_pos rfl, bl_len] at this
    unfold Rl.toks
    omega
  have HTE : Hid (∀ t ∈ T, t.length ≤ 1048576) := Lib.hid (fun t ht => by
    rw [hT] at ht
    have := tk_each (bl s) [] 1 t ht
    rw [bl_len] at this
    simp at this
    omega)
  obtain ⟨RS, hRS⟩ : ∃ RS, RS = Rl.allP nmL verL anyF one (bl s) := ⟨_, rfl⟩
  rw [← hRS]
  have HRS : Hid (RS = if T = [] then .ok [] else Rl.parseP nmL verL anyF one 12 T []) := Lib.hid (by rw [hRS, hT]; rfl)
  clear hRS hT
  go_enter Tryz.func65, Tryz.ntmps65
  go_wp2_with fail
  go_at_call 83
  refine HWD.out.mono ?_
  rintro e w1 ⟨v, rfl, ⟨A, c, rfl, hown⟩, hb1⟩
  rw [HDN.out] at hown
  obtain ⟨htx, htc, hlt⟩ := txts_of hown
  have hlm : (Rl.done s).length = T.length := by rw [HDN.out, List.length_map]
  rw [hlm]
  obtain ⟨N, hN⟩ : ∃ N, N = T.length := ⟨_, rfl⟩
  rw [← hN] at htx htc htl ⊢
  obtain ⟨q, hq⟩ : ∃ q, q = w1.heap.size := ⟨_, rfl⟩
  obtain ⟨W2, hW2⟩ : ∃ W2, W2 = w1.alloc (.cells #[.slice A N c] 122) := ⟨_, rfl⟩
  have hb2 : Below w1.heap.size w1 W2 := by rw [hW2]; exact (Below.refl _ _).alloc (Nat.le_refl _) _
  have hs2 : W2.heap.size = q + 1 := by rw [hW2, hq, World.size_alloc]
  have hrd : RdAt W2 q W2.heap.size A N c T := ⟨by rw [hW2, hq]; exact Blk.new _ _ _, htx.upd (Upd.of_below hb2 (T := fun k => w1.heap.size ≤ k) (fun _ _ h => h)) (fun b o e _ h9 => by have := hlt b o e; omega), htc, by omega, fun b o e => by have := hlt b o e; omega⟩
  have HRD := Lib.hid hrd
  have HB2 := Lib.hid (hb1.trans (hb2.mono hb1.size))
  have kq : W2.cell? ⟨q, 0, none⟩ = some (.slice A N c) := hrd.blk.cell 0
  have HQ : Hid (w.heap.size ≤ q) := Lib.hid (by rw [hq]; exact hb1.size)
  have HNN := Lib.hid hN
  obtain ⟨M, hM⟩ : ∃ M, M = W2.heap.size := ⟨_, rfl⟩
  rw [← hM] at HRD
  have HM := Lib.hid hM
  have HQM : Hid (w.heap.size ≤ M) := Lib.hid (by rw [hM]; exact HB2.out.size)
  clear hown htx htc hlt hb1 hb2 hs2 hrd HWD hlm hN hM
  go_upto_region 2 with fail
  rw [← hW2, ← hq]
  clear hW2 hq
  by_cases h0 : N = 0
  · have q0 : ((N : Int) == 0) = true := by rw [beq_iff_eq]; omega
    have HR : Hid (RS = .ok []) := Lib.hid (by rw [HRS.out, if_pos]; exact List.eq_nil_of_length_eq_zero (by rw [← HNN.out]; exact h0))
    subst h0
    go_wp2_with fail
    go_ret2
    rw [HR.out]
    exact ⟨HB2.out, ParRes.mk rfl rfl (World.ownsRow_nil _ _ _ _) (AIn.nil _)⟩
  · have q0 : ((N : Int) == 0) = false := by rw [beq_eq_false_iff_ne]; omega
    have HPL : Hid (Rl.parseP nmL verL anyF one 12 T [] = RS) := Lib.hid (by rw [HRS.out, if_neg]; intro e; rw [e] at HNN; exact h0 HNN.out)
    have HCLA : Hid (∀ (W : World) (A : Option Addr) (n c : Nat) (T : List Rl.Bs), RdAt W q M A n c T → M ≤ W.heap.size → n ≤ 4294967296 → (∀ t ∈ T, t.length ≤ 1048576) → Calls Tryz.prog 84 #[.pointer (some ⟨q, 0, none⟩), .func (.func 66) #[] #[], .bool one] W fun e w' => Upd (fun k => k = q) W w' ∧ ClRes W w' q M n e (Rl.clauseP nmL verL anyF one 6 T [])) := Lib.hid (fun W A n c T h hM hn hs => clause_any q M A n c T one W h hM hn hs)
    have HW2 : Hid (M ≤ W2.heap.size) := Lib.hid (by rw [HM.out]; exact Nat.le_refl _)
    clear h0
    go_wp2_with fail
    go_loopw [9] (fun v wr => ∃ (d m : Nat) (L : List (List Rl.Atm)) (xs : List Value) (Ao : Option Addr) (co : Nat) (A1 : Option Addr) (n1 c1 : Nat) (T1 : List Rl.Bs), v = .slice Ao m co ∧ m + d = 12 ∧ Hid (L.length = m) ∧ n1 ≤ N ∧ Hid (wr.ownsRow M 55 1 (.slice Ao m co) m xs) ∧ Hid (AIn wr xs L) ∧ Hid (RdAt wr q M A1 n1 c1 T1) ∧ Hid (Below w.heap.size w wr ∧ M ≤ wr.heap.size) ∧ Hid (∀ t ∈ T1, t ∈ T) ∧ Hid (Rl.parseP nmL verL anyF one d T1 L = RS)) (fun v _ => match v with | .slice _ m _ => 12 - m | _ => 0)
    case atStart => exact ⟨12, 0, [], [], none, 0, A, N, c, T, rfl, rfl, Lib.hid rfl, Nat.le_refl _, Lib.hid (World.ownsRow_nil _ _ _ _), Lib.hid (AIn.nil _), HRD, Lib.hid ⟨HB2.out, HW2.out⟩, Lib.hid (fun t ht => ht), HPL⟩
    case round =>
      obtain ⟨d, m, L, xs, Ao, co, A1, n1, c1, T1, rfl, hmd, HLN, hn1, HOW, HAI, HR1, HBM, HMEM, HPP⟩ := hrel
      clear HRD HB2 kq HPL HW2
      cases d with
      | zero =>
        have q12 : ((m : Int) == 12) = true := by rw [beq_iff_eq]; omega
        have HR : Hid (RS = .many) := Lib.hid HPP.out.symm
        go_wp2_with fail
        go_ret2
        rw [HR.out]
        exact ⟨HBM.out.1, rfl⟩
      | succ d =>
        have q12 : ((m : Int) == 12) = false := by rw [beq_eq_false_iff_ne]; omega
        have hcl := HCLA.out wr A1 n1 c1 T1 HR1.out HBM.out.2 (by omega) (fun t ht => HTE.out t (HMEM.out t ht))
        obtain ⟨o, ho⟩ : ∃ o, o = Rl.clauseP nmL verL anyF one 6 T1 [] := ⟨_, rfl⟩
        rw [← ho] at hcl
        have HCL := Lib.hid hcl
        have HO := Lib.hid ho
        have hmem : ∀ l T', o = .ok (l, T') → ∀ t ∈ T', t ∈ T := fun l T' e t ht => HMEM.out t (clauseP_mem 6 (ho.symm.trans e) t ht)
        have HMM := Lib.hid hmem
        clear hcl ho hmem
        cases o with
        | many =>
          have HR : Hid (RS = .many) := Lib.hid (by rw [← HPP.out]; unfold Rl.parseP; rw [← HO.out])
          go_wp2_with fail
          go_at_call 84
          refine HCL.out.mono ?_
          rintro e w2 ⟨hu2, rfl⟩
          have HB3 := Lib.hid (HBM.out.1.trans (hu2.below (fun k hk => by have e2 : k = q := hk; rw [e2]; exact HQ.out) HBM.out.1.size))
          clear hu2
          go_wp2_with fail
          go_ret2
          rw [HR.out]
          exact ⟨HB3.out, rfl⟩
        | form =>
          have HR : Hid (RS = .form) := Lib.hid (by rw [← HPP.out]; unfold Rl.parseP; rw [← HO.out])
          go_wp2_with fail
          go_at_call 84
          refine HCL.out.mono ?_
          rintro e w2 ⟨hu2, rfl⟩
          have HB3 := Lib.hid (HBM.out.1.trans (hu2.below (fun k hk => by have e2 : k = q := hk; rw [e2]; exact HQ.out) HBM.out.1.size))
          clear hu2
          go_wp2_with fail
          go_ret2
          rw [HR.out]
          exact ⟨HB3.out, rfl⟩
        | ok x =>
          obtain ⟨l, T2⟩ := x
          have HST : Hid (RS = if T2 = [] then .ok (L ++ [l]) else (Rl.isT [44] T2).elim .form (fun T3 => Rl.parseP nmL verL anyF one d T3 (L ++ [l]))) := Lib.hid (by
            rw [← HPP.out]
            show (match Rl.clauseP nmL verL anyF one 6 T1 [] with | .many => _ | .form => _ | .ok (c, T1) => _) = _
            rw [← HO.out]
            simp only
            cases Rl.isT [44] T2 <;> rfl)
          go_wp2_with fail
          go_at_call 84
          refine HCL.out.mono ?_
          rintro e w2 ⟨hu2, Al, cl, A2, n2, c2, rfl, hol, hr2, hn2⟩
          obtain ⟨k, hk⟩ : ∃ k, k = l.length := ⟨_, rfl⟩
          have hqn : ∀ j, (fun k => k = q) j → ¬ IsA wr j := fun j hj hA => by
            have e2 : j = q := hj
            subst e2
            exact hA.no HR1.out.blk (by decide)
          have hai2 := (HAI.out.upd hu2 hqn).snoc hol
          have how2 := own_upd HOW.out hu2 (fun k hk e => by have e2 : k = q := e; have := (own_is HOW.out hk).1; have := HR1.out.lo.1; omega)
          have HAI2 := Lib.hid hai2
          have HOW2 := Lib.hid how2
          have HR2 := Lib.hid hr2
          have HBM2 : Hid (Below w.heap.size w w2 ∧ M ≤ w2.heap.size) := Lib.hid ⟨HBM.out.1.trans (hu2.below (fun k hk => by have e2 : k = q := hk; rw [e2]; exact HQ.out) HBM.out.1.size), Nat.le_trans HBM.out.2 hu2.size⟩
          have hm2 := HBM2.out.2
          rw [← hk] at HAI2 ⊢
          clear hu2 hol hr2 hqn hai2 how2 HCL HPP HAI HOW HR1 HBM hk
          have hT2n : T2.length = n2 := HR2.out.tx.1
          have HIS0 : Hid (∀ (W : World), RdAt W q M A2 n2 c2 T2 → Calls Tryz.prog 85 #[.pointer (some ⟨q, 0, none⟩), .string ⟨#[44]⟩] W fun e w' => e = .returned (.bool (Rl.isT [44] T2).isSome) ∧ Upd (fun k => k = q) W w' ∧ ∃ A' n' c', RdAt w' q M A' n' c' ((Rl.isT [44] T2).getD T2) ∧ n' ≤ n2) := Lib.hid (fun W h => is_any2 q M A2 n2 c2 T2 [44] W h (by omega))
          have HM3 : Hid (∀ T3, Rl.isT [44] T2 = some T3 → ∀ t ∈ T3, t ∈ T) := Lib.hid (fun T3 h9 t ht => HMM.out l T2 rfl t (isT_mem h9 ht))
          have HT2 := Lib.hid hT2n
          clear hT2n
          obtain ⟨o2, ho2⟩ : ∃ o2, o2 = Rl.isT [44] T2 := ⟨_, rfl⟩
          rw [← ho2] at HIS0 HST HM3
          clear ho2
          by_cases hz : n2 = 0
          · have qz : ((n2 : Int) == 0) = true := by rw [beq_iff_eq]; omega
            have HR : Hid (RS = .ok (L ++ [l])) := Lib.hid (by rw [HST.out, if_pos]; exact List.eq_nil_of_length_eq_zero (by rw [HT2.out]; exact hz))
            clear hz
            go_wp2_with (at_builtin; refine wpList_append_any _ rfl (.tmp 35) (.tmp 37) 22 rfl M 55 i0 _ 1 24 Tryz.underlying22 hi0 hz0 hz1 hz2 rfl (by decide) _ m xs rfl (HOW2.out.alloc _) (w2.heap.size + 1) (some ⟨w2.heap.size, 0, none⟩) 1 1 [.slice Al k cl] rfl (reads_one (Blk.new w2 _ _) (by simp)) (fun u hu => by simp at hu; subst hu; rfl) (by unfold maxLen; omega) (by omega) (by simp; omega) ?_; intro v5 w5 hown5 hg5 hat5; have hup5 : Upd (fun j => (Value.slice Ao m co).ownBlock = some j) w2 w5 := ((Upd.refl _ w2).alloc _).grown hg5 (fun j hj => .inl hj); have HB5 : Hid (Below w.heap.size w w5 ∧ M ≤ w5.heap.size) := Lib.hid ⟨HBM2.out.1.trans (hup5.below (fun j hj => Nat.le_trans HQM.out (own_is HOW2.out hj).1) HBM2.out.1.size), Nat.le_trans hm2 hup5.size⟩; have HR5 := Lib.hid (HR2.out.upd hup5 (fun e => by have := (own_is HOW2.out e).1; have := HR2.out.lo.1; omega) (fun b o e _ h9 => by have := HR2.out.lo.2 b o e; have := (own_is HOW2.out h9).1; omega)); have HAI5 := Lib.hid (HAI2.out.upd hup5 (fun j hj => own_noA HOW2.out (by decide) hj)); have k5 : w5.cell? ⟨q, 0, none⟩ = some (.slice A2 n2 c2) := HR5.out.blk.cell 0; obtain ⟨A5, c5, rfl⟩ := own_shape hown5; have HOW5 := Lib.hid hown5; have HLN5 : Hid ((L ++ [l]).length = m + 1) := Lib.hid (by rw [List.length_append, HLN.out]; rfl); clear hown5 hg5 hat5 hup5)
            go_ret2
            rw [HR.out]
            exact ⟨HB5.out.1, ParRes.mk rfl HLN5.out (own_mono HOW5.out HQM.out) HAI5.out⟩
          · have qz : ((n2 : Int) == 0) = false := by rw [beq_eq_false_iff_ne]; omega
            have HST2 : Hid (RS = o2.elim .form (fun T3 => Rl.parseP nmL verL anyF one d T3 (L ++ [l]))) := Lib.hid (by rw [HST.out, if_neg]; intro e; rw [e] at HT2; exact hz HT2.out.symm)
            clear hz
            cases o2 with
            | none =>
              have HR : Hid (RS = .form) := Lib.hid HST2.out
              go_wp2_with (first
                | (at_builtin; refine wpList_append_any _ rfl (.tmp 35) (.tmp 37) 22 rfl M 55 i0 _ 1 24 Tryz.underlying22 hi0 hz0 hz1 hz2 rfl (by decide) _ m xs rfl (HOW2.out.alloc _) (w2.heap.size + 1) (some ⟨w2.heap.size, 0, none⟩) 1 1 [.slice Al k cl] rfl (reads_one (Blk.new w2 _ _) (by simp)) (fun u hu => by simp at hu; subst hu; rfl) (by unfold maxLen; omega) (by omega) (by simp; omega) ?_; intro v5 w5 hown5 hg5 hat5; have hup5 : Upd (fun j => (Value.slice Ao m co).ownBlock = some j) w2 w5 := ((Upd.refl _ w2).alloc _).grown hg5 (fun j hj => .inl hj); have HB5 : Hid (Below w.heap.size w w5 ∧ M ≤ w5.heap.size) := Lib.hid ⟨HBM2.out.1.trans (hup5.below (fun j hj => Nat.le_trans HQM.out (own_is HOW2.out hj).1) HBM2.out.1.size), Nat.le_trans hm2 hup5.size⟩; have HR5 := Lib.hid (HR2.out.upd hup5 (fun e => by have := (own_is HOW2.out e).1; have := HR2.out.lo.1; omega) (fun b o e _ h9 => by have := HR2.out.lo.2 b o e; have := (own_is HOW2.out h9).1; omega)); have HAI5 := Lib.hid (HAI2.out.upd hup5 (fun j hj => own_noA HOW2.out (by decide) hj)); have k5 : w5.cell? ⟨q, 0, none⟩ = some (.slice A2 n2 c2) := HR5.out.blk.cell 0; obtain ⟨A5, c5, rfl⟩ := own_shape hown5; have HOW5 := Lib.hid hown5; have HLN5 : Hid ((L ++ [l]).length = m + 1) := Lib.hid (by rw [List.length_append, HLN.out]; rfl); clear hown5 hg5 hat5 hup5; have HIS5 := Lib.hid (HIS0.out w5 HR5.out))
                | (go_at_call 85; refine HIS5.out.mono ?_; rintro e w6 ⟨rfl, hu6, A6, n6, c6, hr6, hn6⟩; have HB6 := Lib.hid (HB5.out.1.trans (hu6.below (fun k hk => by have e2 : k = q := hk; rw [e2]; exact HQ.out) HB5.out.1.size)); clear hu6 hr6))
              go_ret2
              rw [HR.out]
              exact ⟨HB6.out, rfl⟩
            | some T3 =>
              go_wp2_with (first
                | (at_builtin; refine wpList_append_any _ rfl (.tmp 35) (.tmp 37) 22 rfl M 55 i0 _ 1 24 Tryz.underlying22 hi0 hz0 hz1 hz2 rfl (by decide) _ m xs rfl (HOW2.out.alloc _) (w2.heap.size + 1) (some ⟨w2.heap.size, 0, none⟩) 1 1 [.slice Al k cl] rfl (reads_one (Blk.new w2 _ _) (by simp)) (fun u hu => by simp at hu; subst hu; rfl) (by unfold maxLen; omega) (by omega) (by simp; omega) ?_; intro v5 w5 hown5 hg5 hat5; have hup5 : Upd (fun j => (Value.slice Ao m co).ownBlock = some j) w2 w5 := ((Upd.refl _ w2).alloc _).grown hg5 (fun j hj => .inl hj); have HB5 : Hid (Below w.heap.size w w5 ∧ M ≤ w5.heap.size) := Lib.hid ⟨HBM2.out.1.trans (hup5.below (fun j hj => Nat.le_trans HQM.out (own_is HOW2.out hj).1) HBM2.out.1.size), Nat.le_trans hm2 hup5.size⟩; have HR5 := Lib.hid (HR2.out.upd hup5 (fun e => by have := (own_is HOW2.out e).1; have := HR2.out.lo.1; omega) (fun b o e _ h9 => by have := HR2.out.lo.2 b o e; have := (own_is HOW2.out h9).1; omega)); have HAI5 := Lib.hid (HAI2.out.upd hup5 (fun j hj => own_noA HOW2.out (by decide) hj)); have k5 : w5.cell? ⟨q, 0, none⟩ = some (.slice A2 n2 c2) := HR5.out.blk.cell 0; obtain ⟨A5, c5, rfl⟩ := own_shape hown5; have HOW5 := Lib.hid hown5; have HLN5 : Hid ((L ++ [l]).length = m + 1) := Lib.hid (by rw [List.length_append, HLN.out]; rfl); clear hown5 hg5 hat5 hup5; have HIS5 := Lib.hid (HIS0.out w5 HR5.out))
                | (go_at_call 85; refine HIS5.out.mono ?_; rintro e w6 ⟨rfl, hu6, A6, n6, c6, hr6, hn6⟩; have hr6' : RdAt w6 q M A6 n6 c6 T3 := hr6; have HR6 := Lib.hid hr6'; have HB6 : Hid (Below w.heap.size w w6 ∧ M ≤ w6.heap.size) := Lib.hid ⟨HB5.out.1.trans (hu6.below (fun k hk => by have e2 : k = q := hk; rw [e2]; exact HQ.out) HB5.out.1.size), Nat.le_trans HB5.out.2 hu6.size⟩; have HOW6 := Lib.hid (own_upd HOW5.out hu6 (fun k hk e => by have e2 : k = q := e; have := (own_is HOW5.out hk).1; have := HR5.out.lo.1; omega)); have HAI6 := Lib.hid (HAI5.out.upd hu6 (fun j hj hA => by have e2 : j = q := hj; subst e2; exact hA.no HR5.out.blk (by decide))); clear hu6 hr6 hr6'))
              refine ⟨⟨d, m + 1, L ++ [l], xs ++ [.slice Al k cl], A5, c5, A6, n6, c6, T3, rfl, by omega, HLN5, by omega, HOW6, HAI6, HR6, HB6, Lib.hid (HM3.out T3 rfl), Lib.hid HST2.out.symm⟩, ?_⟩
              show 12 - (m + 1) < 12 - m
              omega
set_option maxRecDepth 100000 in
set_option maxHeartbeats 8000000 in
theorem parse_prov (s : ByteArray) (one : Bool) (w : World) (hs : s.size ≤ 1048576) :
    Calls Tryz.prog 65 #[.string s, .func (.func 67) #[] #[], .bool one] w fun e w' => Below w.heap.size w w' ∧ ParRes w w' e (Rl.allP nmL verL provF one (bl s)) := by
  obtain ⟨i0, hi0, hz0, hz1, hz2⟩ := info_parts cl_row
  have HWD := Lib.hid (words_any s w hs)
  obtain ⟨T, hT⟩ : ∃ T, T = Rl.toks (bl s) := ⟨_, rfl⟩
  have HDN : Hid (Rl.done s = T.map Rl.tob) := Lib.hid (by rw [hT]; rfl)
  have htl : T.length ≤ 1048576 := by
    rw [hT]
    have := tk_len (bl s) [] 1
    rw [if_pos rfl, bl_len] at this
    unfold Rl.toks
    omega
  have HTE : Hid (∀ t ∈ T, t.length ≤ 1048576) := Lib.hid (fun t ht => by
    rw [hT] at ht
    have := tk_each (bl s) [] 1 t ht
    rw [bl_len] at this
    simp at this
    omega)
  obtain ⟨RS, hRS⟩ : ∃ RS, RS = Rl.allP nmL verL provF one (bl s) := ⟨_, rfl⟩
  rw [← hRS]
  have HRS : Hid (RS = if T = [] then .ok [] else Rl.parseP nmL verL provF one 12 T []) := Lib.hid (by rw [hRS, hT]; rfl)
  clear hRS hT
  go_enter Tryz.func65, Tryz.ntmps65
  go_wp2_with fail
  go_at_call 83
  refine HWD.out.mono ?_
  rintro e w1 ⟨v, rfl, ⟨A, c, rfl, hown⟩, hb1⟩
  rw [HDN.out] at hown
  obtain ⟨htx, htc, hlt⟩ := txts_of hown
  have hlm : (Rl.done s).length = T.length := by rw [HDN.out, List.length_map]
  rw [hlm]
  obtain ⟨N, hN⟩ : ∃ N, N = T.length := ⟨_, rfl⟩
  rw [← hN] at htx htc htl ⊢
  obtain ⟨q, hq⟩ : ∃ q, q = w1.heap.size := ⟨_, rfl⟩
  obtain ⟨W2, hW2⟩ : ∃ W2, W2 = w1.alloc (.cells #[.slice A N c] 122) := ⟨_, rfl⟩
  have hb2 : Below w1.heap.size w1 W2 := by rw [hW2]; exact (Below.refl _ _).alloc (Nat.le_refl _) _
  have hs2 : W2.heap.size = q + 1 := by rw [hW2, hq, World.size_alloc]
  have hrd : RdAt W2 q W2.heap.size A N c T := ⟨by rw [hW2, hq]; exact Blk.new _ _ _, htx.upd (Upd.of_below hb2 (T := fun k => w1.heap.size ≤ k) (fun _ _ h => h)) (fun b o e _ h9 => by have := hlt b o e; omega), htc, by omega, fun b o e => by have := hlt b o e; omega⟩
  have HRD := Lib.hid hrd
  have HB2 := Lib.hid (hb1.trans (hb2.mono hb1.size))
  have kq : W2.cell? ⟨q, 0, none⟩ = some (.slice A N c) := hrd.blk.cell 0
  have HQ : Hid (w.heap.size ≤ q) := Lib.hid (by rw [hq]; exact hb1.size)
  have HNN := Lib.hid hN
  obtain ⟨M, hM⟩ : ∃ M, M = W2.heap.size := ⟨_, rfl⟩
  rw [← hM] at HRD
  have HM := Lib.hid hM
  have HQM : Hid (w.heap.size ≤ M) := Lib.hid (by rw [hM]; exact HB2.out.size)
  clear hown htx htc hlt hb1 hb2 hs2 hrd HWD hlm hN hM
  go_upto_region 2 with fail
  rw [← hW2, ← hq]
  clear hW2 hq
  by_cases h0 : N = 0
  · have q0 : ((N : Int) == 0) = true := by rw [beq_iff_eq]; omega
    have HR : Hid (RS = .ok []) := Lib.hid (by rw [HRS.out, if_pos]; exact List.eq_nil_of_length_eq_zero (by rw [← HNN.out]; exact h0))
    subst h0
    go_wp2_with fail
    go_ret2
    rw [HR.out]
    exact ⟨HB2.out, ParRes.mk rfl rfl (World.ownsRow_nil _ _ _ _) (AIn.nil _)⟩
  · have q0 : ((N : Int) == 0) = false := by rw [beq_eq_false_iff_ne]; omega
    have HPL : Hid (Rl.parseP nmL verL provF one 12 T [] = RS) := Lib.hid (by rw [HRS.out, if_neg]; intro e; rw [e] at HNN; exact h0 HNN.out)
    have HCLA : Hid (∀ (W : World) (A : Option Addr) (n c : Nat) (T : List Rl.Bs), RdAt W q M A n c T → M ≤ W.heap.size → n ≤ 4294967296 → (∀ t ∈ T, t.length ≤ 1048576) → Calls Tryz.prog 84 #[.pointer (some ⟨q, 0, none⟩), .func (.func 67) #[] #[], .bool one] W fun e w' => Upd (fun k => k = q) W w' ∧ ClRes W w' q M n e (Rl.clauseP nmL verL provF one 6 T [])) := Lib.hid (fun W A n c T h hM hn hs => clause_prov q M A n c T one W h hM hn hs)
    have HW2 : Hid (M ≤ W2.heap.size) := Lib.hid (by rw [HM.out]; exact Nat.le_refl _)
    clear h0
    go_wp2_with fail
    go_loopw [9] (fun v wr => ∃ (d m : Nat) (L : List (List Rl.Atm)) (xs : List Value) (Ao : Option Addr) (co : Nat) (A1 : Option Addr) (n1 c1 : Nat) (T1 : List Rl.Bs), v = .slice Ao m co ∧ m + d = 12 ∧ Hid (L.length = m) ∧ n1 ≤ N ∧ Hid (wr.ownsRow M 55 1 (.slice Ao m co) m xs) ∧ Hid (AIn wr xs L) ∧ Hid (RdAt wr q M A1 n1 c1 T1) ∧ Hid (Below w.heap.size w wr ∧ M ≤ wr.heap.size) ∧ Hid (∀ t ∈ T1, t ∈ T) ∧ Hid (Rl.parseP nmL verL provF one d T1 L = RS)) (fun v _ => match v with | .slice _ m _ => 12 - m | _ => 0)
    case atStart => exact ⟨12, 0, [], [], none, 0, A, N, c, T, rfl, rfl, Lib.hid rfl, Nat.le_refl _, Lib.hid (World.ownsRow_nil _ _ _ _), Lib.hid (AIn.nil _), HRD, Lib.hid ⟨HB2.out, HW2.out⟩, Lib.hid (fun t ht => ht), HPL⟩
    case round =>
      obtain ⟨d, m, L, xs, Ao, co, A1, n1, c1, T1, rfl, hmd, HLN, hn1, HOW, HAI, HR1, HBM, HMEM, HPP⟩ := hrel
      clear HRD HB2 kq HPL HW2
      cases d with
      | zero =>
        have q12 : ((m : Int) == 12) = true := by rw [beq_iff_eq]; omega
        have HR : Hid (RS = .many) := Lib.hid HPP.out.symm
        go_wp2_with fail
        go_ret2
        rw [HR.out]
        exact ⟨HBM.out.1, rfl⟩
      | succ d =>
        have q12 : ((m : Int) == 12) = false := by rw [beq_eq_false_iff_ne]; omega
        have hcl := HCLA.out wr A1 n1 c1 T1 HR1.out HBM.out.2 (by omega) (fun t ht => HTE.out t (HMEM.out t ht))
        obtain ⟨o, ho⟩ : ∃ o, o = Rl.clauseP nmL verL provF one 6 T1 [] := ⟨_, rfl⟩
        rw [← ho] at hcl
        have HCL := Lib.hid hcl
        have HO := Lib.hid ho
        have hmem : ∀ l T', o = .ok (l, T') → ∀ t ∈ T', t ∈ T := fun l T' e t ht => HMEM.out t (clauseP_mem 6 (ho.symm.trans e) t ht)
        have HMM := Lib.hid hmem
        clear hcl ho hmem
        cases o with
        | many =>
          have HR : Hid (RS = .many) := Lib.hid (by rw [← HPP.out]; unfold Rl.parseP; rw [← HO.out])
          go_wp2_with fail
          go_at_call 84
          refine HCL.out.mono ?_
          rintro e w2 ⟨hu2, rfl⟩
          have HB3 := Lib.hid (HBM.out.1.trans (hu2.below (fun k hk => by have e2 : k = q := hk; rw [e2]; exact HQ.out) HBM.out.1.size))
          clear hu2
          go_wp2_with fail
          go_ret2
          rw [HR.out]
          exact ⟨HB3.out, rfl⟩
        | form =>
          have HR : Hid (RS = .form) := Lib.hid (by rw [← HPP.out]; unfold Rl.parseP; rw [← HO.out])
          go_wp2_with fail
          go_at_call 84
          refine HCL.out.mono ?_
          rintro e w2 ⟨hu2, rfl⟩
          have HB3 := Lib.hid (HBM.out.1.trans (hu2.below (fun k hk => by have e2 : k = q := hk; rw [e2]; exact HQ.out) HBM.out.1.size))
          clear hu2
          go_wp2_with fail
          go_ret2
          rw [HR.out]
          exact ⟨HB3.out, rfl⟩
        | ok x =>
          obtain ⟨l, T2⟩ := x
          have HST : Hid (RS = if T2 = [] then .ok (L ++ [l]) else (Rl.isT [44] T2).elim .form (fun T3 => Rl.parseP nmL verL provF one d T3 (L ++ [l]))) := Lib.hid (by
            rw [← HPP.out]
            show (match Rl.clauseP nmL verL provF one 6 T1 [] with | .many => _ | .form => _ | .ok (c, T1) => _) = _
            rw [← HO.out]
            simp only
            cases Rl.isT [44] T2 <;> rfl)
          go_wp2_with fail
          go_at_call 84
          refine HCL.out.mono ?_
          rintro e w2 ⟨hu2, Al, cl, A2, n2, c2, rfl, hol, hr2, hn2⟩
          obtain ⟨k, hk⟩ : ∃ k, k = l.length := ⟨_, rfl⟩
          have hqn : ∀ j, (fun k => k = q) j → ¬ IsA wr j := fun j hj hA => by
            have e2 : j = q := hj
            subst e2
            exact hA.no HR1.out.blk (by decide)
          have hai2 := (HAI.out.upd hu2 hqn).snoc hol
          have how2 := own_upd HOW.out hu2 (fun k hk e => by have e2 : k = q := e; have := (own_is HOW.out hk).1; have := HR1.out.lo.1; omega)
          have HAI2 := Lib.hid hai2
          have HOW2 := Lib.hid how2
          have HR2 := Lib.hid hr2
          have HBM2 : Hid (Below w.heap.size w w2 ∧ M ≤ w2.heap.size) := Lib.hid ⟨HBM.out.1.trans (hu2.below (fun k hk => by have e2 : k = q := hk; rw [e2]; exact HQ.out) HBM.out.1.size), Nat.le_trans HBM.out.2 hu2.size⟩
          have hm2 := HBM2.out.2
          rw [← hk] at HAI2 ⊢
          clear hu2 hol hr2 hqn hai2 how2 HCL HPP HAI HOW HR1 HBM hk
          have hT2n : T2.length = n2 := HR2.out.tx.1
          have HIS0 : Hid (∀ (W : World), RdAt W q M A2 n2 c2 T2 → Calls Tryz.prog 85 #[.pointer (some ⟨q, 0, none⟩), .string ⟨#[44]⟩] W fun e w' => e = .returned (.bool (Rl.isT [44] T2).isSome) ∧ Upd (fun k => k = q) W w' ∧ ∃ A' n' c', RdAt w' q M A' n' c' ((Rl.isT [44] T2).getD T2) ∧ n' ≤ n2) := Lib.hid (fun W h => is_any2 q M A2 n2 c2 T2 [44] W h (by omega))
          have HM3 : Hid (∀ T3, Rl.isT [44] T2 = some T3 → ∀ t ∈ T3, t ∈ T) := Lib.hid (fun T3 h9 t ht => HMM.out l T2 rfl t (isT_mem h9 ht))
          have HT2 := Lib.hid hT2n
          clear hT2n
          obtain ⟨o2, ho2⟩ : ∃ o2, o2 = Rl.isT [44] T2 := ⟨_, rfl⟩
          rw [← ho2] at HIS0 HST HM3
          clear ho2
          by_cases hz : n2 = 0
          · have qz : ((n2 : Int) == 0) = true := by rw [beq_iff_eq]; omega
            have HR : Hid (RS = .ok (L ++ [l])) := Lib.hid (by rw [HST.out, if_pos]; exact List.eq_nil_of_length_eq_zero (by rw [HT2.out]; exact hz))
            clear hz
            go_wp2_with (at_builtin; refine wpList_append_any _ rfl (.tmp 35) (.tmp 37) 22 rfl M 55 i0 _ 1 24 Tryz.underlying22 hi0 hz0 hz1 hz2 rfl (by decide) _ m xs rfl (HOW2.out.alloc _) (w2.heap.size + 1) (some ⟨w2.heap.size, 0, none⟩) 1 1 [.slice Al k cl] rfl (reads_one (Blk.new w2 _ _) (by simp)) (fun u hu => by simp at hu; subst hu; rfl) (by unfold maxLen; omega) (by omega) (by simp; omega) ?_; intro v5 w5 hown5 hg5 hat5; have hup5 : Upd (fun j => (Value.slice Ao m co).ownBlock = some j) w2 w5 := ((Upd.refl _ w2).alloc _).grown hg5 (fun j hj => .inl hj); have HB5 : Hid (Below w.heap.size w w5 ∧ M ≤ w5.heap.size) := Lib.hid ⟨HBM2.out.1.trans (hup5.below (fun j hj => Nat.le_trans HQM.out (own_is HOW2.out hj).1) HBM2.out.1.size), Nat.le_trans hm2 hup5.size⟩; have HR5 := Lib.hid (HR2.out.upd hup5 (fun e => by have := (own_is HOW2.out e).1; have := HR2.out.lo.1; omega) (fun b o e _ h9 => by have := HR2.out.lo.2 b o e; have := (own_is HOW2.out h9).1; omega)); have HAI5 := Lib.hid (HAI2.out.upd hup5 (fun j hj => own_noA HOW2.out (by decide) hj)); have k5 : w5.cell? ⟨q, 0, none⟩ = some (.slice A2 n2 c2) := HR5.out.blk.cell 0; obtain ⟨A5, c5, rfl⟩ := own_shape hown5; have HOW5 := Lib.hid hown5; have HLN5 : Hid ((L ++ [l]).length = m + 1) := Lib.hid (by rw [List.length_append, HLN.out]; rfl); clear hown5 hg5 hat5 hup5)
            go_ret2
            rw [HR.out]
            exact ⟨HB5.out.1, ParRes.mk rfl HLN5.out (own_mono HOW5.out HQM.out) HAI5.out⟩
          · have qz : ((n2 : Int) == 0) = false := by rw [beq_eq_false_iff_ne]; omega
            have HST2 : Hid (RS = o2.elim .form (fun T3 => Rl.parseP nmL verL provF one d T3 (L ++ [l]))) := Lib.hid (by rw [HST.out, if_neg]; intro e; rw [e] at HT2; exact hz HT2.out.symm)
            clear hz
            cases o2 with
            | none =>
              have HR : Hid (RS = .form) := Lib.hid HST2.out
              go_wp2_with (first
                | (at_builtin; refine wpList_append_any _ rfl (.tmp 35) (.tmp 37) 22 rfl M 55 i0 _ 1 24 Tryz.underlying22 hi0 hz0 hz1 hz2 rfl (by decide) _ m xs rfl (HOW2.out.alloc _) (w2.heap.size + 1) (some ⟨w2.heap.size, 0, none⟩) 1 1 [.slice Al k cl] rfl (reads_one (Blk.new w2 _ _) (by simp)) (fun u hu => by simp at hu; subst hu; rfl) (by unfold maxLen; omega) (by omega) (by simp; omega) ?_; intro v5 w5 hown5 hg5 hat5; have hup5 : Upd (fun j => (Value.slice Ao m co).ownBlock = some j) w2 w5 := ((Upd.refl _ w2).alloc _).grown hg5 (fun j hj => .inl hj); have HB5 : Hid (Below w.heap.size w w5 ∧ M ≤ w5.heap.size) := Lib.hid ⟨HBM2.out.1.trans (hup5.below (fun j hj => Nat.le_trans HQM.out (own_is HOW2.out hj).1) HBM2.out.1.size), Nat.le_trans hm2 hup5.size⟩; have HR5 := Lib.hid (HR2.out.upd hup5 (fun e => by have := (own_is HOW2.out e).1; have := HR2.out.lo.1; omega) (fun b o e _ h9 => by have := HR2.out.lo.2 b o e; have := (own_is HOW2.out h9).1; omega)); have HAI5 := Lib.hid (HAI2.out.upd hup5 (fun j hj => own_noA HOW2.out (by decide) hj)); have k5 : w5.cell? ⟨q, 0, none⟩ = some (.slice A2 n2 c2) := HR5.out.blk.cell 0; obtain ⟨A5, c5, rfl⟩ := own_shape hown5; have HOW5 := Lib.hid hown5; have HLN5 : Hid ((L ++ [l]).length = m + 1) := Lib.hid (by rw [List.length_append, HLN.out]; rfl); clear hown5 hg5 hat5 hup5; have HIS5 := Lib.hid (HIS0.out w5 HR5.out))
                | (go_at_call 85; refine HIS5.out.mono ?_; rintro e w6 ⟨rfl, hu6, A6, n6, c6, hr6, hn6⟩; have HB6 := Lib.hid (HB5.out.1.trans (hu6.below (fun k hk => by have e2 : k = q := hk; rw [e2]; exact HQ.out) HB5.out.1.size)); clear hu6 hr6))
              go_ret2
              rw [HR.out]
              exact ⟨HB6.out, rfl⟩
            | some T3 =>
              go_wp2_with (first
                | (at_builtin; refine wpList_append_any _ rfl (.tmp 35) (.tmp 37) 22 rfl M 55 i0 _ 1 24 Tryz.underlying22 hi0 hz0 hz1 hz2 rfl (by decide) _ m xs rfl (HOW2.out.alloc _) (w2.heap.size + 1) (some ⟨w2.heap.size, 0, none⟩) 1 1 [.slice Al k cl] rfl (reads_one (Blk.new w2 _ _) (by simp)) (fun u hu => by simp at hu; subst hu; rfl) (by unfold maxLen; omega) (by omega) (by simp; omega) ?_; intro v5 w5 hown5 hg5 hat5; have hup5 : Upd (fun j => (Value.slice Ao m co).ownBlock = some j) w2 w5 := ((Upd.refl _ w2).alloc _).grown hg5 (fun j hj => .inl hj); have HB5 : Hid (Below w.heap.size w w5 ∧ M ≤ w5.heap.size) := Lib.hid ⟨HBM2.out.1.trans (hup5.below (fun j hj => Nat.le_trans HQM.out (own_is HOW2.out hj).1) HBM2.out.1.size), Nat.le_trans hm2 hup5.size⟩; have HR5 := Lib.hid (HR2.out.upd hup5 (fun e => by have := (own_is HOW2.out e).1; have := HR2.out.lo.1; omega) (fun b o e _ h9 => by have := HR2.out.lo.2 b o e; have := (own_is HOW2.out h9).1; omega)); have HAI5 := Lib.hid (HAI2.out.upd hup5 (fun j hj => own_noA HOW2.out (by decide) hj)); have k5 : w5.cell? ⟨q, 0, none⟩ = some (.slice A2 n2 c2) := HR5.out.blk.cell 0; obtain ⟨A5, c5, rfl⟩ := own_shape hown5; have HOW5 := Lib.hid hown5; have HLN5 : Hid ((L ++ [l]).length = m + 1) := Lib.hid (by rw [List.length_append, HLN.out]; rfl); clear hown5 hg5 hat5 hup5; have HIS5 := Lib.hid (HIS0.out w5 HR5.out))
                | (go_at_call 85; refine HIS5.out.mono ?_; rintro e w6 ⟨rfl, hu6, A6, n6, c6, hr6, hn6⟩; have hr6' : RdAt w6 q M A6 n6 c6 T3 := hr6; have HR6 := Lib.hid hr6'; have HB6 : Hid (Below w.heap.size w w6 ∧ M ≤ w6.heap.size) := Lib.hid ⟨HB5.out.1.trans (hu6.below (fun k hk => by have e2 : k = q := hk; rw [e2]; exact HQ.out) HB5.out.1.size), Nat.le_trans HB5.out.2 hu6.size⟩; have HOW6 := Lib.hid (own_upd HOW5.out hu6 (fun k hk e => by have e2 : k = q := e; have := (own_is HOW5.out hk).1; have := HR5.out.lo.1; omega)); have HAI6 := Lib.hid (HAI5.out.upd hu6 (fun j hj hA => by have e2 : j = q := hj; subst e2; exact hA.no HR5.out.blk (by decide))); clear hu6 hr6 hr6'))
              refine ⟨⟨d, m + 1, L ++ [l], xs ++ [.slice Al k cl], A5, c5, A6, n6, c6, T3, rfl, by omega, HLN5, by omega, HOW6, HAI6, HR6, HB6, Lib.hid (HM3.out T3 rfl), Lib.hid HST2.out.symm⟩, ?_⟩
              show 12 - (m + 1) < 12 - m
              omega
end Go.Proofs.YtjkaigfpjebfbaaGreatDoor
