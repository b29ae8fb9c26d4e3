/- RelationJoins: the walk. -/
import Derived.Test.YtdchnllflodmkaaRA1
import Derived.Test.YtdchnllflodmkaaRA2
import Derived.Test.YtdchnllflodmkaaRo
import Derived.Test.YtdchnllflodmkaaMono
import Derived.Deep.Cut
namespace Go.Proofs.Ytdchnllflodmkaa
open Go.RowKit
set_option linter.unusedVariables false

theorem light_is {L : List (List RA)} (h : lightB L = true) : L.length ≤ 30 ∧ ∀ l ∈ L, l.length ≤ 30 := by
  unfold lightB at h
  simp only [Bool.and_eq_true, decide_eq_true_eq, List.all_eq_true] at h
  exact h
set_option maxRecDepth 100000 in
set_option maxHeartbeats 4000000 in
theorem relationJoins_heavy (v1 v2 : Value) (L K : List (List RA)) (w : World) (h1 : ClsAt w v1 L) (h2 : ClsAt w v2 K)
    (hL : L.length ≤ 1048576) (hK : K.length ≤ 1048576) (hno : lightB L = false ∨ lightB K = false) :
    Calls Try.prog 5 #[v1, v2] w fun e w' => e = .returned (.bool true) ∧ Below w.heap.size w w' := by
  have HAW := Lib.hid (fun W => awake_any W)
  obtain ⟨b, hb⟩ : ∃ b, b = lightB L := ⟨_, rfl⟩
  obtain ⟨c, hc⟩ : ∃ c, c = lightB K := ⟨_, rfl⟩
  rw [← hb, ← hc] at hno
  have HLT : Hid (∀ W, Below w.heap.size w W → ∀ (u : Value) (b : Bool), (u = v1 ∧ b = lightB L) ∨ (u = v2 ∧ b = lightB K) → Calls Try.prog 13 #[u] W fun e w' => e = .returned (.bool b) ∧ Below W.heap.size W w') := Lib.hid (fun W hW u b h => by
    rcases h with ⟨rfl, rfl⟩ | ⟨rfl, rfl⟩
    · exact light_any _ L W (h1.below hW) (by omega)
    · exact light_any _ K W (h2.below hW) (by omega))
  have HB1 : Hid (b = lightB L) := Lib.hid hb
  have HC1 : Hid (c = lightB K) := Lib.hid hc
  clear hb hc h1 h2 hL hK
  by_cases hbb : b = true
  · have hcc : c = false := by
      rcases hno with h | h
      · rw [h] at hbb; cases hbb
      · exact h
    subst hbb hcc
    go_enter Try.func5, Try.ntmps5
    go_wp2_with fail
    go_at_call 13
    refine (HLT.out w (Below.refl _ _) v1 _ (.inl ⟨rfl, HB1.out⟩)).mono ?_
    rintro e w1 ⟨rfl, hb1⟩
    have HW1 := Lib.hid hb1
    clear hb1
    go_wp2_with fail
    go_at_call 13
    refine (HLT.out w1 HW1.out v2 _ (.inr ⟨rfl, HC1.out⟩)).mono ?_
    rintro e w2 ⟨rfl, hb2⟩
    have HW2 := Lib.hid (HW1.out.trans (hb2.mono HW1.out.size))
    clear hb2
    go_wp2_with (go_at_call 12; refine (HAW.out _).mono ?_; rintro e w3 ⟨rfl, hb3⟩)
    go_ret
    exact ⟨rfl, HW2.out.trans (hb3.mono HW2.out.size)⟩
  · have hbb : b = false := by simpa using hbb
    subst hbb
    go_enter Try.func5, Try.ntmps5
    go_wp2_with fail
    go_at_call 13
    refine (HLT.out w (Below.refl _ _) v1 _ (.inl ⟨rfl, HB1.out⟩)).mono ?_
    rintro e w1 ⟨rfl, hb1⟩
    have HW1 := Lib.hid hb1
    clear hb1
    go_wp2_with (go_at_call 12; refine (HAW.out _).mono ?_; rintro e w3 ⟨rfl, hb3⟩)
    go_ret
    exact ⟨rfl, HW1.out.trans (hb3.mono HW1.out.size)⟩
/-- A row of clauses, by its cells. -/
theorem ClsAt.row {w : World} {A : Option Addr} {n c : Nat} {L : List (List RA)} (h : ClsAt w (.slice A n c) L) : n = L.length ∧ ∃ xs : List Value, xs.length = L.length ∧ Reads w w.heap.size 1 A L.length xs ∧ (∀ u ∈ xs, u.oneCell' = true) ∧ ∀ j (h1 : j < L.length) (h2 : j < xs.length), AtsAt w xs[j] L[j] := by
  obtain ⟨A', c', he, hc, hA⟩ := h
  injection he with e1 e2 e3
  subst e1 e2
  refine ⟨rfl, ?_⟩
  obtain ⟨xs, hl, hx⟩ := list_of (α := Value) L.length (fun j V => ∃ (h : j < L.length), (∃ g o, A = some ⟨g, o, none⟩ ∧ w.cell? ⟨g, o + j, none⟩ = some V) ∧ AtsAt w V L[j]) (fun j hj => by
    obtain ⟨g, o, V, k1, k2, k3⟩ := hA j hj
    exact ⟨V, hj, ⟨g, o, k1, k2⟩, k3⟩)
  refine ⟨xs, hl, ⟨by rw [hl]; omega, fun h0 => ?_⟩, fun u hu => ?_, fun j h1 h2 => (hx j h2).2.2⟩
  · obtain ⟨_, ⟨g, o, rfl, k⟩, _⟩ := hx 0 (by omega)
    refine ⟨_, rfl, World.block_lt_of_cell? w _ k, fun j u hu => ?_⟩
    have hj : j < xs.length := by
      rcases Nat.lt_or_ge j xs.length with h | h
      · exact h
      · rw [List.getElem?_eq_none h] at hu; cases hu
    obtain ⟨_, ⟨g', o', e, k'⟩, _⟩ := hx j hj
    injection e with e
    injection e with e1 e2
    subst e1 e2
    rw [addN, k']
    rw [List.getElem?_eq_getElem hj] at hu
    exact hu
  · obtain ⟨j, hj, rfl⟩ := List.mem_iff_getElem.1 hu
    obtain ⟨_, _, B, d, e, _⟩ := hx j hj
    rw [e]
    rfl
theorem ClsAt.of_rows {w : World} {base : Nat} {A : Option Addr} {m c : Nat} {xs : List Value} {L : List (List RA)} (ho : w.ownsRow base 54 1 (.slice A m c) m xs) (hm : m = L.length) (hx : ∀ j (h1 : j < L.length) (h2 : j < xs.length), AtsAt w xs[j] L[j]) : ClsAt w (.slice A m c) L := by
  subst hm
  have hl : xs.length = L.length := by have := ho.1; omega
  refine ⟨A, c, rfl, (row_shape ho).1, fun j hj => ?_⟩
  obtain ⟨ad, e, hb, hc2⟩ := (Reads.of_own ho).2 (by omega)
  have h0 := (row_shape ho).2 _ e
  obtain ⟨g0, o, sp⟩ := ad
  have h0 : sp = none := h0
  subst h0 e
  have := hc2 j _ (List.getElem?_eq_getElem (by omega))
  rw [addN] at this
  exact ⟨g0, o, _, rfl, this, hx j hj (by omega)⟩
theorem wpList_append_if {P : Program} (w : World) {ops : Array Oper} {rest : List Oper} {o : Oper} {a : Act} {Q : Exit → Act → World → Prop} (hgd : Region.wanted o (yielded ops a.tmps) = true) (s x : Operand) (t : TypeId)
    (ho : o.op = .call { callee := .builtin .append, args := #[s, x], argTypes := #[t, t] })
    (base : Nat) (e : TypeId) (i : TypeInfo) (z : Value) (size bytes : Nat) (ht : P.underlying t = some (.slice e)) (hi : P.info? e = some i) (hz : i.zero = some z)
    (hsize : i.size = size) (hby : i.bytes = bytes) (hzs : z.cells.size = size) (hsz : 0 < size)
    (v : Value) (n : Nat) (xs : List Value) (hs : a.eval s = v) (hown : w.ownsRow base e size v n xs)
    (B : Nat) (A : Option Addr) (m c : Nat) (news : List Value) (hx : a.eval x = .slice A m c) (hr : Reads w B size A m news) (h1 : ∀ u ∈ news, u.oneCell' = true)
    (h63 : n + m ≤ maxLen) (hbytes : (n + m) * bytes ≤ 140737488355328) (hbase : base ≤ w.heap.size)
    (h : ∀ v' w', w'.ownsRow base e size v' (n + m) (xs ++ news) → w.grownBy w' v.ownBlock → (v'.ownBlock = v.ownBlock ∨ v'.ownBlock = some w.heap.size) → wpList P ops Q rest (a.put o.dst v') w') : wpList P ops Q (o :: rest) a w :=
  wpList_step fun K hK => by
    rw [if_pos hgd]
    exact wp_append_any w s x t ho base e i z size bytes ht hi hz hsize hby hzs hsz v n xs hs hown B A m c news hx hr h1 h63 hbytes hbase fun v' w' h2 h3 h4 => hK _ _ (h v' w' h2 h3 h4)
theorem ltx_is_empty (L : List (List RA)) : (Rl.tob (ltx L)).toList.isEmpty = (ltx L).isEmpty := str_tob _
theorem joined (x y : Rl.Bs) : Rl.tob x ++ (⟨#[44]⟩ : ByteArray) ++ Rl.tob y = Rl.tob (x ++ 44 :: y) := by
  have e : (⟨#[44]⟩ : ByteArray) = Rl.tob [44] := rfl
  rw [e, ← tob_app, ← tob_app]
  simp
set_option maxRecDepth 100000 in
set_option maxHeartbeats 4000000 in
theorem joins_core (A1 A2 : Option Addr) (c1 c2 n1 n2 : Nat) (X Y : ByteArray) (L K : List (List RA)) (xs1 xs2 : List Value) (w : World)
    (HAW : Hid (∀ W, Calls Try.prog 12 #[] W fun e w' => e = .returned (.bool true) ∧ Below W.heap.size W w'))
    (HLT : Hid (∀ W, Below w.heap.size w W → ∀ (u : Value), (u = .slice A1 n1 c1 ∨ u = .slice A2 n2 c2) → Calls Try.prog 13 #[u] W fun e w' => e = .returned (.bool true) ∧ Below W.heap.size W w'))
    (HT1 : Hid (∀ W, Below w.heap.size w W → Calls Try.prog 14 #[.slice A1 n1 c1] W fun e w' => e = .returned (.string X) ∧ Below W.heap.size W w'))
    (HT2 : Hid (∀ W, Below w.heap.size w W → Calls Try.prog 14 #[.slice A2 n2 c2] W fun e w' => e = .returned (.string Y) ∧ Below W.heap.size W w'))
    (HP : Hid (∀ W, Calls Try.prog 9 #[.string (X ++ (⟨#[44]⟩ : ByteArray) ++ Y)] W fun e w' => Below W.heap.size W w' ∧ ∃ v, e = .returned (.tuple #[v, .int .i64 0]) ∧ ClsAt w' v (L ++ K)))
    (HR1 : Hid (∀ W, Below w.heap.size w W → Reads W w.heap.size 1 A1 n1 xs1)) (HR2 : Hid (∀ W, Below w.heap.size w W → Reads W w.heap.size 1 A2 n2 xs2))
    (P3 : Hid (∀ u ∈ xs1, u.oneCell' = true)) (Q3 : Hid (∀ u ∈ xs2, u.oneCell' = true))
    (HAT : Hid (∀ W, Below w.heap.size w W → ∀ j (h1 : j < (L ++ K).length) (h2 : j < (xs1 ++ xs2).length), AtsAt W (xs1 ++ xs2)[j] (L ++ K)[j]))
    (HSC : Hid (∀ W u v, ClsAt W u (L ++ K) → ClsAt W v (L ++ K) → Calls Try.prog 11 #[u, v] W fun e w' => e = .returned (.bool true) ∧ Below W.heap.size W w'))
    (HN1 : Hid (n1 = L.length)) (HN2 : Hid (n2 = K.length)) (eX : X.toList.isEmpty = false) (eY : Y.toList.isEmpty = false) (hXs : X.size ≤ 6000) (hYs : Y.size ≤ 6000) (hb1 : n1 ≤ 12) (hb2 : n2 ≤ 12) (hno : ¬ (12 : Int) < (n1 : Int) + (n2 : Int))
    (i0 : TypeInfo) (hi0 : Try.prog.info? 54 = some i0) (hz0 : i0.zero = some (.slice none 0 0)) (hz1 : i0.size = 1) (hz2 : i0.bytes = 24) :
    Calls Try.prog 5 #[.slice A1 n1 c1, .slice A2 n2 c2] w fun e w' => e = .returned (.bool true) ∧ Below w.heap.size w w' := by
  go_enter Try.func5, Try.ntmps5
  go_wp2_with fail
  go_at_call 13
  refine (HLT.out w (Below.refl _ _) _ (.inl rfl)).mono ?_
  rintro e w1 ⟨rfl, hb1⟩
  have HW1 := Lib.hid hb1
  clear hb1
  go_wp2_with fail
  go_at_call 13
  refine (HLT.out w1 HW1.out _ (.inr rfl)).mono ?_
  rintro e w2 ⟨rfl, hb2⟩
  have HW2 := Lib.hid (HW1.out.trans (hb2.mono HW1.out.size))
  clear hb2 HLT HW1
  go_wp2_with fail
  go_at_call 14
  refine (HT1.out w2 HW2.out).mono ?_
  rintro e w3 ⟨rfl, hb3⟩
  have HW3 := Lib.hid (HW2.out.trans (hb3.mono HW2.out.size))
  clear hb3 HT1 HW2
  go_wp2_with fail
  go_at_call 14
  refine (HT2.out w3 HW3.out).mono ?_
  rintro e w4 ⟨rfl, hb4⟩
  have HW4 := Lib.hid (HW3.out.trans (hb4.mono HW3.out.size))
  clear hb4 HT2 HW3
  go_wp2_with fail
  go_at_call 9
  refine (HP.out w4).mono ?_
  rintro e w5 ⟨hb5, v5, rfl, hc5⟩
  have HW5 := Lib.hid (HW4.out.trans (hb5.mono HW4.out.size))
  have HC5 := Lib.hid hc5
  clear hb5 hc5 HP HW4
  have R1 := Lib.hid (HR1.out w5 HW5.out)
  have hsz5 := HW5.out.size
  clear HR1
  go_wp2_with (first
    | (at_builtin; refine wpList_append_if _ (by rfl) (.const (.slice none 0 0)) (.tmp 52) 23 rfl w5.heap.size 54 i0 _ 1 24 Try.underlying23 hi0 hz0 hz1 hz2 rfl (by decide) _ 0 [] rfl (World.ownsRow_nil _ _ _ _) w.heap.size A1 n1 c1 xs1 rfl R1.out P3.out (by unfold maxLen; omega) (by omega) (Nat.le_refl _) ?_; intro v6 w6 hown6 hg6 hat6; have HB6 : Hid (Below w5.heap.size w5 w6) := Lib.hid ((Below.refl _ _).grown hg6 (Nat.le_refl _) (fun q hq => by cases hq)); rw [Nat.zero_add, List.nil_append] at hown6; have HO6 := Lib.hid hown6; clear hown6 hg6 hat6; obtain ⟨A6, c6, rfl⟩ := own_shape HO6.out; have R2 := Lib.hid (HR2.out w6 (HW5.out.trans (HB6.out.mono HW5.out.size))); have hz6 := HB6.out.size; clear HR2)
    | (at_builtin; refine wpList_append_if _ (by rfl) (.tmp 53) (.tmp 54) 23 rfl w5.heap.size 54 i0 _ 1 24 Try.underlying23 hi0 hz0 hz1 hz2 rfl (by decide) _ n1 xs1 rfl HO6.out w.heap.size A2 n2 c2 xs2 rfl R2.out Q3.out (by unfold maxLen; omega) (by omega) hz6 ?_; intro v7 w7 hown7 hg7 hat7; have HB7 : Hid (Below w5.heap.size w5 w7) := Lib.hid (HB6.out.grown hg7 hz6 (fun q hq => (HO6.out.lt q hq).1)); have HO7 := Lib.hid hown7; clear hown7 hat7 hg7; obtain ⟨A7, c7, rfl⟩ := own_shape HO7.out; have HW7 := Lib.hid (HW5.out.trans (HB7.out.mono HW5.out.size)); have HC7 : Hid (ClsAt w7 (.slice A7 (n1 + n2) c7) (L ++ K)) := Lib.hid (ClsAt.of_rows HO7.out (by rw [List.length_append, HN1.out, HN2.out]) (HAT.out w7 HW7.out)); have HC57 := Lib.hid (HC5.out.below HB7.out); clear HO7 HB7 HO6)
    | (go_at_call 11; refine (HSC.out w7 _ _ HC57.out HC7.out).mono ?_; rintro e w8 ⟨rfl, hb8⟩; have HW8 := Lib.hid (HW7.out.trans (hb8.mono HW7.out.size)); clear hb8)
    | (go_at_call 12; refine (HAW.out _).mono ?_; rintro e w9 ⟨rfl, hb9⟩; have HW9 := Lib.hid (HW8.out.trans (hb9.mono HW8.out.size)); clear hb9))
  go_ret
  exact ⟨rfl, HW9.out⟩
set_option maxRecDepth 100000 in
set_option maxHeartbeats 8000000 in
theorem relationJoins_light (v1 v2 : Value) (L K : List (List RA)) (w : World) (h1 : ClsAt w v1 L) (h2 : ClsAt w v2 K)
    (hL : lightB L = true) (hK : lightB K = true) (hLs : ∀ c ∈ L, ∀ a ∈ c, a.n.size ≤ 1048576 ∧ a.v.size ≤ 1048576) (hKs : ∀ c ∈ K, ∀ a ∈ c, a.n.size ≤ 1048576 ∧ a.v.size ≤ 1048576) :
    Calls Try.prog 5 #[v1, v2] w fun e w' => e = .returned (.bool true) ∧ Below w.heap.size w w' := by
  have HAW := Lib.hid (fun W => awake_any W)
  have hl := light_is hL
  have hk := light_is hK
  have HLT : Hid (∀ W, Below w.heap.size w W → ∀ (u : Value), (u = v1 ∨ u = v2) → Calls Try.prog 13 #[u] W fun e w' => e = .returned (.bool true) ∧ Below W.heap.size W w') := Lib.hid (fun W hW u h => by
    rcases h with rfl | rfl
    · rw [← hL]; exact light_any _ L W (h1.below hW) (by omega)
    · rw [← hK]; exact light_any _ K W (h2.below hW) (by omega))
  have hT1 : ∀ W, Below w.heap.size w W → Calls Try.prog 14 #[v1] W fun e w' => e = .returned (.string (Rl.tob (ltx L))) ∧ Below W.heap.size W w' := fun W hW => Text_any v1 L W (h1.below hW) hLs
  have hT2 : ∀ W, Below w.heap.size w W → Calls Try.prog 14 #[v2] W fun e w' => e = .returned (.string (Rl.tob (ltx K))) ∧ Below W.heap.size W w' := fun W hW => Text_any v2 K W (h2.below hW) hKs
  have HT1 := Lib.hid hT1
  have HT2 := Lib.hid hT2
  clear hT1 hT2
  obtain ⟨X, hX⟩ : ∃ X, X = Rl.tob (ltx L) := ⟨_, rfl⟩
  obtain ⟨Y, hY⟩ : ∃ Y, Y = Rl.tob (ltx K) := ⟨_, rfl⟩
  rw [← hX] at HT1
  rw [← hY] at HT2
  have eX := ltx_is_empty L
  have eY := ltx_is_empty K
  rw [← hX] at eX
  rw [← hY] at eY
  have HX := Lib.hid hX
  have HY := Lib.hid hY
  by_cases hx0 : (ltx L).isEmpty = true
  · rw [hx0] at eX
    clear hX hY eY hx0 hl hk hL hK hLs hKs h1 h2
    go_enter Try.func5, Try.ntmps5
    go_wp2_with fail
    go_at_call 13
    refine (HLT.out w (Below.refl _ _) v1 (.inl rfl)).mono ?_
    rintro e w1 ⟨rfl, hb1⟩
    have HW1 := Lib.hid hb1
    clear hb1
    go_wp2_with fail
    go_at_call 13
    refine (HLT.out w1 HW1.out v2 (.inr rfl)).mono ?_
    rintro e w2 ⟨rfl, hb2⟩
    have HW2 := Lib.hid (HW1.out.trans (hb2.mono HW1.out.size))
    clear hb2
    go_wp2_with fail
    go_at_call 14
    refine (HT1.out w2 HW2.out).mono ?_
    rintro e w3 ⟨rfl, hb3⟩
    have HW3 := Lib.hid (HW2.out.trans (hb3.mono HW2.out.size))
    clear hb3
    go_wp2_with fail
    go_at_call 14
    refine (HT2.out w3 HW3.out).mono ?_
    rintro e w4 ⟨rfl, hb4⟩
    have HW4 := Lib.hid (HW3.out.trans (hb4.mono HW3.out.size))
    clear hb4
    go_wp2_with (go_at_call 12; refine (HAW.out _).mono ?_; rintro e w5 ⟨rfl, hb5⟩)
    go_ret
    exact ⟨rfl, HW4.out.trans (hb5.mono HW4.out.size)⟩
  by_cases hy0 : (ltx K).isEmpty = true
  · rw [hy0] at eY
    have hx0 : (ltx L).isEmpty = false := by simpa using hx0
    rw [hx0] at eX
    clear hX hY hx0 hy0 hl hk hL hK hLs hKs h1 h2
    go_enter Try.func5, Try.ntmps5
    go_wp2_with fail
    go_at_call 13
    refine (HLT.out w (Below.refl _ _) v1 (.inl rfl)).mono ?_
    rintro e w1 ⟨rfl, hb1⟩
    have HW1 := Lib.hid hb1
    clear hb1
    go_wp2_with fail
    go_at_call 13
    refine (HLT.out w1 HW1.out v2 (.inr rfl)).mono ?_
    rintro e w2 ⟨rfl, hb2⟩
    have HW2 := Lib.hid (HW1.out.trans (hb2.mono HW1.out.size))
    clear hb2
    go_wp2_with fail
    go_at_call 14
    refine (HT1.out w2 HW2.out).mono ?_
    rintro e w3 ⟨rfl, hb3⟩
    have HW3 := Lib.hid (HW2.out.trans (hb3.mono HW2.out.size))
    clear hb3
    go_wp2_with fail
    go_at_call 14
    refine (HT2.out w3 HW3.out).mono ?_
    rintro e w4 ⟨rfl, hb4⟩
    have HW4 := Lib.hid (HW3.out.trans (hb4.mono HW3.out.size))
    clear hb4
    go_wp2_with (go_at_call 12; refine (HAW.out _).mono ?_; rintro e w5 ⟨rfl, hb5⟩)
    go_ret
    exact ⟨rfl, HW4.out.trans (hb5.mono HW4.out.size)⟩
  have hx0 : (ltx L).isEmpty = false := by simpa using hx0
  have hy0 : (ltx K).isEmpty = false := by simpa using hy0
  have okl : okL L = true := by
    by_cases h : okL L = true
    · exact h
    · unfold ltx at hx0; rw [if_neg h] at hx0; cases hx0
  have okk : okL K = true := by
    by_cases h : okL K = true
    · exact h
    · unfold ltx at hy0; rw [if_neg h] at hy0; cases hy0
  have nL : L ≠ [] := fun e => by rw [e] at hx0; cases hx0
  have nK : K ≠ [] := fun e => by rw [e] at hy0; cases hy0
  rw [hx0] at eX
  rw [hy0] at eY
  have hjoin := reads_join okl okk nL nK anyF (fun _ => rfl)
  have hsz : (X ++ (⟨#[44]⟩ : ByteArray) ++ Y).size ≤ 1048576 := by
    have e1 := ltx_len L
    have e2 := ltx_len K
    rw [hX, hY, ByteArray.size_append, ByteArray.size_append, tob_size', tob_size']
    show _ + 1 + _ ≤ _
    omega
  have hXs : X.size ≤ 6000 := by rw [hX, tob_size']; exact ltx_len L
  have hYs : Y.size ≤ 6000 := by rw [hY, tob_size']; exact ltx_len K
  have hP := fun W => Parse_any (X ++ (⟨#[44]⟩ : ByteArray) ++ Y) W hsz
  have hbj : bl (X ++ (⟨#[44]⟩ : ByteArray) ++ Y) = ltx L ++ 44 :: ltx K := by rw [hX, hY, joined, Rl.bl_tob]
  rw [hbj, hjoin] at hP
  clear hX hY hx0 hy0 hjoin hsz hbj hL hK
  have ol := okL_len okl
  have ok' := okL_len okk
  have hcat : ((L ++ K).map (·.map atmOf)).map (·.map raA) = L ++ K := by
    rw [List.map_append, List.map_append, back_atm okl, back_atm okk]
  obtain ⟨A1, c1, rfl, hc1, hA1⟩ := id h1
  obtain ⟨A2, c2, rfl, hc2, hA2⟩ := id h2
  obtain ⟨n1, hn1⟩ : ∃ n1, n1 = L.length := ⟨_, rfl⟩
  obtain ⟨n2, hn2⟩ : ∃ n2, n2 = K.length := ⟨_, rfl⟩
  rw [← hn1] at h1 HT1 HLT ⊢
  rw [← hn2] at h2 HT2 HLT ⊢
  have hb1 : n1 ≤ 12 := by omega
  have hb2 : n2 ≤ 12 := by omega
  by_cases hover : n1 + n2 ≤ 12
  · have hP' : ∀ W, Calls Try.prog 9 #[.string (X ++ (⟨#[44]⟩ : ByteArray) ++ Y)] W fun e w' => Below W.heap.size W w' ∧ ∃ v, e = .returned (.tuple #[v, .int .i64 0]) ∧ ClsAt w' v (L ++ K) := fun W => (hP W).mono fun e w' ⟨hb, v, he, ho⟩ => by
      rw [if_pos (by omega)] at he ho
      have ho := ho.cls
      have e9 : (okv (Rl.Rd.ok ((L ++ K).map (·.map atmOf)))).map (·.map raA) = L ++ K := hcat
      rw [e9] at ho
      exact ⟨hb, v, he, ho⟩
    have HP := Lib.hid hP'
    have hno : ¬ (12 : Int) < (n1 : Int) + (n2 : Int) := by omega
    obtain ⟨_, xs1, p1, p2, p3, p4⟩ := h1.row
    obtain ⟨_, xs2, q1, q2, q3, q4⟩ := h2.row
    rw [← hn1] at p1 p2
    rw [← hn2] at q1 q2
    have HR1 : Hid (∀ W, Below w.heap.size w W → Reads W w.heap.size 1 A1 n1 xs1) := Lib.hid (fun W hW => p2.below hW)
    have HR2 : Hid (∀ W, Below w.heap.size w W → Reads W w.heap.size 1 A2 n2 xs2) := Lib.hid (fun W hW => q2.below hW)
    have P3 := Lib.hid p3
    have Q3 := Lib.hid q3
    have HAT : Hid (∀ W, Below w.heap.size w W → ∀ j (h1 : j < (L ++ K).length) (h2 : j < (xs1 ++ xs2).length), AtsAt W (xs1 ++ xs2)[j] (L ++ K)[j]) := Lib.hid (fun W hW j a b => by
      rw [List.length_append] at a
      by_cases hj : j < L.length
      · rw [List.getElem_append_left hj, List.getElem_append_left (by omega)]
        exact (p4 j hj _).below hW
      · rw [List.getElem_append_right (by omega), List.getElem_append_right (by omega)]
        have e3 : j - xs1.length = j - L.length := by omega
        have h9 := (q4 (j - L.length) (by omega) (by omega)).below hW
        simp only [e3]
        exact h9)
    have HSC : Hid (∀ W u v, ClsAt W u (L ++ K) → ClsAt W v (L ++ K) → Calls Try.prog 11 #[u, v] W fun e w' => e = .returned (.bool true) ∧ Below W.heap.size W w') := Lib.hid (fun W u v a b => (SameClauses_any u v _ _ W a b (by rw [List.length_append]; omega) (fun l hl9 => by
      rcases List.mem_append.1 hl9 with h | h
      · have := hl.2 l h; omega
      · have := hk.2 l h; omega)).mono fun e w' ⟨he, m, hm⟩ => ⟨by rw [he, decide_eq_true rfl], by rw [hm]; exact below_drewN _ _⟩)
    have HN1 := Lib.hid hn1
    have HN2 := Lib.hid hn2
    obtain ⟨i0, hi0, hz0, hz1, hz2⟩ := info_parts cl_row
    exact joins_core A1 A2 c1 c2 n1 n2 X Y L K xs1 xs2 w HAW HLT HT1 HT2 HP HR1 HR2 P3 Q3 HAT HSC HN1 HN2 eX eY hXs hYs hb1 hb2 hno i0 hi0 hz0 hz1 hz2
  · have hP' : ∀ W, Calls Try.prog 9 #[.string (X ++ (⟨#[44]⟩ : ByteArray) ++ Y)] W fun e w' => Below W.heap.size W w' ∧ ∃ v, e = .returned (.tuple #[v, .int .i64 12]) := fun W => (hP W).mono fun e w' ⟨hb, v, he, ho⟩ => by
      rw [if_neg (by omega)] at he
      exact ⟨hb, v, he⟩
    have HP := Lib.hid hP'
    have hno : (12 : Int) < (n1 : Int) + (n2 : Int) := by omega
    clear hP hP' hcat ol ok' hover hA1 hA2 hc1 hc2 hl hk hLs hKs h1 h2 hn1 hn2 okl okk nL nK
    go_enter Try.func5, Try.ntmps5
    go_wp2_with fail
    go_at_call 13
    refine (HLT.out w (Below.refl _ _) _ (.inl rfl)).mono ?_
    rintro e w1 ⟨rfl, hb1⟩
    have HW1 := Lib.hid hb1
    clear hb1
    go_wp2_with fail
    go_at_call 13
    refine (HLT.out w1 HW1.out _ (.inr rfl)).mono ?_
    rintro e w2 ⟨rfl, hb2⟩
    have HW2 := Lib.hid (HW1.out.trans (hb2.mono HW1.out.size))
    clear hb2 HLT HW1
    go_wp2_with fail
    go_at_call 14
    refine (HT1.out w2 HW2.out).mono ?_
    rintro e w3 ⟨rfl, hb3⟩
    have HW3 := Lib.hid (HW2.out.trans (hb3.mono HW2.out.size))
    clear hb3 HT1 HW2
    go_wp2_with fail
    go_at_call 14
    refine (HT2.out w3 HW3.out).mono ?_
    rintro e w4 ⟨rfl, hb4⟩
    have HW4 := Lib.hid (HW3.out.trans (hb4.mono HW3.out.size))
    clear hb4 HT2 HW3
    go_wp2_with fail
    go_at_call 9
    refine (HP.out w4).mono ?_
    rintro e w5 ⟨hb5, v5, rfl⟩
    have HW5 := Lib.hid (HW4.out.trans (hb5.mono HW4.out.size))
    clear hb5 HP HW4
    go_wp2_with (go_at_call 12; refine (HAW.out _).mono ?_; rintro e w9 ⟨rfl, hb9⟩)
    go_ret
    exact ⟨rfl, HW5.out.trans (hb9.mono HW5.out.size)⟩
section
open Go.ChangeShapes Go.WideShapes Go.ChangeAt Go.ChangeMaps
theorem relationJoins_walk {H : Type} {enc : TypeId × Value → H} (W : World) {base : Nat} (v0 v1 : Value) {d0 d1 : DataW H} {p0 p1 : List MemPlace}
    (h0 : DataW.Trod enc Try.prog W 0 (fun _ => true) true 23 v0 d0 p0) (o0 : Value.okWide Try.prog W .any base 23 v0)
    (h1 : DataW.Trod enc Try.prog W 0 (fun _ => true) true 23 v1 d1 p1) (o1 : Value.okWide Try.prog W .any base 23 v1)
    (hk : Rows.uptoBulkAll [d0, d1] ≤ 1048576) :
    Calls Try.prog 5 #[v0, v1] W fun e w' => e = .returned (.bool true) ∧ Below W.heap.size W w' := by
  simp only [Rows.uptoBulkAll] at hk
  obtain ⟨f0, g0⟩ := h0
  obtain ⟨f1, g1⟩ := h1
  obtain ⟨a0, n0, c0, rfl⟩ := okWide_slice Try.underlying23 o0
  obtain ⟨a1, n1, c1, rfl⟩ := okWide_slice Try.underlying23 o1
  obtain ⟨L, hL1, hL2, hL3⟩ := open_cls g0
  obtain ⟨K, hK1, hK2, hK3⟩ := open_cls g1
  simp only at hL2 hL3 hK2 hK3
  by_cases hl : lightB L = true ∧ lightB K = true
  · exact relationJoins_light _ _ L K W hL1 hK1 hl.1 hl.2 (fun c hc a ha => by have := (hL3 c hc).2 a ha; omega) (fun c hc a ha => by have := (hK3 c hc).2 a ha; omega)
  · refine relationJoins_heavy _ _ L K W hL1 hK1 (by omega) (by omega) ?_
    by_cases h : lightB L = true
    · exact .inr (by
        have : ¬ lightB K = true := fun h9 => hl ⟨h, h9⟩
        simpa using this)
    · exact .inl (by simpa using h)
end
end Go.Proofs.Ytdchnllflodmkaa
