/- Rows of rows of bytes: where they lie; small; SameRows. -/
import Derived.Test.YtiiegimnnngnnaaLog11
import Derived.Test.YtiiegimnnngnnaaRows2
import Derived.BigQuiet
import Derived.Deep.QuietTactic
namespace Go.Proofs.Ytiiegimnnngnnaa
open Go.RowKit
set_option linter.unusedVariables false

/-- Slices of bytes as a row's elements, each in a block of Q. -/
def RowsX (w : World) (Q : Nat → Prop) (xs : List Value) (L : List (List Nat)) : Prop :=
  xs.length = L.length ∧ ∀ j (h : j < L.length), ∃ Aj cj, xs[j]? = some (.slice Aj (L[j]).length cj) ∧ (L[j]).length ≤ cj ∧ cj ≤ maxLen ∧ Bytes w Aj (L[j]).length L[j] ∧ ∀ b o, Aj = some ⟨b, o, none⟩ → 0 < (L[j]).length → Q b
def RowsT (w : World) (Q : Nat → Prop) (v : Value) (L : List (List Nat)) : Prop :=
  ∃ A cap, v = .slice A L.length cap ∧ L.length ≤ cap ∧ cap ≤ maxLen ∧ ∀ j (h : j < L.length), ∃ g o Aj cj, A = some ⟨g, o, none⟩ ∧ Q g ∧ g < w.heap.size ∧ w.cell? ⟨g, o + j, none⟩ = some (.slice Aj (L[j]).length cj) ∧ (L[j]).length ≤ cj ∧ cj ≤ maxLen ∧ Bytes w Aj (L[j]).length L[j] ∧ ∀ b o, Aj = some ⟨b, o, none⟩ → 0 < (L[j]).length → Q b
theorem RowsAt.far {w : World} {v : Value} {L : List (List Nat)} (h : RowsAt w v L) : RowsT w (fun k => k < w.heap.size) v L := by
  obtain ⟨A, cap, rfl, h1, h2, h3⟩ := h
  refine ⟨A, cap, rfl, h1, h2, fun j hj => ?_⟩
  obtain ⟨g, o, Aj, cj, rfl, k1, k2, k3, k4⟩ := h3 j hj
  have hg := World.block_lt_of_cell? w _ k1
  refine ⟨g, o, Aj, cj, rfl, hg, hg, k1, k2, k3, k4, fun b o' e h0 => ?_⟩
  obtain ⟨b', o'', e', hb, _⟩ := k4.2.2 h0
  rw [e] at e'
  cases e'
  exact hb
theorem RowsT.at {w : World} {Q : Nat → Prop} {v : Value} {L : List (List Nat)} (h : RowsT w Q v L) : RowsAt w v L := by
  obtain ⟨A, cap, rfl, h1, h2, h3⟩ := h
  refine ⟨A, cap, rfl, h1, h2, fun j hj => ?_⟩
  obtain ⟨g, o, Aj, cj, rfl, _, _, k1, k2, k3, k4, _⟩ := h3 j hj
  exact ⟨g, o, Aj, cj, rfl, k1, k2, k3, k4⟩
theorem RowsT.upd {T Q : Nat → Prop} {w w' : World} {v : Value} {L : List (List Nat)} (h : RowsT w Q v L) (hu : Upd T w w') (hT : ∀ k, Q k → k < w.heap.size → ¬ T k) : RowsT w' Q v L := by
  obtain ⟨A, cap, rfl, h1, h2, h3⟩ := h
  refine ⟨A, cap, rfl, h1, h2, fun j hj => ?_⟩
  obtain ⟨g, o, Aj, cj, rfl, q1, q2, k1, k2, k3, k4, k5⟩ := h3 j hj
  refine ⟨g, o, Aj, cj, rfl, q1, Nat.lt_of_lt_of_le q2 hu.size, (hu.cell q2 (hT g q1 q2)).trans k1, k2, k3, k4.upd hu (fun b o' e h0 => ?_), k5⟩
  obtain ⟨b', o'', e', hb, _⟩ := k4.2.2 h0
  rw [e] at e'
  cases e'
  exact hT b (k5 b o' e h0) hb
theorem RowsT.mono {Q Q' : Nat → Prop} {w : World} {v : Value} {L : List (List Nat)} (h : RowsT w Q v L) (hQ : ∀ k, Q k → Q' k) : RowsT w Q' v L := by
  obtain ⟨A, cap, rfl, h1, h2, h3⟩ := h
  refine ⟨A, cap, rfl, h1, h2, fun j hj => ?_⟩
  obtain ⟨g, o, Aj, cj, rfl, q1, q2, k1, k2, k3, k4, k5⟩ := h3 j hj
  exact ⟨g, o, Aj, cj, rfl, hQ _ q1, q2, k1, k2, k3, k4, fun b o' e h0 => hQ _ (k5 b o' e h0)⟩
theorem RowsX.nil (w : World) (Q : Nat → Prop) : RowsX w Q [] [] := ⟨rfl, fun j h => absurd h (by simp)⟩
theorem RowsX.upd {T Q : Nat → Prop} {w w' : World} {xs : List Value} {L : List (List Nat)} (h : RowsX w Q xs L) (hu : Upd T w w') (hT : ∀ k, Q k → k < w.heap.size → ¬ T k) : RowsX w' Q xs L := by
  refine ⟨h.1, fun j hj => ?_⟩
  obtain ⟨Aj, cj, h1, h2, h3, h4, h5⟩ := h.2 j hj
  refine ⟨Aj, cj, h1, h2, h3, h4.upd hu (fun b o e h0 => ?_), h5⟩
  obtain ⟨b', o'', e', hb, _⟩ := h4.2.2 h0
  rw [e] at e'
  cases e'
  exact hT b (h5 b o e h0) hb
theorem RowsX.snoc {w : World} {Q : Nat → Prop} {xs : List Value} {L : List (List Nat)} {A : Option Addr} {c : Nat} {b : List Nat} (h : RowsX w Q xs L) (hb : Bytes w A b.length b) (hc : b.length ≤ c) (hm : c ≤ maxLen) (hA : ∀ g o, A = some ⟨g, o, none⟩ → 0 < b.length → Q g) : RowsX w Q (xs ++ [.slice A b.length c]) (L ++ [b]) := by
  refine ⟨by rw [List.length_append, List.length_append, h.1]; rfl, fun j hj => ?_⟩
  rw [List.length_append] at hj
  by_cases e : j < L.length
  · obtain ⟨Aj, cj, h1, h2, h3, h4, h5⟩ := h.2 j e
    have e1 : (L ++ [b])[j] = L[j] := List.getElem_append_left e
    refine ⟨Aj, cj, ?_, by rw [e1]; exact h2, h3, by rw [e1]; exact h4, by rw [e1]; exact h5⟩
    rw [List.getElem?_append_left (by rw [h.1]; exact e), e1]; exact h1
  · have e2 : j = L.length := by simp at hj; omega
    subst e2
    have e1 : (L ++ [b])[L.length] = b := by simp
    refine ⟨A, c, ?_, by rw [e1]; exact hc, hm, by rw [e1]; exact hb, by rw [e1]; exact hA⟩
    rw [e1, ← h.1, List.getElem?_concat_length]
theorem RowsX.row {w : World} {Q : Nat → Prop} {base : Nat} {v : Value} {n : Nat} {xs : List Value} {L : List (List Nat)} (h : RowsX w Q xs L) (ho : w.ownsRow base 22 1 v n xs) : RowsT w (fun k => Q k ∨ v.ownBlock = some k) v L := by
  have hl : n = L.length := by rw [← h.1]; have := ho.1; omega
  subst hl
  rcases ho.2 with ⟨rfl, hn⟩ | ⟨g, cap, cur, rfl, hbg, hg, hnc, hcm, hcs, htake⟩
  · have e : L = [] := List.eq_nil_of_length_eq_zero hn
    subst e
    exact ⟨none, 0, rfl, Nat.le_refl _, Nat.zero_le _, fun j hj => absurd hj (by simp)⟩
  · refine ⟨_, cap, rfl, hnc, hcm, fun j hj => ?_⟩
    obtain ⟨Aj, cj, h1, h2, h3, h4, h5⟩ := h.2 j hj
    refine ⟨g, 0, Aj, cj, rfl, .inr rfl, Blk.lt hg, ?_, h2, h3, h4, fun b o e h0 => .inl (h5 b o e h0)⟩
    rw [Nat.zero_add, ho.cellAt j (by omega)]
    exact h1
/-- The rows that are short, of the first twenty. -/
def smallL : List (List Nat) → Nat → List (List Nat)
  | [], _ => []
  | b :: r, i => if i < 20 ∧ b.length ≤ 300 then b :: smallL r (i + 1) else smallL r (i + 1)
theorem smallL_mem : ∀ (L : List (List Nat)) (i : Nat), ∀ b ∈ smallL L i, b.length ≤ 300 ∧ b ∈ L
  | [], _, b, h => by cases h
  | c :: r, i, b, h => by
    unfold smallL at h
    split at h
    · rename_i hc
      cases h with
      | head => exact ⟨hc.2, .head _⟩
      | tail _ h => exact ⟨(smallL_mem r (i + 1) b h).1, .tail _ (smallL_mem r (i + 1) b h).2⟩
    · exact ⟨(smallL_mem r (i + 1) b h).1, .tail _ (smallL_mem r (i + 1) b h).2⟩
theorem smallL_len : ∀ (L : List (List Nat)) (i : Nat), (smallL L i).length ≤ 20 - i
  | [], _ => Nat.zero_le _
  | b :: r, i => by
    have := smallL_len r (i + 1)
    unfold smallL
    split
    · rw [List.length_cons]; omega
    · omega
set_option maxRecDepth 100000 in
set_option maxHeartbeats 1000000 in
theorem small_any (Q : Nat → Prop) (v : Value) (L : List (List Nat)) (w : World) (h : RowsT w Q v L) (hQ : ∀ k, Q k → k < w.heap.size) (hL : L.length ≤ 4294967296) :
    Calls Try.prog 51 #[v] w fun e w' => ∃ v', e = .returned v' ∧ RowsT w' (fun k => Q k ∨ (w.heap.size ≤ k ∧ k < w'.heap.size)) v' (smallL L 0) ∧ Below w.heap.size w w' := by
  obtain ⟨i0, hi0, hz0, hz1, hz2⟩ := info_parts slice_row
  have HR := Lib.hid h
  have HQW : Hid (∀ k, Q k → ¬ w.heap.size ≤ k) := Lib.hid (fun k hk => Nat.not_le.2 (hQ k hk))
  obtain ⟨A, cap, rfl, hc1, hc2, _⟩ := h
  go_enter Try.func51, Try.ntmps51
  go_wp2_with fail
  go_loopw [3, 8] (fun a i wr => ∃ (j n : Nat) (A' : Option Addr) (c' : Nat) (acc : List (List Nat)) (xs : List Value), a = .slice A' n c' ∧ i = .int .i64 j ∧ Hid (wr.ownsRow w.heap.size 22 1 (.slice A' n c') n xs) ∧ Hid (RowsX wr Q xs acc) ∧ Hid (Below w.heap.size w wr) ∧ j ≤ L.length ∧ n ≤ j ∧ Hid (acc ++ smallL (L.drop j) j = smallL L 0)) (fun _ i _ => L.length - (match i with | .int _ x => x.toNat | _ => 0))
  case atStart => exact ⟨0, 0, none, 0, [], [], rfl, rfl, Lib.hid (World.ownsRow_nil _ _ _ _), Lib.hid (RowsX.nil _ _), Lib.hid (Below.refl _ _), Nat.zero_le _, Nat.le_refl _, Lib.hid rfl⟩
  case round =>
    obtain ⟨j, n, A', c', acc, xs, rfl, rfl, HOW, HRX, HB, hj, hn, HAC⟩ := hrel
    by_cases hlt : j < L.length
    · obtain ⟨_, _, hv, _, _, hrow⟩ := HR.out
      obtain ⟨g, o, Aj, cj, e1, q1, q2, k1, k2, k3, k4, k5⟩ := hrow j hlt
      cases hv
      subst e1
      have hu : Upd (fun k => w.heap.size ≤ k) w wr := Upd.of_below HB.out (fun _ _ h => h)
      have k1' : wr.cell? ⟨g, o + j, none⟩ = some (.slice Aj (L[j]).length cj) := (HB.out.cell q2).trans k1
      obtain ⟨b, hb⟩ : ∃ b, b = L[j] := ⟨_, rfl⟩
      rw [← hb] at k1' k2 k4 k5
      have HAC2 : Hid (acc ++ (if j < 20 ∧ b.length ≤ 300 then b :: smallL (L.drop (j + 1)) (j + 1) else smallL (L.drop (j + 1)) (j + 1)) = smallL L 0) := Lib.hid (by
        rw [← HAC.out, List.drop_eq_getElem_cons hlt, hb]; rfl)
      have HSN := Lib.hid (fun (hQ : True) => HRX.out.snoc (k4.below HB.out) k2 k3 (fun g o e h0 => k5 g o e h0))
      have hblen : b.length ≤ maxLen := Nat.le_trans k2 k3
      have hbl2 : b.length ≤ 140737488355328 * 65536 := by unfold maxLen at hblen; omega
      clear k1 k4 k5 hu hrow hb
      by_cases h20 : j < 20
      · have h20' : (j : Int) < 20 := by omega
        by_cases h300 : b.length ≤ 300
        · have h300' : decide ((b.length : Int) ≤ 300) = true := decide_eq_true (by omega)
          have HAC3 : Hid (acc ++ [b] ++ smallL (L.drop (j + 1)) (j + 1) = smallL L 0) := Lib.hid (by
            rw [← HAC2.out, if_pos ⟨h20, h300⟩]; simp)
          clear HAC2
          go_wp2_with (at_builtin; refine wpList_append_own _ rfl (.tmp 20) (.tmp 22) 57 rfl w.heap.size 22 i0 (.slice none 0 0) 1 24 Try.underlying57 hi0 hz0 hz1 hz2 rfl (by decide) _ n xs rfl (HOW.out.alloc _) ⟨wr.heap.size, 0, none⟩ 1 1 [.slice Aj b.length cj] rfl rfl (cell_one_new _ _ _) (slice_one _ _ _ _ rfl) (by unfold maxLen; omega) (by omega) (Nat.le_trans HB.out.size (by simp)) ?_; intro v5 w5 hown5 hg5 hn5; have HOW5 := Lib.hid hown5; have HU5 : Hid (Upd (fun k => (Value.slice A' n c').ownBlock = some k) wr w5) := Lib.hid (((Upd.refl _ wr).alloc _).grown hg5 (fun k hk => .inl hk)); obtain ⟨A5, c5, rfl⟩ := own_shape hown5; clear hown5 hg5 hn5)
          have HB5 := Lib.hid (HB.out.trans ((HU5.out.below (B := w.heap.size) (fun k hk => (HOW.out.lt k hk).1) HB.out.size)))
          have HRX5 := Lib.hid ((HSN.out trivial).upd HU5.out (fun k hq hk hT => HQW.out k hq ((HOW.out.lt k hT).1)))
          clear HSN
          go_wp2_with fail
          refine ⟨⟨j + 1, n + 1, A5, c5, acc ++ [b], _, rfl, by go_num, HOW5, HRX5, HB5, by omega, by omega, HAC3⟩, ?_⟩
          show L.length - ((j : Int) + 1).toNat < L.length - (j : Int).toNat
          omega
        · have h300' : decide ((b.length : Int) ≤ 300) = false := decide_eq_false (by omega)
          have HAC3 : Hid (acc ++ smallL (L.drop (j + 1)) (j + 1) = smallL L 0) := Lib.hid (by rw [← HAC2.out, if_neg (fun h => h300 h.2)])
          clear HAC2 HSN
          go_wp2_with fail
          refine ⟨⟨j + 1, n, A', c', acc, xs, rfl, by go_num, HOW, HRX, HB, by omega, by omega, HAC3⟩, ?_⟩
          show L.length - ((j : Int) + 1).toNat < L.length - (j : Int).toNat
          omega
      · have h20' : decide ((j : Int) < 20) = false := decide_eq_false (by omega)
        have HAC3 : Hid (acc ++ smallL (L.drop (j + 1)) (j + 1) = smallL L 0) := Lib.hid (by rw [← HAC2.out, if_neg (fun h => h20 h.1)])
        clear HAC2 HSN
        go_wp2_with fail
        refine ⟨⟨j + 1, n, A', c', acc, xs, rfl, by go_num, HOW, HRX, HB, by omega, by omega, HAC3⟩, ?_⟩
        show L.length - ((j : Int) + 1).toNat < L.length - (j : Int).toNat
        omega
    · have HEQ : Hid (acc = smallL L 0) := Lib.hid (by
        rw [← HAC.out, List.drop_of_length_le (by omega)]
        exact (List.append_nil _).symm)
      go_wp2_with fail
      go_ret
      refine ⟨_, rfl, ?_, HB.out⟩
      rw [← HEQ.out]
      exact (HRX.out.row HOW.out).mono fun k hk => by
        rcases hk with hk | hk
        · exact .inl hk
        · exact .inr (HOW.out.lt k hk)
set_option maxRecDepth 100000 in
set_option maxHeartbeats 1000000 in
theorem SameRows_any (L : List (List Nat)) (v1 v2 : Value) (w : World) (h1 : RowsAt w v1 L) (h2 : RowsAt w v2 L) (hl : L.length ≤ 4294967296) :
    Calls Try.prog 52 #[v1, v2] w fun e w' => e = .returned (.bool true) ∧ Below w.heap.size w w' := by
  obtain ⟨A1, c1, rfl, _, _, hr1⟩ := h1
  obtain ⟨A2, c2, rfl, _, _, hr2⟩ := h2
  have HR1 := Lib.hid hr1
  have HR2 := Lib.hid hr2
  clear hr1 hr2
  obtain ⟨wo, rfl⟩ : ∃ wo : World, wo = w := ⟨_, rfl⟩
  go_enter Try.func52, Try.ntmps52
  go_wp2
  go_loopw [13] (fun p wr => ∃ i : Nat, p = .int .i64 i ∧ Hid (∃ n, wr = wo.drewN n) ∧ i ≤ L.length) (fun p _ => L.length - (match p with | .int _ a => a.toNat | _ => 0))
  case atStart => exact ⟨0, rfl, Lib.hid ⟨0, rfl⟩, by omega⟩
  case round =>
    obtain ⟨i, rfl, HW, hi⟩ := hrel
    by_cases hlt : i < L.length
    · obtain ⟨g1, o1, B1, d1, rfl, k1, _, _, y1⟩ := HR1.out i hlt
      obtain ⟨g2, o2, B2, d2, rfl, k2, _, _, y2⟩ := HR2.out i hlt
      obtain ⟨n0, hn0⟩ := HW.out
      have hbel : Below wo.heap.size wo wr := by rw [hn0]; exact ⟨rfl, rfl, rfl, Nat.le_refl _, fun _ _ => rfl⟩
      have k1' : wr.cell? ⟨g1, o1 + i, none⟩ = some (.slice B1 (L[i]).length d1) := by rw [hn0]; exact k1
      have k2' : wr.cell? ⟨g2, o2 + i, none⟩ = some (.slice B2 (L[i]).length d2) := by rw [hn0]; exact k2
      obtain ⟨b, hb⟩ : ∃ b, b = L[i] := ⟨_, rfl⟩
      rw [← hb] at k1' k2' y1 y2
      have hcx : ∀ n : Nat, (convert 22 9 (.slice B1 b.length d1)).run Try.prog (wr.drewN n) = .ok (.string (strOf b)) (wr.drewN n) := fun n =>
        ((y1.below hbel).below ⟨rfl, rfl, rfl, Nat.le_refl _, fun _ _ => rfl⟩ : Bytes (wr.drewN n) B1 b.length b).to_string 22 9 5 d1 Try.underlying22 Try.underlying5 Try.underlying9
      have hco : ∀ n : Nat, (convert 22 9 (.slice B2 b.length d2)).run Try.prog (wr.drewN n) = .ok (.string (strOf b)) (wr.drewN n) := fun n =>
        ((y2.below hbel).below ⟨rfl, rfl, rfl, Nat.le_refl _, fun _ _ => rfl⟩ : Bytes (wr.drewN n) B2 b.length b).to_string 22 9 5 d2 Try.underlying22 Try.underlying5 Try.underlying9
      have hq : ((strOf b).toList == (strOf b).toList) = true := beq_self_eq_true _
      have i1 : (0 : Int) ≤ (i : Int) := by omega
      have i2 : (i : Int) < (L.length : Int) := by omega
      generalize strOf b = sb at *
      clear hn0 k1 k2 y1 y2 hb hbel
      go_wp2_with fail
      go_quiet (fail)
      go_wp2_with fail
      refine ⟨⟨i + 1, by go_num, Lib.hid ?_, by omega⟩, ?_⟩
      · obtain ⟨n0, hn0⟩ := HW.out
        exact ⟨n0 + nq, by rw [hn0]; simp [World.drewN, Nat.add_assoc]⟩
      · show L.length - ((i : Int) + 1).toNat < L.length - (i : Int).toNat
        omega
    · go_wp2_with fail
      go_ret
      obtain ⟨n0, hn0⟩ := HW.out
      exact ⟨rfl, by rw [hn0]; exact ⟨rfl, rfl, rfl, Nat.le_refl _, fun _ _ => rfl⟩⟩
end Go.Proofs.Ytiiegimnnngnnaa
