/- chandlerref4.Words: the walk. -/
import Derived.Test.YtdchnllflodmkaaDoorTail
import Derived.Laws.AppendOwn
import Derived.Deep.DeepCutAuto
namespace Go.Proofs.YtdchnllflodmkaaDoor
open Go.RowKit Go.Shelf Go.Lib
set_option linter.unusedVariables false

def pieces (s : ByteArray) (acc : List (Nat × Nat)) : List Value := (acc.map fun x => s.extract x.1 x.2).map Value.string
theorem pieces_snoc (s : ByteArray) (acc : List (Nat × Nat)) (x : Nat × Nat) : pieces s (acc ++ [x]) = pieces s acc ++ [Value.string (s.extract x.1 x.2)] := by simp [pieces]
set_option maxRecDepth 100000 in
set_option maxHeartbeats 1000000 in
theorem RefWords_any (S : ByteArray) (w : World) (hs : S.size ≤ 4294967296) :
    Calls Tryd.prog 21 #[.string S] w fun e w' => ∃ v, e = .returned v ∧ w'.ownsRow w.heap.size 9 1 v (wordsOf S).length ((wordsOf S).map Value.string) ∧ Below w.heap.size w w' := by
  have hinfo : (Tryd.prog.info? 9).map (fun i => (i.zero, i.size, i.bytes)) = some (some (.string ⟨#[]⟩), 1, 16) := by kernel_rfl
  obtain ⟨i0, hi, hz0, hz1, hz2⟩ := info_parts hinfo
  obtain ⟨T, hT⟩ : ∃ T, T = closeSpans S (W S 0 none []) := ⟨_, rfl⟩
  have HT : Hid (wordsOf S = T.map fun x => S.extract x.1 x.2) := Lib.hid (by rw [hT]; rfl)
  have H0 := Lib.hid hT.symm
  clear hT hinfo
  go_enter Tryd.func21, Tryd.ntmps21
  go_wp2
  go_loopw [3, 4] (fun v p wr => ∃ (i : Nat) (acc : List (Nat × Nat)), p = .int .i64 i ∧ wr.ownsRow w.heap.size 9 1 v acc.length (pieces S acc) ∧ Hid (closeSpans S (W S i none acc) = T) ∧ Below w.heap.size w wr ∧ acc.length ≤ i ∧ i ≤ S.size) (fun _ p _ => S.size - (match p with | .int _ a => a.toNat | _ => 0))
  case atStart => exact ⟨0, [], rfl, World.ownsRow_nil _ _ _ _, H0, Below.refl _ _, Nat.le_refl _, by omega⟩
  case round =>
    obtain ⟨i, acc, rfl, hown, HW, hb, hal, hil⟩ := hrel
    have hi63 : i < 4294967297 := by omega
    obtain ⟨wo, rfl⟩ : ∃ wo : World, wo = wr := ⟨_, rfl⟩
    by_cases hlt : i < S.size
    · cases hw : wB (byteAt S i) with
      | true =>
        have HE := Lib.hid (W_white_none S i acc hlt hw)
        have HWh := Lib.hid (byteAt_get S i hlt ▸ hw)
        clear hw
        go_wp2_with fail
        refine (refWhite_any (S[i]'hlt).toNat _ (UInt8.toNat_lt _)).mono ?_
        rintro e w1 ⟨rfl, rfl⟩
        rw [HWh.out]
        go_wp2
        refine ⟨⟨i + 1, acc, by go_num, hown, Lib.hid (HE.out ▸ HW.out), hb, by omega, by omega⟩, ?_⟩
        show S.size - ((i : Int) + 1).toNat < S.size - (i : Int).toNat
        omega
      | false =>
        have HE := Lib.hid (W_ink S i none acc hlt hw)
        have HE2 := Lib.hid (W_ink S i (some i) acc hlt hw)
        have HWh := Lib.hid (byteAt_get S i hlt ▸ hw)
        have HW1 := Lib.hid hw
        clear hw
        go_wp2_with fail
        refine (refWhite_any (S[i]'hlt).toNat _ (UInt8.toNat_lt _)).mono ?_
        rintro e w1 ⟨rfl, rfl⟩
        rw [HWh.out]
        go_wp2
        go_loopw [4] (fun p wr => ∃ j : Nat, p = .int .i64 j ∧ wr = wo ∧ Hid (closeSpans S (W S j (some i) acc) = T) ∧ i ≤ j ∧ j ≤ S.size) (fun p _ => S.size - (match p with | .int _ a => a.toNat | _ => 0))
        case atStart => exact ⟨i, rfl, rfl, Lib.hid (by rw [HE2.out, ← HW.out, HE.out]; rfl), Nat.le_refl _, hil⟩
        case round =>
          obtain ⟨j, rfl, rfl, HJ, hij, hjl⟩ := hrel
          have hj63 : j < 4294967297 := by omega
          by_cases hjt : j < S.size
          · cases hv : wB (byteAt S j) with
            | true =>
              have HV := Lib.hid (byteAt_get S j hjt ▸ hv)
              go_wp2_with fail
              refine (refWhite_any (S[j]'hjt).toNat _ (UInt8.toNat_lt _)).mono ?_
              rintro e w1 ⟨rfl, rfl⟩
              rw [HV.out]
              have hne : i < j := by
                rcases Nat.lt_or_ge i j with h | h
                · exact h
                · exfalso
                  have e : j = i := by omega
                  rw [e, HW1.out] at hv
                  exact absurd hv (by decide)
              have HF : Hid (closeSpans S (W S j none (acc ++ [(i, j)])) = T) := Lib.hid (by rw [W_white_none S j _ hjt hv, ← W_white_some S j i acc hjt hv]; exact HJ.out)
              have hsize := hb.size
              clear hv
              go_wp2_with (at_builtin; refine wpList_append_own _ rfl (.tmp 30) (.tmp 35) 32 rfl w.heap.size 9 i0 (.string ⟨#[]⟩) 1 16 Tryd.underlying32 hi hz0 hz1 hz2 rfl (by decide) _ _ _ rfl (hown.alloc _) ⟨wr.heap.size, 0, none⟩ 1 1 [.string (S.extract i j)] rfl rfl (cell_one_new _ _ _) (fun x hx => by simp at hx; subst hx; rfl) (by unfold maxLen; omega) (by omega) (by simp; omega) ?_; intro v' w3 hown' hgrow3 hnil3)
              refine ⟨⟨j, acc ++ [(i, j)], rfl, by rw [pieces_snoc, List.length_append]; exact hown', HF, (hb.alloc hb.size _).grown hgrow3 (by simp; omega) (fun q hq => (hown.lt q hq).1), by rw [List.length_append]; show acc.length + 1 ≤ j; omega, hjl⟩, ?_⟩
              show S.size - (j : Int).toNat < S.size - (i : Int).toNat
              omega
            | false =>
              have HV := Lib.hid (byteAt_get S j hjt ▸ hv)
              have HN := Lib.hid (W_ink S j (some i) acc hjt hv)
              clear hv
              go_wp2_with fail
              refine (refWhite_any (S[j]'hjt).toNat _ (UInt8.toNat_lt _)).mono ?_
              rintro e w1 ⟨rfl, rfl⟩
              rw [HV.out]
              go_wp2
              refine ⟨⟨j + 1, by go_num, by first | rfl | trivial, Lib.hid (by rw [← HJ.out, HN.out]; rfl), by omega, by omega⟩, ?_⟩
              show S.size - ((j : Int) + 1).toNat < S.size - (j : Int).toNat
              omega
          · have ej : j = S.size := by omega
            have HF : Hid (closeSpans S (W S j none (acc ++ [(i, j)])) = T) := Lib.hid (by
              rw [← HJ.out, W_end S j _ _ (by omega), W_end S j _ _ (by omega), ej]
              rfl)
            have hsize := hb.size
            have hne : i < j := by omega
            clear ej
            go_wp2_with (at_builtin; refine wpList_append_own _ rfl (.tmp 30) (.tmp 35) 32 rfl w.heap.size 9 i0 (.string ⟨#[]⟩) 1 16 Tryd.underlying32 hi hz0 hz1 hz2 rfl (by decide) _ _ _ rfl (hown.alloc _) ⟨wr.heap.size, 0, none⟩ 1 1 [.string (S.extract i j)] rfl rfl (cell_one_new _ _ _) (fun x hx => by simp at hx; subst hx; rfl) (by unfold maxLen; omega) (by omega) (by simp; omega) ?_; intro v' w3 hown' hgrow3 hnil3)
            refine ⟨⟨j, acc ++ [(i, j)], rfl, by rw [pieces_snoc, List.length_append]; exact hown', HF, (hb.alloc hb.size _).grown hgrow3 (by simp; omega) (fun q hq => (hown.lt q hq).1), by rw [List.length_append]; show acc.length + 1 ≤ j; omega, hjl⟩, ?_⟩
            show S.size - (j : Int).toNat < S.size - (i : Int).toNat
            omega
    · have HE := Lib.hid (W_end S i none acc (by omega))
      go_wp2
      go_ret
      have e : wordsOf S = acc.map fun x => S.extract x.1 x.2 := by rw [HT.out, ← HW.out, HE.out]; rfl
      refine ⟨_, rfl, ?_, hb⟩
      rw [e, List.length_map]
      exact hown
end Go.Proofs.YtdchnllflodmkaaDoor
