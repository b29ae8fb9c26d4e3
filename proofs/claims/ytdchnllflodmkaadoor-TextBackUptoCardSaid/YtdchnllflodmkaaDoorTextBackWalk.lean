/- TextBack: the walk. -/
import Derived.Test.YtdchnllflodmkaaDoorLines
import Derived.Test.YtdchnllflodmkaaDoorTxt9
import Derived.Test.YtdchnllflodmkaaDoorRows
import Derived.Test.YtdchnllflodmkaaDoorOpen
import Derived.OpenShut
import Derived.ShutString
namespace Go.Proofs.YtdchnllflodmkaaDoor
open Go.RowKit Go.Shelf Go.Lib
set_option linter.unusedVariables false

theorem rl_le : ∀ (t cur : List UInt8), (rl t cur).length ≤ t.length + 1
  | [], cur => by
    show (if cur = [] then [] else [cur]).length ≤ _
    split <;> simp
  | c :: t, cur => by
    show (if c = 10 then cur :: rl t [] else rl t (cur ++ [c])).length ≤ _
    have h1 := rl_le t []
    have h2 := rl_le t (cur ++ [c])
    rw [List.length_cons]
    split
    · rw [List.length_cons]; omega
    · omega
theorem word_sz {s x : ByteArray} (h : x ∈ wordsOf s) : x.size ≤ s.size := by
  unfold wordsOf at h
  obtain ⟨q, _, rfl⟩ := List.mem_map.1 h
  rw [ByteArray.size_extract]; omega
theorem join_one {l : List ByteArray} {i : Nat} (hi : i < l.length) {s j : ByteArray} (hl : l = wordsOf s) (hj : wordsOf j = l.take i) (h0 : 0 < i) : wordsOf (j ++ ⟨#[32]⟩ ++ l[i]) = l.take (i + 1) := by
  rw [List.take_succ_eq_append_getElem hi]
  have hm : l[i] ∈ wordsOf s := by rw [← hl]; exact List.getElem_mem hi
  exact join_step (s := s) ⟨#[32]⟩ _ ⟨32, rfl, by decide⟩ hj (word_one hm).1
theorem join_first {l : List ByteArray} {i : Nat} (hi : i < l.length) {s j : ByteArray} (hl : l = wordsOf s) (hj : j.size = 0) (h0 : i = 0) : wordsOf (j ++ l[i]) = l.take (i + 1) := by
  subst h0
  obtain rfl : j = ⟨#[]⟩ := bl_inj (List.eq_nil_of_length_eq_zero hj)
  have e : (⟨#[]⟩ : ByteArray) ++ l[0] = l[0] := bl_inj (by rw [bl_app]; rfl)
  have hm : l[0] ∈ wordsOf s := by rw [← hl]; exact List.getElem_mem hi
  rw [List.take_succ_eq_append_getElem hi, e, (word_one hm).1]
  rfl
theorem tot_drop {l : List ByteArray} {i : Nat} (hi : i < l.length) : tot (l.drop i) = (l[i]).size + tot (l.drop (i + 1)) := by
  rw [List.drop_eq_getElem_cons hi]
  rfl
set_option maxRecDepth 100000 in
set_option maxHeartbeats 1000000 in
theorem textBack_any (A : Option Addr) (n cp : Nat) (bs : List Nat) (s : ByteArray) (w : World) (hb : Bytes w A n bs) (hcp : n ≤ cp) (hn : n ≤ 1048576) (hs : s.size ≤ 1048576) (hT : Lib.Utf8Tabs 0 1 w) (hM : MaxLenAt w) :
    Calls Tryd.prog 11 #[.slice A n cp, .string s] w fun e w' => e = .returned (.bool true) ∧ Below w.heap.size w w' := by
  have HL := Lib.hid (Lines_any A n cp bs w hb (by omega) hT hM)
  have HT := Lib.hid hT
  have HCV := Lib.hid (fun W (hW : Below w.heap.size w W) => run_string A n cp bs W (hb.below hW))
  have hz : (toS bs).size = n := by rw [toS_size, hb.1]
  obtain ⟨S, hS⟩ : ∃ S, S = toS bs := ⟨_, rfl⟩
  obtain ⟨q, hq⟩ : ∃ q, q = linesErr S := ⟨_, rfl⟩
  have hgot : linesGot S = gotOf q (linesOf S) := by rw [hq]; rfl
  obtain ⟨M, hM2⟩ : ∃ M, M = linesOf S := ⟨_, rfl⟩
  have HMZ : Hid (∀ x ∈ M, x.size ≤ 1048576) := Lib.hid (fun x hx => by rw [hM2] at hx; have := line_size hx; have e9 : S.size = n := (by rw [hS]; exact hz); omega)
  have hMlen : M.length ≤ S.size + 1 := by
    rw [hM2]; unfold linesOf
    rw [List.length_map]
    exact rl_le (bl S) []
  rw [← hM2] at hgot
  obtain ⟨x, y⟩ := q
  simp only [← hS, ← hq, hgot] at HL HCV
  rw [← hS] at hz
  -- the second half
  have hws := words_len s
  have htot := tot_words s
  obtain ⟨l, hll⟩ : ∃ l, l = wordsOf s := ⟨_, rfl⟩
  obtain ⟨t, htt⟩ : ∃ t, t = trimB s := ⟨_, rfl⟩
  have htz : t.size ≤ s.size := by
    obtain ⟨g1, g2, _, _, e, _⟩ := trimB_is s
    have h9 := congrArg List.length e
    rw [List.length_append, List.length_append, bl_len, bl_len] at h9
    rw [htt]; omega
  have h1 := fun W => Words_any s W (by omega)
  have h4 := fun W hT => Trim_any s W (by omega) hT
  have h5 := fun W hT => Trim_any t W (by omega) hT
  have h6 := fun W => Words_any t W (by omega)
  have e5 : trimB t = t := trim_eq (by rw [htt]; exact (trimB_is s).self)
  have e6 : wordsOf t = l := by rw [hll]; exact words_eq (by rw [htt]; exact (trimB_is s).words)
  rw [e5] at h5
  rw [e6] at h6
  have hone : ∀ x ∈ l, ∀ W, Lib.Utf8Tabs 0 1 W → Calls Tryd.prog 22 #[.string x] W fun e w' => e = .returned (.string x) ∧ Below W.heap.size W w' := fun x hx W hT => by
    rw [hll] at hx
    have h9 := Trim_any x W (by have := word_sz hx; omega) hT
    rwa [trim_eq (isTrim_ink (word_one hx).2.2)] at h9
  have hne : ∀ x ∈ l, x.size ≠ 0 := fun x hx h0 => by
    rw [hll] at hx
    exact (word_one hx).2.1 (List.eq_nil_of_length_eq_zero h0)
  rw [← hll] at h1 hws htot
  rw [← htt] at h4
  have H1 := Lib.hid h1
  have H4 := Lib.hid h4
  have H5 := Lib.hid h5
  have H6 := Lib.hid h6
  have HO := Lib.hid hone
  have HN := Lib.hid hne
  have HLZ : Hid (∀ x ∈ l, x.size ≤ 1048576) := Lib.hid (fun x hx => by rw [hll] at hx; have := word_sz hx; omega)
  have HLL := Lib.hid hll
  have HS := Lib.hid (fun (W : World) (v1 v2 : Value) (x1 : TextsAt W v1 l) (x2 : TextsAt W v2 l) => SameTexts_any l v1 v2 W x1 x2 (by omega))
  have HJ := Lib.hid (fun (j : ByteArray) (hj : j.size ≤ 4294967296) (hjw : wordsOf j = l) (W : World) => hjw ▸ Words_any j W hj)
  have htq : (t.toList == t.toList) = true := same_text t
  have hl63 : l.length < 4294967297 := by omega
  have HTOT := Lib.hid htot
  have HWS := Lib.hid hws
  have HGA := Lib.hid (fun (a : ByteArray) (h : bl a = fin [] (bl S)) => And.intro (fun h0 : S.size = 0 => all_empty h h0) (And.intro (fun (h0 : 0 < S.size) (hl : byteAt S (S.size - 1) = 10) => all_ends h h0 hl) (fun (h0 : 0 < S.size) (hl : byteAt S (S.size - 1) ≠ 10) => all_open h h0 hl)))
  have HDN : Hid (∀ (i : Nat) (a : ByteArray), AllTo M i a → M.length ≤ i → bl a = fin [] (bl S)) := Lib.hid (fun i a h hi => by rw [hM2] at h hi; exact h.done hi)
  clear hT hM hgot hM2 hS hq hb h1 h4 h5 h6 hone hne hll htt e5 e6 htz htot hws
  go_enter Tryd.func11, Tryd.ntmps11
  go_wp2_with fail
  go_at_call 24
  refine (HL.out).mono ?_
  rintro e w1 ⟨v1, rfl, ht1, hb1⟩
  obtain ⟨W1, hW1⟩ : ∃ W1, W1 = w1.alloc (Obj.cells #[Value.int IntKind.i64 (x : Int), Value.int IntKind.i64 (y : Int)] 38) := ⟨_, rfl⟩
  have HB1 : Hid (Below w1.heap.size w1 W1) := Lib.hid (by rw [hW1]; exact (Below.refl _ _).alloc (Nat.le_refl _) _)
  have c1 : (w1.alloc (Obj.cells #[Value.int IntKind.i64 (x : Int), Value.int IntKind.i64 (y : Int)] 38)).cell? ⟨w1.heap.size, 0, none⟩ = some (.int .i64 (x : Int)) := by rw [World.cell?_alloc_new]; rfl
  have HBW := Lib.hid (hb1.trans (HB1.out.mono hb1.size))
  have HT1 := Lib.hid (ht1.later HB1.out)
  clear ht1 hb1
  by_cases hx : x = 0
  · subst hx
    have eg : gotOf (0, y) M = M := rfl
    rw [eg] at HT1
    obtain ⟨ao, cap, rfl, hc1⟩ := HT1.out
    have HC1 := Lib.hid hc1
    have c1' : (w1.alloc (Obj.cells #[Value.int IntKind.i64 0, Value.int IntKind.i64 (y : Int)] 38)).cell? ⟨w1.heap.size, 0, none⟩ = some (.int .i64 0) := c1
    clear hc1 eg HT1
    go_wp2_with fail
    obtain ⟨wo, hwo⟩ : ∃ wo, wo = W1 := ⟨_, rfl⟩
    have hwo2 := hwo.trans hW1
    rw [show w1.alloc (Obj.cells #[Value.int IntKind.i64 0, Value.int IntKind.i64 (y : Int)] 38) = wo from hwo2.symm]
    rw [← hwo] at HC1 HBW
    clear hW1 hwo hwo2 c1 c1' HB1
    go_loopw [7, 26] (fun v p wr => ∃ (a : ByteArray) (i : Nat), v = .string a ∧ p = .int .i64 i ∧ wr = wo ∧ i ≤ M.length ∧ Hid (AllTo M i a) ∧ a.size ≤ 1048580 * i) (fun _ p _ => M.length - (match p with | .int _ a => a.toNat | _ => 0))
    case atStart => exact ⟨⟨#[]⟩, 0, rfl, rfl, rfl, Nat.zero_le _, Lib.hid (AllTo.start M), by decide⟩
    case round =>
      obtain ⟨a, i, rfl, rfl, rfl, hil, HA, haz⟩ := hrel
      have haz2 : a.size ≤ 4398046511104 := by omega
      have hi63 : i < 4294967297 := by omega
      by_cases hlt : i < M.length
      · obtain ⟨g1, rfl, k1⟩ := HC1.out i hlt
        have HA2 := Lib.hid (HA.out.step hlt)
        have hmz := HMZ.out M[i] (List.getElem_mem hlt)
        have hz1 := app_size M[i] ⟨#[10]⟩
        have hz2 := app_size a (M[i] ++ ⟨#[10]⟩)
        have e10 : (⟨#[10]⟩ : ByteArray).size = 1 := rfl
        rw [e10] at hz1
        go_wp2_with fail
        refine ⟨⟨_, i + 1, rfl, by go_num, by first | rfl | trivial, by omega, HA2, by omega⟩, ?_⟩
        show M.length - ((i : Int) + 1).toNat < M.length - (i : Int).toNat
        omega
      · obtain ⟨HA0, HA1, HA2⟩ := HGA.out a (HDN.out i a HA.out (by omega))
        have hcv := HCV.out wr HBW.out
        clear HA
        by_cases h0 : S.size = 0
        · obtain rfl : a = S := HA0 h0
          have hq : (a.toList == a.toList) = true := same_text a
          clear HA1 HA2 HA0
          go_wp2_with fail
          go_at_call 20
          refine (H1.out _).mono ?_
          rintro e w2 ⟨v2, rfl, hx1, hb2⟩
          have HV := Lib.hid hx1.at
          obtain ⟨ao2, cap2, rfl, hc2⟩ := hx1.at
          have HC2 := Lib.hid hc2
          have HBW2 := Lib.hid (HBW.out.trans (hb2.mono HBW.out.size))
          clear hx1 hc2 hb2
          go_wp2_with fail
          go_loopw [12, 57] (fun v p wr => ∃ (j : ByteArray) (i : Nat), v = .string j ∧ p = .int .i64 i ∧ Hid (Below w2.heap.size w2 wr) ∧ i ≤ l.length ∧ Hid (wordsOf j = l.take i) ∧ Hid (j.size + tot (l.drop i) ≤ s.size + i) ∧ Hid (i = 0 → j.size = 0)) (fun _ p _ => l.length - (match p with | .int _ a => a.toNat | _ => 0))
          case atStart => exact ⟨⟨#[]⟩, 0, rfl, rfl, Lib.hid (Below.refl _ _), Nat.zero_le _, Lib.hid rfl, Lib.hid (by have := HTOT.out; rw [List.drop_zero]; show 0 + _ ≤ _; omega), Lib.hid (fun _ => rfl)⟩
          case round =>
            obtain ⟨j, i, rfl, rfl, HB, hil, HJW, HJS, HJ0⟩ := hrel
            have hi63 : i < 4294967297 := by omega
            by_cases hlt : i < l.length
            · obtain ⟨g1, rfl, e1⟩ := HC2.out i hlt
              have HM := Lib.hid (List.getElem_mem hlt)
              have k1 : wr.cell? ⟨g1, i, none⟩ = some (.string l[i]) := (HB.out.cell (World.block_lt_of_cell? w2 _ e1)).trans e1
              have hxq : (l[i].toList == l[i].toList) = true := same_text _
              have hx0 : (((l[i].size : Nat) : Int) == 0) = false := beq_eq_false_iff_ne.2 (by have := HN.out _ HM.out; omega)
              have HD := Lib.hid (tot_drop hlt)
              have hjz : j.size ≤ 4294967296 := by have := HJS.out; have := HWS.out; omega
              have hlz := HLZ.out l[i] HM.out
              have hz1 := app_size j ⟨#[32]⟩
              have hz2 := app_size (j ++ ⟨#[32]⟩) l[i]
              have e32 : (⟨#[32]⟩ : ByteArray).size = 1 := rfl
              rw [e32] at hz1
              have HAP := Lib.hid (fun c : ByteArray => app_size c l[i])
              clear e1
              by_cases h00 : 0 < i
              · have h00' : (0 : Int) < i := by omega
                have HJ2 : Hid (wordsOf (j ++ ⟨#[32]⟩ ++ l[i]) = l.take (i + 1)) := Lib.hid (join_one hlt HLL.out HJW.out h00)
                have HJ3 : Hid ((j ++ ⟨#[32]⟩ ++ l[i]).size + tot (l.drop (i + 1)) ≤ s.size + (i + 1)) := Lib.hid (by
                  have e1 := app_size (j ++ ⟨#[32]⟩) l[i]
                  have e2 := app_size j ⟨#[32]⟩
                  have e3 : (⟨#[32]⟩ : ByteArray).size = 1 := rfl
                  have e4 := HD.out
                  have e5 := HJS.out
                  omega)
                go_wp2_with fail
                go_at_call 22
                refine (HO.out _ HM.out _ (tabs_later HT.out (HBW2.out.trans (HB.out.mono HBW2.out.size)))).mono ?_
                rintro e w3 ⟨rfl, hb3⟩
                have HB3 := Lib.hid (HB.out.trans (hb3.mono HB.out.size))
                clear hb3
                go_wp2_with fail
                refine ⟨⟨_, i + 1, rfl, by go_num, HB3, by omega, HJ2, HJ3, Lib.hid (fun h => absurd h (by omega))⟩, ?_⟩
                show l.length - ((i : Int) + 1).toNat < l.length - (i : Int).toNat
                omega
              · have h00' : ¬ (0 : Int) < i := by omega
                have HJ2 : Hid (wordsOf (j ++ l[i]) = l.take (i + 1)) := Lib.hid (join_first hlt HLL.out (HJ0.out (by omega)) (by omega))
                have HJ3 : Hid ((j ++ l[i]).size + tot (l.drop (i + 1)) ≤ s.size + (i + 1)) := Lib.hid (by
                  have e1 := app_size j l[i]
                  have e4 := HD.out
                  have e5 := HJS.out
                  omega)
                go_wp2_with fail
                go_at_call 22
                refine (HO.out _ HM.out _ (tabs_later HT.out (HBW2.out.trans (HB.out.mono HBW2.out.size)))).mono ?_
                rintro e w3 ⟨rfl, hb3⟩
                have HB3 := Lib.hid (HB.out.trans (hb3.mono HB.out.size))
                clear hb3
                go_wp2_with fail
                refine ⟨⟨_, i + 1, rfl, by go_num, HB3, by omega, HJ2, HJ3, Lib.hid (fun h => absurd h (by omega))⟩, ?_⟩
                show l.length - ((i : Int) + 1).toNat < l.length - (i : Int).toNat
                omega
            · have HJJ := Lib.hid (HJ.out j (by have := HJS.out; have := HWS.out; omega) (by rw [HJW.out, List.take_of_length_le (by omega)]))
              have HBW3 := Lib.hid (HBW2.out.trans (HB.out.mono HBW2.out.size))
              have HV3 := Lib.hid (HV.out.later HB.out)
              clear HJW HJS HJ0
              go_wp2_with fail
              go_at_call 22
              refine (H4.out _ (tabs_later HT.out HBW3.out)).mono ?_
              rintro e w4 ⟨rfl, hb4⟩
              have HBW4 := Lib.hid (HBW3.out.trans (hb4.mono HBW3.out.size))
              have HV4 := Lib.hid (HV3.out.later hb4)
              clear hb4
              go_wp2_with fail
              go_at_call 20
              refine (HJJ.out _).mono ?_
              rintro e w5 ⟨v5, rfl, hx5, hb5⟩
              have HX5 := Lib.hid hx5.at
              have HBW5 := Lib.hid (HBW4.out.trans (hb5.mono HBW4.out.size))
              have HV5 := Lib.hid (HV4.out.later hb5)
              clear hx5 hb5
              go_wp2_with fail
              go_at_call 19
              refine (HS.out _ _ _ HX5.out HV5.out).mono ?_
              rintro e w6 ⟨rfl, hb6⟩
              have HBW6 := Lib.hid (HBW5.out.trans (hb6.mono HBW5.out.size))
              have HV6 := Lib.hid (HV5.out.later hb6)
              clear hb6
              go_wp2_with fail
              go_at_call 22
              refine (H5.out _ (tabs_later HT.out HBW6.out)).mono ?_
              rintro e w7 ⟨rfl, hb7⟩
              have HBW7 := Lib.hid (HBW6.out.trans (hb7.mono HBW6.out.size))
              have HV7 := Lib.hid (HV6.out.later hb7)
              clear hb7
              go_wp2_with fail
              go_at_call 20
              refine (H6.out _).mono ?_
              rintro e w8 ⟨v8, rfl, hx8, hb8⟩
              have HX8 := Lib.hid hx8.at
              have HBW8 := Lib.hid (HBW7.out.trans (hb8.mono HBW7.out.size))
              have HV8 := Lib.hid (HV7.out.later hb8)
              clear hx8 hb8
              go_wp2_with fail
              go_at_call 19
              refine (HS.out _ _ _ HX8.out HV8.out).mono ?_
              rintro e w9 ⟨rfl, hb9⟩
              have HBW9 := Lib.hid (HBW8.out.trans (hb9.mono HBW8.out.size))
              clear hb9
              go_wp2_with fail
              go_at_call 14
              refine (awake4_any _ (tabs_later HT.out HBW9.out)).mono ?_
              rintro e wa ⟨rfl, hba⟩
              go_wp2_with fail
              go_ret
              exact ⟨rfl, HBW9.out.trans (hba.mono HBW9.out.size)⟩
        · have h0' : 0 < S.size := by omega
          have hlt1 : n - 1 < S.size := by omega
          have hpos : S.size - 1 = n - 1 := by omega
          by_cases hl : byteAt S (S.size - 1) = 10
          · obtain rfl : a = S := HA1 h0' hl
            have hq : (a.toList == a.toList) = true := same_text a
            have q1 : (((a[n - 1]'hlt1).toNat : Int) == 10) = true := beq_iff_eq.2 (by rw [← byteAt_get a _ hlt1, ← hpos, hl]; rfl)
            have q2 : (((a[n - 1]'hlt1).toNat : Int) != 10) = false := by rw [bne, q1]; rfl
            clear HA1 HA2 HA0 hl hpos
            go_wp2_with fail
            go_at_call 20
            refine (H1.out _).mono ?_
            rintro e w2 ⟨v2, rfl, hx1, hb2⟩
            have HV := Lib.hid hx1.at
            obtain ⟨ao2, cap2, rfl, hc2⟩ := hx1.at
            have HC2 := Lib.hid hc2
            have HBW2 := Lib.hid (HBW.out.trans (hb2.mono HBW.out.size))
            clear hx1 hc2 hb2
            go_wp2_with fail
            go_loopw [12, 57] (fun v p wr => ∃ (j : ByteArray) (i : Nat), v = .string j ∧ p = .int .i64 i ∧ Hid (Below w2.heap.size w2 wr) ∧ i ≤ l.length ∧ Hid (wordsOf j = l.take i) ∧ Hid (j.size + tot (l.drop i) ≤ s.size + i) ∧ Hid (i = 0 → j.size = 0)) (fun _ p _ => l.length - (match p with | .int _ a => a.toNat | _ => 0))
            case atStart => exact ⟨⟨#[]⟩, 0, rfl, rfl, Lib.hid (Below.refl _ _), Nat.zero_le _, Lib.hid rfl, Lib.hid (by have := HTOT.out; rw [List.drop_zero]; show 0 + _ ≤ _; omega), Lib.hid (fun _ => rfl)⟩
            case round =>
              obtain ⟨j, i, rfl, rfl, HB, hil, HJW, HJS, HJ0⟩ := hrel
              have hi63 : i < 4294967297 := by omega
              by_cases hlt : i < l.length
              · obtain ⟨g1, rfl, e1⟩ := HC2.out i hlt
                have HM := Lib.hid (List.getElem_mem hlt)
                have k1 : wr.cell? ⟨g1, i, none⟩ = some (.string l[i]) := (HB.out.cell (World.block_lt_of_cell? w2 _ e1)).trans e1
                have hxq : (l[i].toList == l[i].toList) = true := same_text _
                have hx0 : (((l[i].size : Nat) : Int) == 0) = false := beq_eq_false_iff_ne.2 (by have := HN.out _ HM.out; omega)
                have HD := Lib.hid (tot_drop hlt)
                have hjz : j.size ≤ 4294967296 := by have := HJS.out; have := HWS.out; omega
                have hlz := HLZ.out l[i] HM.out
                have hz1 := app_size j ⟨#[32]⟩
                have hz2 := app_size (j ++ ⟨#[32]⟩) l[i]
                have e32 : (⟨#[32]⟩ : ByteArray).size = 1 := rfl
                rw [e32] at hz1
                have HAP := Lib.hid (fun c : ByteArray => app_size c l[i])
                clear e1
                by_cases h00 : 0 < i
                · have h00' : (0 : Int) < i := by omega
                  have HJ2 : Hid (wordsOf (j ++ ⟨#[32]⟩ ++ l[i]) = l.take (i + 1)) := Lib.hid (join_one hlt HLL.out HJW.out h00)
                  have HJ3 : Hid ((j ++ ⟨#[32]⟩ ++ l[i]).size + tot (l.drop (i + 1)) ≤ s.size + (i + 1)) := Lib.hid (by
                    have e1 := app_size (j ++ ⟨#[32]⟩) l[i]
                    have e2 := app_size j ⟨#[32]⟩
                    have e3 : (⟨#[32]⟩ : ByteArray).size = 1 := rfl
                    have e4 := HD.out
                    have e5 := HJS.out
                    omega)
                  go_wp2_with fail
                  go_at_call 22
                  refine (HO.out _ HM.out _ (tabs_later HT.out (HBW2.out.trans (HB.out.mono HBW2.out.size)))).mono ?_
                  rintro e w3 ⟨rfl, hb3⟩
                  have HB3 := Lib.hid (HB.out.trans (hb3.mono HB.out.size))
                  clear hb3
                  go_wp2_with fail
                  refine ⟨⟨_, i + 1, rfl, by go_num, HB3, by omega, HJ2, HJ3, Lib.hid (fun h => absurd h (by omega))⟩, ?_⟩
                  show l.length - ((i : Int) + 1).toNat < l.length - (i : Int).toNat
                  omega
                · have h00' : ¬ (0 : Int) < i := by omega
                  have HJ2 : Hid (wordsOf (j ++ l[i]) = l.take (i + 1)) := Lib.hid (join_first hlt HLL.out (HJ0.out (by omega)) (by omega))
                  have HJ3 : Hid ((j ++ l[i]).size + tot (l.drop (i + 1)) ≤ s.size + (i + 1)) := Lib.hid (by
                    have e1 := app_size j l[i]
                    have e4 := HD.out
                    have e5 := HJS.out
                    omega)
                  go_wp2_with fail
                  go_at_call 22
                  refine (HO.out _ HM.out _ (tabs_later HT.out (HBW2.out.trans (HB.out.mono HBW2.out.size)))).mono ?_
                  rintro e w3 ⟨rfl, hb3⟩
                  have HB3 := Lib.hid (HB.out.trans (hb3.mono HB.out.size))
                  clear hb3
                  go_wp2_with fail
                  refine ⟨⟨_, i + 1, rfl, by go_num, HB3, by omega, HJ2, HJ3, Lib.hid (fun h => absurd h (by omega))⟩, ?_⟩
                  show l.length - ((i : Int) + 1).toNat < l.length - (i : Int).toNat
                  omega
              · have HJJ := Lib.hid (HJ.out j (by have := HJS.out; have := HWS.out; omega) (by rw [HJW.out, List.take_of_length_le (by omega)]))
                have HBW3 := Lib.hid (HBW2.out.trans (HB.out.mono HBW2.out.size))
                have HV3 := Lib.hid (HV.out.later HB.out)
                clear HJW HJS HJ0
                go_wp2_with fail
                go_at_call 22
                refine (H4.out _ (tabs_later HT.out HBW3.out)).mono ?_
                rintro e w4 ⟨rfl, hb4⟩
                have HBW4 := Lib.hid (HBW3.out.trans (hb4.mono HBW3.out.size))
                have HV4 := Lib.hid (HV3.out.later hb4)
                clear hb4
                go_wp2_with fail
                go_at_call 20
                refine (HJJ.out _).mono ?_
                rintro e w5 ⟨v5, rfl, hx5, hb5⟩
                have HX5 := Lib.hid hx5.at
                have HBW5 := Lib.hid (HBW4.out.trans (hb5.mono HBW4.out.size))
                have HV5 := Lib.hid (HV4.out.later hb5)
                clear hx5 hb5
                go_wp2_with fail
                go_at_call 19
                refine (HS.out _ _ _ HX5.out HV5.out).mono ?_
                rintro e w6 ⟨rfl, hb6⟩
                have HBW6 := Lib.hid (HBW5.out.trans (hb6.mono HBW5.out.size))
                have HV6 := Lib.hid (HV5.out.later hb6)
                clear hb6
                go_wp2_with fail
                go_at_call 22
                refine (H5.out _ (tabs_later HT.out HBW6.out)).mono ?_
                rintro e w7 ⟨rfl, hb7⟩
                have HBW7 := Lib.hid (HBW6.out.trans (hb7.mono HBW6.out.size))
                have HV7 := Lib.hid (HV6.out.later hb7)
                clear hb7
                go_wp2_with fail
                go_at_call 20
                refine (H6.out _).mono ?_
                rintro e w8 ⟨v8, rfl, hx8, hb8⟩
                have HX8 := Lib.hid hx8.at
                have HBW8 := Lib.hid (HBW7.out.trans (hb8.mono HBW7.out.size))
                have HV8 := Lib.hid (HV7.out.later hb8)
                clear hx8 hb8
                go_wp2_with fail
                go_at_call 19
                refine (HS.out _ _ _ HX8.out HV8.out).mono ?_
                rintro e w9 ⟨rfl, hb9⟩
                have HBW9 := Lib.hid (HBW8.out.trans (hb9.mono HBW8.out.size))
                clear hb9
                go_wp2_with fail
                go_at_call 14
                refine (awake4_any _ (tabs_later HT.out HBW9.out)).mono ?_
                rintro e wa ⟨rfl, hba⟩
                go_wp2_with fail
                go_ret
                exact ⟨rfl, HBW9.out.trans (hba.mono HBW9.out.size)⟩
          · obtain rfl : a = S ++ ⟨#[10]⟩ := HA2 h0' hl
            have hq := same_text (S ++ ⟨#[10]⟩)
            have q1 : (((S[n - 1]'hlt1).toNat : Int) == 10) = false := beq_eq_false_iff_ne.2 (by rw [← byteAt_get S _ hlt1, ← hpos]; omega)
            have q2 : (((S[n - 1]'hlt1).toNat : Int) != 10) = true := by rw [bne, q1]; rfl
            clear HA1 HA2 HA0 hl hpos
            go_wp2_with fail
            go_at_call 20
            refine (H1.out _).mono ?_
            rintro e w2 ⟨v2, rfl, hx1, hb2⟩
            have HV := Lib.hid hx1.at
            obtain ⟨ao2, cap2, rfl, hc2⟩ := hx1.at
            have HC2 := Lib.hid hc2
            have HBW2 := Lib.hid (HBW.out.trans (hb2.mono HBW.out.size))
            clear hx1 hc2 hb2
            go_wp2_with fail
            go_loopw [12, 57] (fun v p wr => ∃ (j : ByteArray) (i : Nat), v = .string j ∧ p = .int .i64 i ∧ Hid (Below w2.heap.size w2 wr) ∧ i ≤ l.length ∧ Hid (wordsOf j = l.take i) ∧ Hid (j.size + tot (l.drop i) ≤ s.size + i) ∧ Hid (i = 0 → j.size = 0)) (fun _ p _ => l.length - (match p with | .int _ a => a.toNat | _ => 0))
            case atStart => exact ⟨⟨#[]⟩, 0, rfl, rfl, Lib.hid (Below.refl _ _), Nat.zero_le _, Lib.hid rfl, Lib.hid (by have := HTOT.out; rw [List.drop_zero]; show 0 + _ ≤ _; omega), Lib.hid (fun _ => rfl)⟩
            case round =>
              obtain ⟨j, i, rfl, rfl, HB, hil, HJW, HJS, HJ0⟩ := hrel
              have hi63 : i < 4294967297 := by omega
              by_cases hlt : i < l.length
              · obtain ⟨g1, rfl, e1⟩ := HC2.out i hlt
                have HM := Lib.hid (List.getElem_mem hlt)
                have k1 : wr.cell? ⟨g1, i, none⟩ = some (.string l[i]) := (HB.out.cell (World.block_lt_of_cell? w2 _ e1)).trans e1
                have hxq : (l[i].toList == l[i].toList) = true := same_text _
                have hx0 : (((l[i].size : Nat) : Int) == 0) = false := beq_eq_false_iff_ne.2 (by have := HN.out _ HM.out; omega)
                have HD := Lib.hid (tot_drop hlt)
                have hjz : j.size ≤ 4294967296 := by have := HJS.out; have := HWS.out; omega
                have hlz := HLZ.out l[i] HM.out
                have hz1 := app_size j ⟨#[32]⟩
                have hz2 := app_size (j ++ ⟨#[32]⟩) l[i]
                have e32 : (⟨#[32]⟩ : ByteArray).size = 1 := rfl
                rw [e32] at hz1
                have HAP := Lib.hid (fun c : ByteArray => app_size c l[i])
                clear e1
                by_cases h00 : 0 < i
                · have h00' : (0 : Int) < i := by omega
                  have HJ2 : Hid (wordsOf (j ++ ⟨#[32]⟩ ++ l[i]) = l.take (i + 1)) := Lib.hid (join_one hlt HLL.out HJW.out h00)
                  have HJ3 : Hid ((j ++ ⟨#[32]⟩ ++ l[i]).size + tot (l.drop (i + 1)) ≤ s.size + (i + 1)) := Lib.hid (by
                    have e1 := app_size (j ++ ⟨#[32]⟩) l[i]
                    have e2 := app_size j ⟨#[32]⟩
                    have e3 : (⟨#[32]⟩ : ByteArray).size = 1 := rfl
                    have e4 := HD.out
                    have e5 := HJS.out
                    omega)
                  go_wp2_with fail
                  go_at_call 22
                  refine (HO.out _ HM.out _ (tabs_later HT.out (HBW2.out.trans (HB.out.mono HBW2.out.size)))).mono ?_
                  rintro e w3 ⟨rfl, hb3⟩
                  have HB3 := Lib.hid (HB.out.trans (hb3.mono HB.out.size))
                  clear hb3
                  go_wp2_with fail
                  refine ⟨⟨_, i + 1, rfl, by go_num, HB3, by omega, HJ2, HJ3, Lib.hid (fun h => absurd h (by omega))⟩, ?_⟩
                  show l.length - ((i : Int) + 1).toNat < l.length - (i : Int).toNat
                  omega
                · have h00' : ¬ (0 : Int) < i := by omega
                  have HJ2 : Hid (wordsOf (j ++ l[i]) = l.take (i + 1)) := Lib.hid (join_first hlt HLL.out (HJ0.out (by omega)) (by omega))
                  have HJ3 : Hid ((j ++ l[i]).size + tot (l.drop (i + 1)) ≤ s.size + (i + 1)) := Lib.hid (by
                    have e1 := app_size j l[i]
                    have e4 := HD.out
                    have e5 := HJS.out
                    omega)
                  go_wp2_with fail
                  go_at_call 22
                  refine (HO.out _ HM.out _ (tabs_later HT.out (HBW2.out.trans (HB.out.mono HBW2.out.size)))).mono ?_
                  rintro e w3 ⟨rfl, hb3⟩
                  have HB3 := Lib.hid (HB.out.trans (hb3.mono HB.out.size))
                  clear hb3
                  go_wp2_with fail
                  refine ⟨⟨_, i + 1, rfl, by go_num, HB3, by omega, HJ2, HJ3, Lib.hid (fun h => absurd h (by omega))⟩, ?_⟩
                  show l.length - ((i : Int) + 1).toNat < l.length - (i : Int).toNat
                  omega
              · have HJJ := Lib.hid (HJ.out j (by have := HJS.out; have := HWS.out; omega) (by rw [HJW.out, List.take_of_length_le (by omega)]))
                have HBW3 := Lib.hid (HBW2.out.trans (HB.out.mono HBW2.out.size))
                have HV3 := Lib.hid (HV.out.later HB.out)
                clear HJW HJS HJ0
                go_wp2_with fail
                go_at_call 22
                refine (H4.out _ (tabs_later HT.out HBW3.out)).mono ?_
                rintro e w4 ⟨rfl, hb4⟩
                have HBW4 := Lib.hid (HBW3.out.trans (hb4.mono HBW3.out.size))
                have HV4 := Lib.hid (HV3.out.later hb4)
                clear hb4
                go_wp2_with fail
                go_at_call 20
                refine (HJJ.out _).mono ?_
                rintro e w5 ⟨v5, rfl, hx5, hb5⟩
                have HX5 := Lib.hid hx5.at
                have HBW5 := Lib.hid (HBW4.out.trans (hb5.mono HBW4.out.size))
                have HV5 := Lib.hid (HV4.out.later hb5)
                clear hx5 hb5
                go_wp2_with fail
                go_at_call 19
                refine (HS.out _ _ _ HX5.out HV5.out).mono ?_
                rintro e w6 ⟨rfl, hb6⟩
                have HBW6 := Lib.hid (HBW5.out.trans (hb6.mono HBW5.out.size))
                have HV6 := Lib.hid (HV5.out.later hb6)
                clear hb6
                go_wp2_with fail
                go_at_call 22
                refine (H5.out _ (tabs_later HT.out HBW6.out)).mono ?_
                rintro e w7 ⟨rfl, hb7⟩
                have HBW7 := Lib.hid (HBW6.out.trans (hb7.mono HBW6.out.size))
                have HV7 := Lib.hid (HV6.out.later hb7)
                clear hb7
                go_wp2_with fail
                go_at_call 20
                refine (H6.out _).mono ?_
                rintro e w8 ⟨v8, rfl, hx8, hb8⟩
                have HX8 := Lib.hid hx8.at
                have HBW8 := Lib.hid (HBW7.out.trans (hb8.mono HBW7.out.size))
                have HV8 := Lib.hid (HV7.out.later hb8)
                clear hx8 hb8
                go_wp2_with fail
                go_at_call 19
                refine (HS.out _ _ _ HX8.out HV8.out).mono ?_
                rintro e w9 ⟨rfl, hb9⟩
                have HBW9 := Lib.hid (HBW8.out.trans (hb9.mono HBW8.out.size))
                clear hb9
                go_wp2_with fail
                go_at_call 14
                refine (awake4_any _ (tabs_later HT.out HBW9.out)).mono ?_
                rintro e wa ⟨rfl, hba⟩
                go_wp2_with fail
                go_ret
                exact ⟨rfl, HBW9.out.trans (hba.mono HBW9.out.size)⟩
  · have hq : ((x : Int) == 0) = false := beq_eq_false_iff_ne.2 (by omega)
    clear hx HT1
    go_wp2_with fail
    rw [← hW1]
    clear hW1 c1
    go_at_call 20
    refine (H1.out _).mono ?_
    rintro e w2 ⟨v2, rfl, hx1, hb2⟩
    have HV := Lib.hid hx1.at
    obtain ⟨ao2, cap2, rfl, hc2⟩ := hx1.at
    have HC2 := Lib.hid hc2
    have HBW2 := Lib.hid (HBW.out.trans (hb2.mono HBW.out.size))
    clear hx1 hc2 hb2
    go_wp2_with fail
    go_loopw [12, 57] (fun v p wr => ∃ (j : ByteArray) (i : Nat), v = .string j ∧ p = .int .i64 i ∧ Hid (Below w2.heap.size w2 wr) ∧ i ≤ l.length ∧ Hid (wordsOf j = l.take i) ∧ Hid (j.size + tot (l.drop i) ≤ s.size + i) ∧ Hid (i = 0 → j.size = 0)) (fun _ p _ => l.length - (match p with | .int _ a => a.toNat | _ => 0))
    case atStart => exact ⟨⟨#[]⟩, 0, rfl, rfl, Lib.hid (Below.refl _ _), Nat.zero_le _, Lib.hid rfl, Lib.hid (by have := HTOT.out; rw [List.drop_zero]; show 0 + _ ≤ _; omega), Lib.hid (fun _ => rfl)⟩
    case round =>
      obtain ⟨j, i, rfl, rfl, HB, hil, HJW, HJS, HJ0⟩ := hrel
      have hi63 : i < 4294967297 := by omega
      by_cases hlt : i < l.length
      · obtain ⟨g1, rfl, e1⟩ := HC2.out i hlt
        have HM := Lib.hid (List.getElem_mem hlt)
        have k1 : wr.cell? ⟨g1, i, none⟩ = some (.string l[i]) := (HB.out.cell (World.block_lt_of_cell? w2 _ e1)).trans e1
        have hxq : (l[i].toList == l[i].toList) = true := same_text _
        have hx0 : (((l[i].size : Nat) : Int) == 0) = false := beq_eq_false_iff_ne.2 (by have := HN.out _ HM.out; omega)
        have HD := Lib.hid (tot_drop hlt)
        have hjz : j.size ≤ 4294967296 := by have := HJS.out; have := HWS.out; omega
        have hlz := HLZ.out l[i] HM.out
        have hz1 := app_size j ⟨#[32]⟩
        have hz2 := app_size (j ++ ⟨#[32]⟩) l[i]
        have e32 : (⟨#[32]⟩ : ByteArray).size = 1 := rfl
        rw [e32] at hz1
        have HAP := Lib.hid (fun c : ByteArray => app_size c l[i])
        clear e1
        by_cases h00 : 0 < i
        · have h00' : (0 : Int) < i := by omega
          have HJ2 : Hid (wordsOf (j ++ ⟨#[32]⟩ ++ l[i]) = l.take (i + 1)) := Lib.hid (join_one hlt HLL.out HJW.out h00)
          have HJ3 : Hid ((j ++ ⟨#[32]⟩ ++ l[i]).size + tot (l.drop (i + 1)) ≤ s.size + (i + 1)) := Lib.hid (by
            have e1 := app_size (j ++ ⟨#[32]⟩) l[i]
            have e2 := app_size j ⟨#[32]⟩
            have e3 : (⟨#[32]⟩ : ByteArray).size = 1 := rfl
            have e4 := HD.out
            have e5 := HJS.out
            omega)
          go_wp2_with fail
          go_at_call 22
          refine (HO.out _ HM.out _ (tabs_later HT.out (HBW2.out.trans (HB.out.mono HBW2.out.size)))).mono ?_
          rintro e w3 ⟨rfl, hb3⟩
          have HB3 := Lib.hid (HB.out.trans (hb3.mono HB.out.size))
          clear hb3
          go_wp2_with fail
          refine ⟨⟨_, i + 1, rfl, by go_num, HB3, by omega, HJ2, HJ3, Lib.hid (fun h => absurd h (by omega))⟩, ?_⟩
          show l.length - ((i : Int) + 1).toNat < l.length - (i : Int).toNat
          omega
        · have h00' : ¬ (0 : Int) < i := by omega
          have HJ2 : Hid (wordsOf (j ++ l[i]) = l.take (i + 1)) := Lib.hid (join_first hlt HLL.out (HJ0.out (by omega)) (by omega))
          have HJ3 : Hid ((j ++ l[i]).size + tot (l.drop (i + 1)) ≤ s.size + (i + 1)) := Lib.hid (by
            have e1 := app_size j l[i]
            have e4 := HD.out
            have e5 := HJS.out
            omega)
          go_wp2_with fail
          go_at_call 22
          refine (HO.out _ HM.out _ (tabs_later HT.out (HBW2.out.trans (HB.out.mono HBW2.out.size)))).mono ?_
          rintro e w3 ⟨rfl, hb3⟩
          have HB3 := Lib.hid (HB.out.trans (hb3.mono HB.out.size))
          clear hb3
          go_wp2_with fail
          refine ⟨⟨_, i + 1, rfl, by go_num, HB3, by omega, HJ2, HJ3, Lib.hid (fun h => absurd h (by omega))⟩, ?_⟩
          show l.length - ((i : Int) + 1).toNat < l.length - (i : Int).toNat
          omega
      · have HJJ := Lib.hid (HJ.out j (by have := HJS.out; have := HWS.out; omega) (by rw [HJW.out, List.take_of_length_le (by omega)]))
        have HBW3 := Lib.hid (HBW2.out.trans (HB.out.mono HBW2.out.size))
        have HV3 := Lib.hid (HV.out.later HB.out)
        clear HJW HJS HJ0
        go_wp2_with fail
        go_at_call 22
        refine (H4.out _ (tabs_later HT.out HBW3.out)).mono ?_
        rintro e w4 ⟨rfl, hb4⟩
        have HBW4 := Lib.hid (HBW3.out.trans (hb4.mono HBW3.out.size))
        have HV4 := Lib.hid (HV3.out.later hb4)
        clear hb4
        go_wp2_with fail
        go_at_call 20
        refine (HJJ.out _).mono ?_
        rintro e w5 ⟨v5, rfl, hx5, hb5⟩
        have HX5 := Lib.hid hx5.at
        have HBW5 := Lib.hid (HBW4.out.trans (hb5.mono HBW4.out.size))
        have HV5 := Lib.hid (HV4.out.later hb5)
        clear hx5 hb5
        go_wp2_with fail
        go_at_call 19
        refine (HS.out _ _ _ HX5.out HV5.out).mono ?_
        rintro e w6 ⟨rfl, hb6⟩
        have HBW6 := Lib.hid (HBW5.out.trans (hb6.mono HBW5.out.size))
        have HV6 := Lib.hid (HV5.out.later hb6)
        clear hb6
        go_wp2_with fail
        go_at_call 22
        refine (H5.out _ (tabs_later HT.out HBW6.out)).mono ?_
        rintro e w7 ⟨rfl, hb7⟩
        have HBW7 := Lib.hid (HBW6.out.trans (hb7.mono HBW6.out.size))
        have HV7 := Lib.hid (HV6.out.later hb7)
        clear hb7
        go_wp2_with fail
        go_at_call 20
        refine (H6.out _).mono ?_
        rintro e w8 ⟨v8, rfl, hx8, hb8⟩
        have HX8 := Lib.hid hx8.at
        have HBW8 := Lib.hid (HBW7.out.trans (hb8.mono HBW7.out.size))
        have HV8 := Lib.hid (HV7.out.later hb8)
        clear hx8 hb8
        go_wp2_with fail
        go_at_call 19
        refine (HS.out _ _ _ HX8.out HV8.out).mono ?_
        rintro e w9 ⟨rfl, hb9⟩
        have HBW9 := Lib.hid (HBW8.out.trans (hb9.mono HBW8.out.size))
        clear hb9
        go_wp2_with fail
        go_at_call 14
        refine (awake4_any _ (tabs_later HT.out HBW9.out)).mono ?_
        rintro e wa ⟨rfl, hba⟩
        go_wp2_with fail
        go_ret
        exact ⟨rfl, HBW9.out.trans (hba.mono HBW9.out.size)⟩
section
open Go.ChangeShapes Go.WideShapes Go.ChangeAt Go.ChangeMaps
theorem textBack_walk {H : Type} {enc : TypeId × Value → H} (W : World) {base : Nat} (v0 v1 : Value) {d0 d1 : DataW H} {p0 p1 : List MemPlace} (h0 : DataW.Trod enc Tryd.prog W 0 (fun _ => true) true 29 v0 d0 p0) (o0 : Value.okWide Tryd.prog W .any base 29 v0)
    (h1 : DataW.Trod enc Tryd.prog W 0 (fun _ => true) true 9 v1 d1 p1) (o1 : Value.okWide Tryd.prog W .any base 9 v1)
    (hT : Lib.Utf8Tabs 0 1 W) (hS : W.ShapedOpen Tryd.prog) (hk : Rows.uptoBulkAll [d0, d1] ≤ 1048576) :
    Calls Tryd.prog 11 #[v0, v1] W fun e w' => e = .returned (.bool true) ∧ Below W.heap.size W w' := by
  obtain ⟨A, n, cp, bs, rfl, hb, hcp, _, hd, _⟩ := open_bytes h0 o0
  obtain ⟨s, rfl, rfl, rfl, ws⟩ := open_string Tryd.underlying9 o1 h1
  have e1 : s.size = s.data.toList.length := rfl
  simp only [Rows.uptoBulkAll, Rows.uptoBulk] at hk
  exact textBack_any A n cp bs s W hb hcp (by omega) (by omega) hT (MaxLenAt.of hS)
end
end Go.Proofs.YtdchnllflodmkaaDoor
