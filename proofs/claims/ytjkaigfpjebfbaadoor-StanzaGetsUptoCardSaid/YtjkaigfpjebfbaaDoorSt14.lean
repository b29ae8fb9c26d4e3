/- stanza.Fold, chandlerref4.Fold. -/
import Derived.Test.YtjkaigfpjebfbaaDoorSt13
import Derived.Test.YtjkaigfpjebfbaaDoorSt12
import Derived.Test.YtjkaigfpjebfbaaDoorSt8
import Derived.Test.YtjkaigfpjebfbaaDoorTail2
namespace Go.Proofs.YtjkaigfpjebfbaaDoor
open Go.RowKit
set_option linter.unusedVariables false

theorem take_one9 {α : Type} (l : List α) (i : Nat) (h : i < l.length) : l.take (i + 1) = l.take i ++ [l[i]] := by
  rw [List.take_add_one, List.getElem?_eq_getElem h]
  rfl
theorem lsum_mem {ls : List ByteArray} {s : ByteArray} (h : s ∈ ls) : s.size + 1 ≤ lsum ls := by
  induction ls with
  | nil => cases h
  | cons x r ih =>
    unfold lsum at ih ⊢
    rw [List.map_cons, List.sum_cons]
    rcases List.mem_cons.1 h with rfl | h
    · omega
    · have := ih h; omega
theorem lsum_len (ls : List ByteArray) : ls.length ≤ lsum ls := by
  induction ls with
  | nil => exact Nat.zero_le _
  | cons x r ih =>
    unfold lsum at ih ⊢
    rw [List.map_cons, List.sum_cons, List.length_cons]
    omega
theorem lsum_take (ls : List ByteArray) (i : Nat) : lsum (ls.take i) ≤ lsum ls := by
  have h := List.take_append_drop i ls
  have h2 : lsum ls = lsum (ls.take i) + lsum (ls.drop i) := by
    have : lsum (ls.take i ++ ls.drop i) = lsum (ls.take i) + lsum (ls.drop i) := by unfold lsum; rw [List.map_append, List.sum_append]
    rw [h] at this
    exact this
  omega
theorem foldW_len (ls : List ByteArray) : (foldW ls).length ≤ ls.length := by
  unfold foldW
  refine Nat.le_trans (List.length_filter_le _ _) ?_
  rw [List.length_map]
  exact Nat.le_refl _
set_option maxRecDepth 100000 in
set_option maxHeartbeats 4000000 in
theorem Fold_any (G : Nat → Prop) (v : Value) (ls : List ByteArray) (w : World) (hv : LV w G v ls) (hs : lsum ls ≤ 1073741824) (hT : Lib.Utf8Tabs 0 1 w) :
    Calls Tryd.prog 19 #[v] w fun e w' => e = .returned (.string (foldB ls)) ∧ Below w.heap.size w w' := by
  obtain ⟨i0, hi0, hz0, hz1, hz2⟩ := info_parts str_row
  obtain ⟨A, c, rfl, _, hr⟩ := hv
  obtain ⟨n, hn⟩ : ∃ n, n = ls.length := ⟨_, rfl⟩
  rw [← hn] at hr ⊢
  have hnl := lsum_len ls
  have HR := Lib.hid hr
  have HN := Lib.hid hn
  have HS := Lib.hid hs
  have HT := Lib.hid hT
  have hnb : n ≤ 1073741824 := by omega
  clear hr hn hs hT hnl
  go_enter Tryd.func19, Tryd.ntmps19
  go_wp2_with fail
  go_loopw [8, 3] (fun t u wr => ∃ i : Nat, t = .int .i64 (i : Int) ∧ i ≤ n ∧ Hid (wr.ownsRow w.heap.size 9 1 u (foldW (ls.take i)).length ((foldW (ls.take i)).map Value.string) ∧ Below w.heap.size w wr)) (fun t _ _ => n - (match t with | .int _ x => x.toNat | _ => 0))
  case atStart => exact ⟨0, rfl, Nat.zero_le _, Lib.hid ⟨World.ownsRow_nil _ _ _ _, Below.refl _ _⟩⟩
  case round =>
    obtain ⟨i, rfl, hi, HI⟩ := hrel
    obtain ⟨uA, uc, rfl⟩ := own_shape HI.out.1
    obtain ⟨acc, hacc⟩ : ∃ acc, acc = foldW (ls.take i) := ⟨_, rfl⟩
    rw [← hacc] at HI ⊢
    have hal : acc.length ≤ 1073741824 := by
      have := foldW_len (ls.take i)
      rw [← hacc, List.length_take] at this
      omega
    obtain ⟨m, hm⟩ : ∃ m, m = acc.length := ⟨_, rfl⟩
    have HM := Lib.hid hm
    have HACC := Lib.hid hacc
    rw [← hm] at hal HI ⊢
    clear hacc hm
    by_cases hlt : i < n
    case neg =>
      have hln : ¬ (i : Int) < (n : Int) := by omega
      have HJ : Hid (∀ W, wr = W → Calls Tryd.prog 32 #[.slice uA m uc, .string ⟨#[32]⟩] W fun e w' => e = .returned (.string (foldB ls)) ∧ Below W.heap.size W w') := Lib.hid (fun W hW => by
        subst hW
        have hown := HI.out.1
        rw [HM.out] at hown ⊢
        have hj := foldW_join (ls.take i)
        rw [← HACC.out, List.take_of_length_le (by have := HN.out; omega)] at hj
        have hlen := foldL_len ls
        have := Join_own hown (by rw [← HM.out]; omega) (by rw [hj]; have := HS.out; omega)
        rw [hj] at this
        exact this)
      go_wp2_with (go_at_call 32; refine (HJ.out _ rfl).mono ?_; rintro e w2 ⟨rfl, hb2⟩)
      go_ret
      exact ⟨rfl, HI.out.2.trans (hb2.mono HI.out.2.size)⟩
    have hln : (i : Int) < (n : Int) := by omega
    have hil : i < ls.length := by have := HN.out; omega
    obtain ⟨g, o, rfl, hcg⟩ := HR.out.cells (by omega)
    obtain ⟨s, hs⟩ : ∃ s, s = ls[i] := ⟨_, rfl⟩
    have hsx : (ls.map Value.string)[i]? = some (.string s) := by rw [List.getElem?_map, List.getElem?_eq_getElem hil, hs]; rfl
    have k1 : wr.cell? ⟨g, o + i, none⟩ = some (.string s) := hcg wr HI.out.2 _ _ hsx
    have htk := take_one9 ls i hil
    rw [← hs] at htk
    have hss : s.size ≤ 1073741824 := by have := lsum_mem (ls := ls) (s := s) (by rw [hs]; exact List.getElem_mem hil); have := HS.out; omega
    obtain ⟨x, hx⟩ : ∃ x, x = trimB s := ⟨_, rfl⟩
    have HTR : Hid (∀ W, wr = W → Calls Tryd.prog 31 #[.string s] W fun e w' => e = .returned (.string x) ∧ Below W.heap.size W w') := Lib.hid (fun W hW => by
      subst hW
      rw [hx]
      exact Trim_any s wr (by omega) (tabs_later HT.out HI.out.2))
    have hbe := blank_eq x
    by_cases hb : x.size = 0
    · have HE : Hid (foldW (ls.take (i + 1)) = acc) := Lib.hid (by rw [htk, foldW_no _ _ (by rw [← hx]; exact hb), HACC.out])
      rw [decide_eq_true hb] at hbe
      clear hcg hs hsx htk hx hb
      go_wp2_with (go_at_call 31; refine (HTR.out _ rfl).mono ?_; rintro e w2 ⟨rfl, hb2⟩; have HB2 := Lib.hid hb2; clear hb2)
      refine ⟨⟨i + 1, by go_num, by omega, Lib.hid ⟨?_, HI.out.2.trans (HB2.out.mono HI.out.2.size)⟩⟩, ?_⟩
      · rw [HE.out, ← HM.out]
        exact own_upd HI.out.1 (Upd.of_below HB2.out (T := fun _ => False) (fun k h1 h2 => by omega)) (fun _ _ h => h)
      · show n - ((i : Int) + 1).toNat < n - (i : Int).toNat
        omega
    · have HE : Hid (foldW (ls.take (i + 1)) = acc ++ [x]) := Lib.hid (by rw [htk, foldW_yes _ _ (by rw [← hx]; exact hb), HACC.out, hx])
      rw [decide_eq_false hb] at hbe
      clear hcg hs hsx htk hx hb
      go_upto_region 7 with (go_at_call 31; refine (HTR.out _ rfl).mono ?_; rintro e w2 ⟨rfl, hb2⟩; have HB2 := Lib.hid hb2; clear hb2)
      have HOW : Hid (w2.ownsRow w.heap.size 9 1 (.slice uA m uc) m (acc.map Value.string)) := Lib.hid (own_upd HI.out.1 (Upd.of_below HB2.out (T := fun _ => False) (fun k h1 h2 => by omega)) (fun _ _ h => h))
      have HBW := Lib.hid (HI.out.2.trans (HB2.out.mono HI.out.2.size))
      go_wp2_with (at_builtin; refine wpList_append_any _ rfl (.tmp 16) (.tmp 18) 38 rfl w.heap.size 9 i0 _ 1 16 Tryd.underlying38 hi0 hz0 hz1 hz2 rfl (by decide) (.slice uA m uc) m (acc.map Value.string) rfl (HOW.out.alloc _) (w2.heap.size + 1) (some ⟨w2.heap.size, 0, none⟩) 1 1 [.string x] rfl (reads_one (Blk.new w2 _ _) (by simp)) (fun u hu => by simp at hu; subst hu; rfl) (by unfold maxLen; omega) (by omega) (Nat.le_trans HBW.out.size (by simp)) ?_; intro v5 w5 hown5 hg5 hat5; have HG5 := Lib.hid ((HBW.out.alloc HBW.out.size _).grown hg5 (Nat.le_trans HBW.out.size (by simp)) (fun k hk => (own_is HOW.out hk).1)); have HW5 := Lib.hid hown5; clear hown5 hg5 hat5)
      refine ⟨⟨i + 1, by go_num, by omega, Lib.hid ⟨?_, HG5.out⟩⟩, ?_⟩
      · have h5 := HW5.out
        rw [HE.out, List.length_append, List.map_append, ← HM.out]
        exact h5
      · show n - ((i : Int) + 1).toNat < n - (i : Int).toNat
        omega
theorem fold_add (acc t : ByteArray) (h : bl t ≠ []) : ofL (fstep (bl acc) (bl t)) = if acc.size = 0 then t else acc ++ ⟨#[32]⟩ ++ t := by
  unfold fstep
  rw [if_neg h]
  by_cases h0 : acc.size = 0
  · rw [if_pos (List.eq_nil_of_length_eq_zero (by rw [bl_len]; exact h0)), if_pos h0]
    exact ofL_bl t
  · rw [if_neg (fun e => h0 (by have := congrArg List.length e; rw [bl_len] at this; exact this)), if_neg h0]
    apply bl_inj
    rw [bl_ofL, bl_app, bl_app]
    show _ = bl acc ++ [32] ++ bl t
    simp
set_option maxRecDepth 100000 in
set_option maxHeartbeats 4000000 in
theorem RFold_any (G : Nat → Prop) (v : Value) (ls : List ByteArray) (w : World) (hv : LV w G v ls) (hs : lsum ls ≤ 1073741824) :
    Calls Tryd.prog 18 #[v] w fun e w' => e = .returned (.string (foldB ls)) ∧ Below w.heap.size w w' := by
  obtain ⟨A, c, rfl, _, hr⟩ := hv
  obtain ⟨n, hn⟩ : ∃ n, n = ls.length := ⟨_, rfl⟩
  rw [← hn] at hr ⊢
  have hnl := lsum_len ls
  have HR := Lib.hid hr
  have HN := Lib.hid hn
  have HS := Lib.hid hs
  have hnb : n ≤ 1073741824 := by omega
  clear hr hn hs hnl
  go_enter Tryd.func18, Tryd.ntmps18
  go_wp2_with fail
  go_loopw [9, 3] (fun t u wr => ∃ i : Nat, t = .int .i64 (i : Int) ∧ i ≤ n ∧ u = .string (foldB (ls.take i)) ∧ Hid (Below w.heap.size w wr)) (fun t _ _ => n - (match t with | .int _ x => x.toNat | _ => 0))
  case atStart => exact ⟨0, rfl, Nat.zero_le _, rfl, Lib.hid (Below.refl _ _)⟩
  case round =>
    obtain ⟨i, rfl, hi, rfl, HI⟩ := hrel
    obtain ⟨acc, hacc⟩ : ∃ acc, acc = foldB (ls.take i) := ⟨_, rfl⟩
    rw [← hacc]
    have hal : acc.size ≤ 1073741824 := by
      have h1 := foldL_len (ls.take i)
      have h2 := lsum_take ls i
      have h3 := HS.out
      have h4 : acc.size = (foldL (ls.take i)).length := by rw [hacc]; rfl
      omega
    have HACC := Lib.hid hacc
    clear hacc
    by_cases hlt : i < n
    case neg =>
      have hln : ¬ (i : Int) < (n : Int) := by omega
      have HE : Hid (acc = foldB ls) := Lib.hid (by rw [HACC.out, List.take_of_length_le (by have := HN.out; omega)])
      go_wp2_with fail
      go_ret
      exact ⟨by rw [HE.out]; rfl, HI.out⟩
    have hln : (i : Int) < (n : Int) := by omega
    have hil : i < ls.length := by have := HN.out; omega
    obtain ⟨g, o, rfl, hcg⟩ := HR.out.cells (by omega)
    obtain ⟨s, hs⟩ : ∃ s, s = ls[i] := ⟨_, rfl⟩
    have hsx : (ls.map Value.string)[i]? = some (.string s) := by rw [List.getElem?_map, List.getElem?_eq_getElem hil, hs]; rfl
    have k1 : wr.cell? ⟨g, o + i, none⟩ = some (.string s) := hcg wr HI.out _ _ hsx
    have htk := take_one9 ls i hil
    rw [← hs] at htk
    have hss : s.size ≤ 1073741824 := by have := lsum_mem (ls := ls) (s := s) (by rw [hs]; exact List.getElem_mem hil); have := HS.out; omega
    obtain ⟨x, hx⟩ : ∃ x, x = trimB s := ⟨_, rfl⟩
    have hxs : x.size ≤ 1073741824 := by rw [hx]; exact Nat.le_trans (trimB_le s) hss
    have HTR : Hid (∀ W, Calls Tryd.prog 21 #[.string s] W fun e w' => e = .returned (.string x) ∧ W = w') := Lib.hid (fun W => by
      rw [hx]
      exact RefTrim_any s W (by omega))
    have hbe := blank_eq x
    have hae := blank_eq acc
    have hst : foldB (ls.take (i + 1)) = ofL (fstep (bl acc) (bl x)) := by
      rw [htk]
      unfold foldB
      rw [foldL_snoc, ← hx, HACC.out]
      rfl
    by_cases hb : x.size = 0
    · have hx0 : x = ⟨#[]⟩ := bl_inj (List.eq_nil_of_length_eq_zero hb)
      have HE : Hid (foldB (ls.take (i + 1)) = acc) := Lib.hid (by
        rw [hst]
        unfold fstep
        rw [if_pos (show bl x = [] from List.eq_nil_of_length_eq_zero hb)]
        exact ofL_bl acc)
      clear hcg hs hsx htk hx hst hae hbe hb
      subst hx0
      have hcat : acc ++ (⟨#[]⟩ : ByteArray) = acc := bl_inj (by rw [bl_app]; exact List.append_nil _)
      go_wp2_with (go_at_call 21; refine (HTR.out _).mono ?_; rintro e w2 ⟨rfl, rfl⟩)
      refine ⟨⟨i + 1, by go_num, by omega, by rw [HE.out], HI⟩, ?_⟩
      show n - ((i : Int) + 1).toNat < n - (i : Int).toNat
      omega
    · have hbx : bl x ≠ [] := fun e => hb (by have := congrArg List.length e; rw [bl_len] at this; exact this)
      rw [fold_add acc x hbx] at hst
      rw [decide_eq_false hb] at hbe
      by_cases ha : acc.size = 0
      · rw [if_pos ha] at hst
        rw [decide_eq_true ha] at hae
        have hx0 : acc = ⟨#[]⟩ := bl_inj (List.eq_nil_of_length_eq_zero ha)
        have HE := Lib.hid hst
        clear hcg hs hsx htk hx hst hb ha hbx
        subst hx0
        have hcat : (⟨#[]⟩ : ByteArray) ++ x = x := bl_inj (by rw [bl_app]; rfl)
        go_wp2_with (go_at_call 21; refine (HTR.out _).mono ?_; rintro e w2 ⟨rfl, rfl⟩)
        refine ⟨⟨i + 1, by go_num, by omega, by rw [HE.out], HI⟩, ?_⟩
        show n - ((i : Int) + 1).toNat < n - (i : Int).toNat
        omega
      · rw [if_neg ha] at hst
        rw [decide_eq_false ha] at hae
        have HE := Lib.hid hst
        clear hcg hs hsx htk hx hst hb ha hbx
        go_wp2_with (go_at_call 21; refine (HTR.out _).mono ?_; rintro e w2 ⟨rfl, rfl⟩)
        refine ⟨⟨i + 1, by go_num, by omega, by rw [HE.out], HI⟩, ?_⟩
        show n - ((i : Int) + 1).toNat < n - (i : Int).toNat
        omega
end Go.Proofs.YtjkaigfpjebfbaaDoor
