/- Put together: Fold: the plain law, and strings.Join over a row that is owned; stanza.Fold, chandlerref4.Fold; stanza.Get, stanza.Same over worlds; A stanza that every program must know: chandlerlaw5.awake; How much a text's stanzas are. -/
import Derived.Test.YtjkaigfpjebfbaaDoorB6
import Derived.Test.YtjkaigfpjebfbaaDoorSt12
import Derived.Test.YtjkaigfpjebfbaaDoorSt8
import Derived.Test.YtjkaigfpjebfbaaDoorB5
import Derived.Test.YtjkaigfpjebfbaaDoorSt9
import Derived.Lib.SmallJoins
/- Fold: the plain law, and strings.Join over a row that is owned. -/
namespace Go.Proofs.YtjkaigfpjebfbaaDoor
open Go.RowKit
set_option linter.unusedVariables false

def fstep (acc t : List UInt8) : List UInt8 := if t = [] then acc else if acc = [] then t else acc ++ 32 :: t
/-- Lines as one text. -/
def foldL (ls : List ByteArray) : List UInt8 := (ls.map fun s => bl (trimB s)).foldl fstep []
def foldB (ls : List ByteArray) : ByteArray := ofL (foldL ls)
/-- The lines that are more than white space, trimmed. -/
def foldW (ls : List ByteArray) : List ByteArray := (ls.map trimB).filter fun t => decide (t.size ≠ 0)
theorem fl_snoc (f : ByteArray → ByteArray) (ls : List ByteArray) (s : ByteArray) : ((ls ++ [s]).map fun s => bl (f s)).foldl fstep [] = fstep ((ls.map fun s => bl (f s)).foldl fstep []) (bl (f s)) := by
  rw [List.map_append, List.foldl_append]
  rfl
theorem foldL_snoc (ls : List ByteArray) (s : ByteArray) : foldL (ls ++ [s]) = fstep (foldL ls) (bl (trimB s)) := fl_snoc trimB ls s
theorem flt_yes (f : ByteArray → ByteArray) (ls : List ByteArray) (s : ByteArray) (h : (f s).size ≠ 0) : ((ls ++ [s]).map f).filter (fun t => decide (t.size ≠ 0)) = (ls.map f).filter (fun t => decide (t.size ≠ 0)) ++ [f s] := by
  rw [List.map_append, List.filter_append]
  congr 1
  show List.filter _ [f s] = _
  rw [List.filter_cons, if_pos (decide_eq_true h)]
  rfl
theorem flt_no (f : ByteArray → ByteArray) (ls : List ByteArray) (s : ByteArray) (h : (f s).size = 0) : ((ls ++ [s]).map f).filter (fun t => decide (t.size ≠ 0)) = (ls.map f).filter (fun t => decide (t.size ≠ 0)) := by
  rw [List.map_append, List.filter_append]
  show _ ++ List.filter _ [f s] = _
  rw [List.filter_cons, if_neg (by simp [h])]
  simp
theorem foldW_yes (ls : List ByteArray) (s : ByteArray) (h : (trimB s).size ≠ 0) : foldW (ls ++ [s]) = foldW ls ++ [trimB s] := flt_yes trimB ls s h
theorem foldW_no (ls : List ByteArray) (s : ByteArray) (h : (trimB s).size = 0) : foldW (ls ++ [s]) = foldW ls := flt_no trimB ls s h
theorem foldW_mem {ls : List ByteArray} {t : ByteArray} (h : t ∈ foldW ls) : bl t ≠ [] := by
  have := (List.mem_filter.1 h).2
  intro e
  have h2 : t.size ≠ 0 := by simpa using this
  exact h2 (by have := congrArg List.length e; rw [bl_len] at this; exact this)
theorem fold_tail : ∀ (l : List (List UInt8)) (acc : List UInt8), acc ≠ [] → (∀ t ∈ l, t ≠ []) → l.foldl fstep acc = acc ++ Lib.joinTail [32] l
  | [], acc, _, _ => by simp [Lib.joinTail]
  | t :: r, acc, h, hl => by
    have ht := hl t (List.mem_cons_self ..)
    show r.foldl fstep (fstep acc t) = _
    have e : fstep acc t = acc ++ 32 :: t := by unfold fstep; rw [if_neg ht, if_neg h]
    rw [e, fold_tail r _ (by simp) (fun u hu => hl u (List.mem_cons_of_mem _ hu))]
    simp [Lib.joinTail]
theorem fold_join : ∀ (l : List (List UInt8)), (∀ t ∈ l, t ≠ []) → l.foldl fstep [] = Lib.join l [32]
  | [], _ => rfl
  | t :: r, hl => by
    have ht := hl t (List.mem_cons_self ..)
    show r.foldl fstep (fstep [] t) = _
    have e : fstep [] t = t := by unfold fstep; rw [if_neg ht, if_pos rfl]
    rw [e, fold_tail r t ht (fun u hu => hl u (List.mem_cons_of_mem _ hu)), Lib.join_cons]
theorem fold_filter (f : ByteArray → ByteArray) : ∀ (l : List ByteArray) (acc : List UInt8), (l.map fun s => bl (f s)).foldl fstep acc = (((l.map f).filter (fun t => decide (t.size ≠ 0))).map bl).foldl fstep acc
  | [], acc => rfl
  | s :: r, acc => by
    rw [List.map_cons, List.map_cons, List.filter_cons]
    show (r.map fun s => bl (f s)).foldl fstep (fstep acc (bl (f s))) = _
    by_cases h : (f s).size = 0
    · have hb : bl (f s) = [] := List.eq_nil_of_length_eq_zero (by rw [bl_len]; exact h)
      have e : fstep acc (bl (f s)) = acc := by unfold fstep; rw [if_pos hb]
      rw [e, if_neg (by simp [h])]
      exact fold_filter f r acc
    · rw [if_pos (by simp [h])]
      exact fold_filter f r _
theorem foldW_join (ls : List ByteArray) : Lib.join ((foldW ls).map bl) [32] = foldL ls := by
  unfold foldL
  rw [fold_filter trimB, fold_join _ (fun t ht => by obtain ⟨u, hu, rfl⟩ := List.mem_map.1 ht; exact foldW_mem hu)]
  rfl
/-- How much lines are. -/
def lsum (ls : List ByteArray) : Nat := (ls.map fun s => s.size + 1).sum
theorem lsum_snoc (ls : List ByteArray) (s : ByteArray) : lsum (ls ++ [s]) = lsum ls + (s.size + 1) := by unfold lsum; rw [List.map_append, List.sum_append]; simp
theorem fstep_len (acc t : List UInt8) : (fstep acc t).length ≤ acc.length + (t.length + 1) := by
  unfold fstep
  split
  · omega
  · split
    · omega
    · simp
theorem foldl_len : ∀ (l : List (List UInt8)) (acc : List UInt8), (l.foldl fstep acc).length ≤ acc.length + (l.map fun t => t.length + 1).sum
  | [], acc => by simp
  | t :: r, acc => by
    have h1 := foldl_len r (fstep acc t)
    have h2 := fstep_len acc t
    show (r.foldl fstep (fstep acc t)).length ≤ _
    rw [List.map_cons, List.sum_cons]
    omega
theorem trimB_le (s : ByteArray) : (trimB s).size ≤ s.size := by
  obtain ⟨g1, g2, _, _, e, _⟩ := trimB_is s
  have := congrArg List.length e
  rw [List.length_append, List.length_append, bl_len, bl_len] at this
  omega
theorem foldL_len (ls : List ByteArray) : (foldL ls).length ≤ lsum ls := by
  have h := foldl_len (ls.map fun s => bl (trimB s)) []
  have h2 : ∀ l : List ByteArray, ((l.map fun s => bl (trimB s)).map fun t => t.length + 1).sum ≤ lsum l := by
    intro l
    induction l with
    | nil => exact Nat.le_refl _
    | cons s r ih =>
      unfold lsum at ih ⊢
      rw [List.map_cons, List.map_cons, List.sum_cons, List.map_cons, List.sum_cons, bl_len]
      have := trimB_le s
      omega
  have := h2 ls
  unfold foldL
  rw [List.length_nil] at h
  omega
theorem Join_own {base : Nat} {v : Value} {acc : List ByteArray} {W : World} (h : W.ownsRow base 9 1 v acc.length (acc.map Value.string)) (hn : acc.length ≤ 140737488355328) (hlen : (Lib.join (acc.map bl) [32]).length ≤ 140737488355328) :
    Calls Tryd.prog 32 #[v, .string ⟨#[32]⟩] W fun e w' => e = .returned (.string (ofL (Lib.join (acc.map bl) [32]))) ∧ Below W.heap.size W w' := by
  rcases h.2 with ⟨rfl, h0⟩ | ⟨g, cap, cur, rfl, hg, hh, hle, _⟩
  · have e : acc = [] := List.eq_nil_of_length_eq_zero h0
    subst e
    exact (Tryd.strings_Join_none none 0 ⟨#[32]⟩ W).mono fun e w' ⟨he, hw⟩ => ⟨he, by rw [hw]; exact Below.refl _ _⟩
  · exact Tryd.strings_Join g 0 cap acc ⟨#[32]⟩ W (fun j x hj => by
      rw [Nat.zero_add, h.cellAt j (by have := (List.getElem?_eq_some_iff.1 hj).1; omega), List.getElem?_map, hj]
      rfl) (Blk.lt hh) hn hle hlen
end Go.Proofs.YtjkaigfpjebfbaaDoor
/- stanza.Fold, chandlerref4.Fold. -/
namespace Go.Proofs.YtjkaigfpjebfbaaDoor
open Go.RowKit
set_option linter.unusedVariables false

theorem take_one9 {α : Type} (l : List α) (i : Nat) (h : i < l.length) : l.take (i + 1) = l.take i ++ [l[i]] := by
  rw [List.take_add_one, List.getElem?_eq_getElem h]
  rfl
theorem lsum_mem {ls : List ByteArray} {s : ByteArray} (h : s ∈ ls) : s.size + 1 ≤ lsum ls := by
  induction ls with
  | nil => cases h
  | cons x r ih =>
    unfold lsum at ih ⊢
    rw [List.map_cons, List.sum_cons]
    rcases List.mem_cons.1 h with rfl | h
    · omega
    · have := ih h; omega
theorem lsum_len (ls : List ByteArray) : ls.length ≤ lsum ls := by
  induction ls with
  | nil => exact Nat.zero_le _
  | cons x r ih =>
    unfold lsum at ih ⊢
    rw [List.map_cons, List.sum_cons, List.length_cons]
    omega
theorem lsum_take (ls : List ByteArray) (i : Nat) : lsum (ls.take i) ≤ lsum ls := by
  have h := List.take_append_drop i ls
  have h2 : lsum ls = lsum (ls.take i) + lsum (ls.drop i) := by
    have : lsum (ls.take i ++ ls.drop i) = lsum (ls.take i) + lsum (ls.drop i) := by unfold lsum; rw [List.map_append, List.sum_append]
    rw [h] at this
    exact this
  omega
theorem foldW_len (ls : List ByteArray) : (foldW ls).length ≤ ls.length := by
  unfold foldW
  refine Nat.le_trans (List.length_filter_le _ _) ?_
  rw [List.length_map]
  exact Nat.le_refl _
set_option maxRecDepth 100000 in
set_option maxHeartbeats 4000000 in
theorem Fold_any (G : Nat → Prop) (v : Value) (ls : List ByteArray) (w : World) (hv : LV w G v ls) (hs : lsum ls ≤ 1073741824) (hT : Lib.Utf8Tabs 0 1 w) :
    Calls Tryd.prog 19 #[v] w fun e w' => e = .returned (.string (foldB ls)) ∧ Below w.heap.size w w' := by
  obtain ⟨i0, hi0, hz0, hz1, hz2⟩ := info_parts str_row
  obtain ⟨A, c, rfl, _, hr⟩ := hv
  obtain ⟨n, hn⟩ : ∃ n, n = ls.length := ⟨_, rfl⟩
  rw [← hn] at hr ⊢
  have hnl := lsum_len ls
  have HR := Lib.hid hr
  have HN := Lib.hid hn
  have HS := Lib.hid hs
  have HT := Lib.hid hT
  have hnb : n ≤ 1073741824 := by omega
  clear hr hn hs hT hnl
  go_enter Tryd.func19, Tryd.ntmps19
  go_wp2_with fail
  go_loopw [8, 3] (fun t u wr => ∃ i : Nat, t = .int .i64 (i : Int) ∧ i ≤ n ∧ Hid (wr.ownsRow w.heap.size 9 1 u (foldW (ls.take i)).length ((foldW (ls.take i)).map Value.string) ∧ Below w.heap.size w wr)) (fun t _ _ => n - (match t with | .int _ x => x.toNat | _ => 0))
  case atStart => exact ⟨0, rfl, Nat.zero_le _, Lib.hid ⟨World.ownsRow_nil _ _ _ _, Below.refl _ _⟩⟩
  case round =>
    obtain ⟨i, rfl, hi, HI⟩ := hrel
    obtain ⟨uA, uc, rfl⟩ := own_shape HI.out.1
    obtain ⟨acc, hacc⟩ : ∃ acc, acc = foldW (ls.take i) := ⟨_, rfl⟩
    rw [← hacc] at HI ⊢
    have hal : acc.length ≤ 1073741824 := by
      have := foldW_len (ls.take i)
      rw [← hacc, List.length_take] at this
      omega
    obtain ⟨m, hm⟩ : ∃ m, m = acc.length := ⟨_, rfl⟩
    have HM := Lib.hid hm
    have HACC := Lib.hid hacc
    rw [← hm] at hal HI ⊢
    clear hacc hm
    by_cases hlt : i < n
    case neg =>
      have hln : ¬ (i : Int) < (n : Int) := by omega
      have HJ : Hid (∀ W, wr = W → Calls Tryd.prog 32 #[.slice uA m uc, .string ⟨#[32]⟩] W fun e w' => e = .returned (.string (foldB ls)) ∧ Below W.heap.size W w') := Lib.hid (fun W hW => by
        subst hW
        have hown := HI.out.1
        rw [HM.out] at hown ⊢
        have hj := foldW_join (ls.take i)
        rw [← HACC.out, List.take_of_length_le (by have := HN.out; omega)] at hj
        have hlen := foldL_len ls
        have := Join_own hown (by rw [← HM.out]; omega) (by rw [hj]; have := HS.out; omega)
        rw [hj] at this
        exact this)
      go_wp2_with (go_at_call 32; refine (HJ.out _ rfl).mono ?_; rintro e w2 ⟨rfl, hb2⟩)
      go_ret
      exact ⟨rfl, HI.out.2.trans (hb2.mono HI.out.2.size)⟩
    have hln : (i : Int) < (n : Int) := by omega
    have hil : i < ls.length := by have := HN.out; omega
    obtain ⟨g, o, rfl, hcg⟩ := HR.out.cells (by omega)
    obtain ⟨s, hs⟩ : ∃ s, s = ls[i] := ⟨_, rfl⟩
    have hsx : (ls.map Value.string)[i]? = some (.string s) := by rw [List.getElem?_map, List.getElem?_eq_getElem hil, hs]; rfl
    have k1 : wr.cell? ⟨g, o + i, none⟩ = some (.string s) := hcg wr HI.out.2 _ _ hsx
    have htk := take_one9 ls i hil
    rw [← hs] at htk
    have hss : s.size ≤ 1073741824 := by have := lsum_mem (ls := ls) (s := s) (by rw [hs]; exact List.getElem_mem hil); have := HS.out; omega
    obtain ⟨x, hx⟩ : ∃ x, x = trimB s := ⟨_, rfl⟩
    have HTR : Hid (∀ W, wr = W → Calls Tryd.prog 31 #[.string s] W fun e w' => e = .returned (.string x) ∧ Below W.heap.size W w') := Lib.hid (fun W hW => by
      subst hW
      rw [hx]
      exact Trim_any s wr (by omega) (tabs_later HT.out HI.out.2))
    have hbe := blank_eq x
    by_cases hb : x.size = 0
    · have HE : Hid (foldW (ls.take (i + 1)) = acc) := Lib.hid (by rw [htk, foldW_no _ _ (by rw [← hx]; exact hb), HACC.out])
      rw [decide_eq_true hb] at hbe
      clear hcg hs hsx htk hx hb
      go_wp2_with (go_at_call 31; refine (HTR.out _ rfl).mono ?_; rintro e w2 ⟨rfl, hb2⟩; have HB2 := Lib.hid hb2; clear hb2)
      refine ⟨⟨i + 1, by go_num, by omega, Lib.hid ⟨?_, HI.out.2.trans (HB2.out.mono HI.out.2.size)⟩⟩, ?_⟩
      · rw [HE.out, ← HM.out]
        exact own_upd HI.out.1 (Upd.of_below HB2.out (T := fun _ => False) (fun k h1 h2 => by omega)) (fun _ _ h => h)
      · show n - ((i : Int) + 1).toNat < n - (i : Int).toNat
        omega
    · have HE : Hid (foldW (ls.take (i + 1)) = acc ++ [x]) := Lib.hid (by rw [htk, foldW_yes _ _ (by rw [← hx]; exact hb), HACC.out, hx])
      rw [decide_eq_false hb] at hbe
      clear hcg hs hsx htk hx hb
      go_upto_region 7 with (go_at_call 31; refine (HTR.out _ rfl).mono ?_; rintro e w2 ⟨rfl, hb2⟩; have HB2 := Lib.hid hb2; clear hb2)
      have HOW : Hid (w2.ownsRow w.heap.size 9 1 (.slice uA m uc) m (acc.map Value.string)) := Lib.hid (own_upd HI.out.1 (Upd.of_below HB2.out (T := fun _ => False) (fun k h1 h2 => by omega)) (fun _ _ h => h))
      have HBW := Lib.hid (HI.out.2.trans (HB2.out.mono HI.out.2.size))
      go_wp2_with (at_builtin; refine wpList_append_any _ rfl (.tmp 16) (.tmp 18) 38 rfl w.heap.size 9 i0 _ 1 16 Tryd.underlying38 hi0 hz0 hz1 hz2 rfl (by decide) (.slice uA m uc) m (acc.map Value.string) rfl (HOW.out.alloc _) (w2.heap.size + 1) (some ⟨w2.heap.size, 0, none⟩) 1 1 [.string x] rfl (reads_one (Blk.new w2 _ _) (by simp)) (fun u hu => by simp at hu; subst hu; rfl) (by unfold maxLen; omega) (by omega) (Nat.le_trans HBW.out.size (by simp)) ?_; intro v5 w5 hown5 hg5 hat5; have HG5 := Lib.hid ((HBW.out.alloc HBW.out.size _).grown hg5 (Nat.le_trans HBW.out.size (by simp)) (fun k hk => (own_is HOW.out hk).1)); have HW5 := Lib.hid hown5; clear hown5 hg5 hat5)
      refine ⟨⟨i + 1, by go_num, by omega, Lib.hid ⟨?_, HG5.out⟩⟩, ?_⟩
      · have h5 := HW5.out
        rw [HE.out, List.length_append, List.map_append, ← HM.out]
        exact h5
      · show n - ((i : Int) + 1).toNat < n - (i : Int).toNat
        omega
theorem fold_add (acc t : ByteArray) (h : bl t ≠ []) : ofL (fstep (bl acc) (bl t)) = if acc.size = 0 then t else acc ++ ⟨#[32]⟩ ++ t := by
  unfold fstep
  rw [if_neg h]
  by_cases h0 : acc.size = 0
  · rw [if_pos (List.eq_nil_of_length_eq_zero (by rw [bl_len]; exact h0)), if_pos h0]
    exact ofL_bl t
  · rw [if_neg (fun e => h0 (by have := congrArg List.length e; rw [bl_len] at this; exact this)), if_neg h0]
    apply bl_inj
    rw [bl_ofL, bl_app, bl_app]
    show _ = bl acc ++ [32] ++ bl t
    simp
set_option maxRecDepth 100000 in
set_option maxHeartbeats 4000000 in
theorem RFold_any (G : Nat → Prop) (v : Value) (ls : List ByteArray) (w : World) (hv : LV w G v ls) (hs : lsum ls ≤ 1073741824) :
    Calls Tryd.prog 18 #[v] w fun e w' => e = .returned (.string (foldB ls)) ∧ Below w.heap.size w w' := by
  obtain ⟨A, c, rfl, _, hr⟩ := hv
  obtain ⟨n, hn⟩ : ∃ n, n = ls.length := ⟨_, rfl⟩
  rw [← hn] at hr ⊢
  have hnl := lsum_len ls
  have HR := Lib.hid hr
  have HN := Lib.hid hn
  have HS := Lib.hid hs
  have hnb : n ≤ 1073741824 := by omega
  clear hr hn hs hnl
  go_enter Tryd.func18, Tryd.ntmps18
  go_wp2_with fail
  go_loopw [9, 3] (fun t u wr => ∃ i : Nat, t = .int .i64 (i : Int) ∧ i ≤ n ∧ u = .string (foldB (ls.take i)) ∧ Hid (Below w.heap.size w wr)) (fun t _ _ => n - (match t with | .int _ x => x.toNat | _ => 0))
  case atStart => exact ⟨0, rfl, Nat.zero_le _, rfl, Lib.hid (Below.refl _ _)⟩
  case round =>
    obtain ⟨i, rfl, hi, rfl, HI⟩ := hrel
    obtain ⟨acc, hacc⟩ : ∃ acc, acc = foldB (ls.take i) := ⟨_, rfl⟩
    rw [← hacc]
    have hal : acc.size ≤ 1073741824 := by
      have h1 := foldL_len (ls.take i)
      have h2 := lsum_take ls i
      have h3 := HS.out
      have h4 : acc.size = (foldL (ls.take i)).length := by rw [hacc]; rfl
      omega
    have HACC := Lib.hid hacc
    clear hacc
    by_cases hlt : i < n
    case neg =>
      have hln : ¬ (i : Int) < (n : Int) := by omega
      have HE : Hid (acc = foldB ls) := Lib.hid (by rw [HACC.out, List.take_of_length_le (by have := HN.out; omega)])
      go_wp2_with fail
      go_ret
      exact ⟨by rw [HE.out]; rfl, HI.out⟩
    have hln : (i : Int) < (n : Int) := by omega
    have hil : i < ls.length := by have := HN.out; omega
    obtain ⟨g, o, rfl, hcg⟩ := HR.out.cells (by omega)
    obtain ⟨s, hs⟩ : ∃ s, s = ls[i] := ⟨_, rfl⟩
    have hsx : (ls.map Value.string)[i]? = some (.string s) := by rw [List.getElem?_map, List.getElem?_eq_getElem hil, hs]; rfl
    have k1 : wr.cell? ⟨g, o + i, none⟩ = some (.string s) := hcg wr HI.out _ _ hsx
    have htk := take_one9 ls i hil
    rw [← hs] at htk
    have hss : s.size ≤ 1073741824 := by have := lsum_mem (ls := ls) (s := s) (by rw [hs]; exact List.getElem_mem hil); have := HS.out; omega
    obtain ⟨x, hx⟩ : ∃ x, x = trimB s := ⟨_, rfl⟩
    have hxs : x.size ≤ 1073741824 := by rw [hx]; exact Nat.le_trans (trimB_le s) hss
    have HTR : Hid (∀ W, Calls Tryd.prog 21 #[.string s] W fun e w' => e = .returned (.string x) ∧ W = w') := Lib.hid (fun W => by
      rw [hx]
      exact RefTrim_any s W (by omega))
    have hbe := blank_eq x
    have hae := blank_eq acc
    have hst : foldB (ls.take (i + 1)) = ofL (fstep (bl acc) (bl x)) := by
      rw [htk]
      unfold foldB
      rw [foldL_snoc, ← hx, HACC.out]
      rfl
    by_cases hb : x.size = 0
    · have hx0 : x = ⟨#[]⟩ := bl_inj (List.eq_nil_of_length_eq_zero hb)
      have HE : Hid (foldB (ls.take (i + 1)) = acc) := Lib.hid (by
        rw [hst]
        unfold fstep
        rw [if_pos (show bl x = [] from List.eq_nil_of_length_eq_zero hb)]
        exact ofL_bl acc)
      clear hcg hs hsx htk hx hst hae hbe hb
      subst hx0
      have hcat : acc ++ (⟨#[]⟩ : ByteArray) = acc := bl_inj (by rw [bl_app]; exact List.append_nil _)
      go_wp2_with (go_at_call 21; refine (HTR.out _).mono ?_; rintro e w2 ⟨rfl, rfl⟩)
      refine ⟨⟨i + 1, by go_num, by omega, by rw [HE.out], HI⟩, ?_⟩
      show n - ((i : Int) + 1).toNat < n - (i : Int).toNat
      omega
    · have hbx : bl x ≠ [] := fun e => hb (by have := congrArg List.length e; rw [bl_len] at this; exact this)
      rw [fold_add acc x hbx] at hst
      rw [decide_eq_false hb] at hbe
      by_cases ha : acc.size = 0
      · rw [if_pos ha] at hst
        rw [decide_eq_true ha] at hae
        have hx0 : acc = ⟨#[]⟩ := bl_inj (List.eq_nil_of_length_eq_zero ha)
        have HE := Lib.hid hst
        clear hcg hs hsx htk hx hst hb ha hbx
        subst hx0
        have hcat : (⟨#[]⟩ : ByteArray) ++ x = x := bl_inj (by rw [bl_app]; rfl)
        go_wp2_with (go_at_call 21; refine (HTR.out _).mono ?_; rintro e w2 ⟨rfl, rfl⟩)
        refine ⟨⟨i + 1, by go_num, by omega, by rw [HE.out], HI⟩, ?_⟩
        show n - ((i : Int) + 1).toNat < n - (i : Int).toNat
        omega
      · rw [if_neg ha] at hst
        rw [decide_eq_false ha] at hae
        have HE := Lib.hid hst
        clear hcg hs hsx htk hx hst hb ha hbx
        go_wp2_with (go_at_call 21; refine (HTR.out _).mono ?_; rintro e w2 ⟨rfl, rfl⟩)
        refine ⟨⟨i + 1, by go_num, by omega, by rw [HE.out], HI⟩, ?_⟩
        show n - ((i : Int) + 1).toNat < n - (i : Int).toNat
        omega
end Go.Proofs.YtjkaigfpjebfbaaDoor
/- stanza.Get, stanza.Same over worlds. -/
namespace Go.Proofs.YtjkaigfpjebfbaaDoor
open Go.RowKit
set_option linter.unusedVariables false

/-- The first field of a name, its lines as one. -/
def gotF (l : List Fd) (nm : ByteArray) : ByteArray × Bool := match l.find? (fun f => sameN f.n nm) with
  | some f => (foldB f.ls, true)
  | none => (⟨#[]⟩, false)
theorem gotF_no {l : List Fd} {nm : ByteArray} (h : ∀ j (hj : j < l.length), sameN l[j].n nm = false) : gotF l nm = (⟨#[]⟩, false) := by
  have e : l.find? (fun f => sameN f.n nm) = none := by
    rw [List.find?_eq_none]
    intro f hf
    obtain ⟨j, hj, rfl⟩ := List.mem_iff_getElem.1 hf
    rw [h j hj]
    simp
  unfold gotF
  rw [e]
theorem gotF_yes {l : List Fd} {nm : ByteArray} {i : Nat} (hi : i < l.length) (h : ∀ j (hj : j < l.length), j < i → sameN l[j].n nm = false) (hy : sameN l[i].n nm = true) : gotF l nm = (foldB l[i].ls, true) := by
  have e : l.find? (fun f => sameN f.n nm) = some l[i] := by
    rw [List.find?_eq_some_iff_getElem]
    exact ⟨hy, i, hi, rfl, fun j hj => by simp [h j (by omega) hj]⟩
  unfold gotF
  rw [e]
set_option maxRecDepth 100000 in
set_option maxHeartbeats 4000000 in
theorem Get_any (G : Nat → Prop) (ln : Int) (A : Option Addr) (n c : Nat) (fx : List Value) (l : List Fd) (nm : ByteArray) (w : World) (hr : RowG w G 2 A n fx) (hf : FV w G fx l) (hn : n = l.length) (hN : n ≤ 1048576) (hs : ∀ f ∈ l, f.n.size ≤ 1048576 ∧ lsum f.ls ≤ 1073741824) (hm : nm.size ≤ 1048576)
    (hT : Lib.Utf8Tabs 0 1 w) :
    Calls Tryd.prog 16 #[.agg #[.int .i64 ln, .slice A n c], .string nm] w fun e w' => e = .returned (.tuple #[.string (gotF l nm).1, .bool (gotF l nm).2]) ∧ Below w.heap.size w w' := by
  obtain ⟨R, hR⟩ : ∃ R, R = gotF l nm := ⟨_, rfl⟩
  rw [← hR]
  have HNO : Hid ((∀ j (hj : j < l.length), sameN l[j].n nm = false) → R = (⟨#[]⟩, false)) := Lib.hid (fun h => by rw [hR]; exact gotF_no h)
  have HYES : Hid (∀ i (hi : i < l.length), (∀ j (hj : j < l.length), j < i → sameN l[j].n nm = false) → sameN l[i].n nm = true → R = (foldB l[i].ls, true)) := Lib.hid (fun i hi h hy => by rw [hR]; exact gotF_yes hi h hy)
  have HSM : Hid (∀ (x : ByteArray) (W : World), x.size ≤ 1048576 → Calls Tryd.prog 20 #[.string x, .string nm] W fun e w' => e = .returned (.bool (sameN x nm)) ∧ Below W.heap.size W w') := Lib.hid (fun x W h => SSame_any x nm W (by omega) (by omega))
  have HR := Lib.hid hr
  have HF := Lib.hid hf
  have HN := Lib.hid hn
  have HS := Lib.hid hs
  have HT := Lib.hid hT
  clear hR hr hf hn hs hm hT
  go_enter Tryd.func16, Tryd.ntmps16
  go_wp2_with fail
  go_loopw [11] (fun t wr => ∃ i : Nat, t = .int .i64 (i : Int) ∧ i ≤ n ∧ Hid (∀ j (hj : j < l.length), j < i → sameN l[j].n nm = false) ∧ Hid (Below w.heap.size w wr)) (fun t _ => n - (match t with | .int _ x => x.toNat | _ => 0))
  case atStart => exact ⟨0, rfl, Nat.zero_le _, Lib.hid (fun j _ hj => by omega), Lib.hid ((Below.refl _ _).alloc (Nat.le_refl _) _)⟩
  case round =>
    obtain ⟨i, rfl, hi, HI, HB⟩ := hrel
    by_cases hlt : i < n
    case neg =>
      have hln : ¬ (i : Int) < (n : Int) := by omega
      have HE := Lib.hid (HNO.out (fun j hj => HI.out j hj (by have := HN.out; omega)))
      go_wp2_with fail
      exact bodyPost_ret (v := .tuple #[.string ⟨#[]⟩, .bool false]) (by simp [results, Tryd.results16, go_sem]) rfl ⟨by rw [HE.out], HB.out⟩
    have hln : (i : Int) < (n : Int) := by omega
    have hil : i < l.length := by have := HN.out; omega
    obtain ⟨g, o, rfl, hcg⟩ := HR.out.cells (by omega)
    obtain ⟨e1, lv, e2, lA, lc, rfl, hlc, lr⟩ := HF.out.at_ i hil
    have hs := HS.out _ (List.getElem_mem hil)
    have HLV : Hid (LV w G (.slice lA l[i].ls.length lc) l[i].ls) := Lib.hid ⟨lA, lc, rfl, hlc, lr⟩
    obtain ⟨ls, hls⟩ : ∃ ls, ls = l[i].ls := ⟨_, rfl⟩
    rw [← hls] at e2 HLV hs
    obtain ⟨lk, hlk⟩ : ∃ lk, lk = ls.length := ⟨_, rfl⟩
    rw [← hlk] at e2 HLV
    have k1 : wr.cell? ⟨g, o + i * 2, none⟩ = some (.string l[i].n) := hcg wr HB.out _ _ e1
    have k2 : wr.cell? ⟨g, o + i * 2 + 1, none⟩ = some (.slice lA lk lc) := hcg wr HB.out _ _ e2
    obtain ⟨x, hx⟩ : ∃ x, x = l[i].n := ⟨_, rfl⟩
    rw [← hx] at k1 hs
    have HX := Lib.hid hx
    have HLS := Lib.hid hls
    obtain ⟨bs, hbs⟩ : ∃ bs, bs = sameN x nm := ⟨_, rfl⟩
    have hsm := fun W => HSM.out x W hs.1
    rw [← hbs] at hsm
    have HSX := Lib.hid hsm
    have HBS := Lib.hid hbs
    have hs2 := Lib.hid hs.2
    clear e1 e2 hcg hx hbs hsm hlk hlc lr hls hs
    go_upto_region 4 with fail
    obtain ⟨b, hb⟩ : ∃ b, b = wr.heap.size := ⟨_, rfl⟩
    obtain ⟨w1, hw1⟩ : ∃ w1, w1 = wr.alloc (.cells #[.string x, .slice lA lk lc] 40) := ⟨_, rfl⟩
    have HBK : Hid (Blk w1 b 40 #[.string x, .slice lA lk lc]) := Lib.hid (by rw [hw1, hb]; exact Blk.new wr _ _)
    have kb : w1.cell? ⟨b, 0, none⟩ = some (.string x) := HBK.out.cell 0
    have HB1 : Hid (Below w.heap.size w w1) := Lib.hid (by rw [hw1]; exact HB.out.alloc HB.out.size _)
    rw [← hw1, ← hb]
    clear hw1 hb k1 k2 HB
    cases bs with
    | false =>
      have HI2 : Hid (∀ j (hj : j < l.length), j < i + 1 → sameN l[j].n nm = false) := Lib.hid (fun j hj h => by
        by_cases e : j = i
        · subst e; rw [← HX.out, ← HBS.out]
        · exact HI.out j hj (by omega))
      go_wp2_with (go_at_call 20; refine (HSX.out _).mono ?_; rintro e w2 ⟨rfl, hb2⟩)
      refine ⟨⟨i + 1, by go_num, by omega, HI2, Lib.hid (HB1.out.trans (hb2.mono HB1.out.size))⟩, ?_⟩
      show n - ((i : Int) + 1).toNat < n - (i : Int).toNat
      omega
    | true =>
      have HE : Hid (R = (foldB ls, true)) := Lib.hid (by rw [HYES.out i hil HI.out (by rw [← HX.out, ← HBS.out]), HLS.out])
      go_upto_region 5 with (go_at_call 20; refine (HSX.out _).mono ?_; rintro e w2 ⟨rfl, hb2⟩; have HB2 := Lib.hid hb2; clear hb2)
      have kc : w2.cell? ⟨b, 1, none⟩ = some (.slice lA lk lc) := (HBK.out.below HB2.out HBK.out.lt).cell 1
      have HB3 := Lib.hid (HB1.out.trans (HB2.out.mono HB1.out.size))
      have HFO : Hid (∀ W, w2 = W → Calls Tryd.prog 19 #[.slice lA lk lc] W fun e w' => e = .returned (.string (foldB ls)) ∧ Below W.heap.size W w') := Lib.hid (fun W hW => by
        subst hW
        exact Fold_any G _ ls w2 (HLV.out.upd (Upd.of_below HB3.out (T := fun _ => False) (fun k h1 h2 => by omega)) (fun _ _ h => h)) hs2.out (tabs_later HT.out HB3.out))
      go_wp2_with (go_at_call 19; refine (HFO.out _ rfl).mono ?_; rintro e w4 ⟨rfl, hb4⟩; have HB4 := Lib.hid hb4; clear hb4)
      exact bodyPost_ret (v := .tuple #[.string (foldB ls), .bool true]) (by simp [results, Tryd.results16, go_sem]) rfl ⟨by rw [HE.out], HB3.out.trans (HB4.out.mono HB3.out.size)⟩
end Go.Proofs.YtjkaigfpjebfbaaDoor
/- A stanza that every program must know: chandlerlaw5.awake. -/
namespace Go.Proofs.YtjkaigfpjebfbaaDoor
open Go.RowKit
set_option linter.unusedVariables false

theorem bytes_alloc (w : World) (t : TypeId) (fr : Nat × Nat) (C : Array Value) (n : Nat) (bs : List Nat) (hn : bs.length = n) (hl : ∀ x ∈ bs, x < 256) (hc : C.toList = bs.map fun x => Value.int .u8 ((x : Nat) : Int)) : Bytes (w.alloc (.cells C t fr)) (some ⟨w.heap.size, 0, none⟩) n bs :=
  ⟨hn, hl, fun _ => ⟨w.heap.size, 0, rfl, by simp, fun k hk => by
    rw [Nat.zero_add, cell_of_row _ _ _ _ _ _ (heap_alloc_new w _), ← Array.getElem?_toList, hc, List.getElem?_map, List.getD_eq_getElem?_getD]
    rw [List.getElem?_eq_getElem (by omega)]
    rfl⟩⟩
theorem StzAt.one {w : World} {A : Option Addr} {c : Nat} {ln : Int} {fs : List Fd} (h : StzAt w (.slice A 1 c) [⟨ln, fs⟩]) : ∃ G g o FA fc fx, A = some ⟨g, o, none⟩ ∧ w.cell? ⟨g, o, none⟩ = some (.int .i64 ln) ∧ w.cell? ⟨g, o + 1, none⟩ = some (.slice FA fs.length fc) ∧ RowG w G 2 FA fs.length fx ∧ FV w G fx fs := by
  obtain ⟨G, A', c', xs, e, hc, hr, hs⟩ := h
  injection e with e1 _ e3
  subst e1 e3
  obtain ⟨g, o, rfl, _, _, hcell⟩ := hr.2 Nat.one_pos
  obtain ⟨FA, fc, fx, ys, rfl, _, h1, h2, _⟩ := hs
  exact ⟨G, g, o, FA, fc, fx, rfl, hcell 0 _ rfl, hcell 1 _ rfl, h1, h2⟩
def awkL : List Nat := [80,97,99,107,97,103,101,58,32,97,10,68,101,112,101,110,100,115,58,32,98,44,10,9,99,10]
theorem awkBytes (w : World) : Bytes (w.alloc (.cells #[.int .u8 80, .int .u8 97, .int .u8 99, .int .u8 107, .int .u8 97, .int .u8 103, .int .u8 101, .int .u8 58, .int .u8 32, .int .u8 97, .int .u8 10, .int .u8 68, .int .u8 101, .int .u8 112, .int .u8 101, .int .u8 110, .int .u8 100, .int .u8 115, .int .u8 58, .int .u8 32, .int .u8 98, .int .u8 44, .int .u8 10, .int .u8 9, .int .u8 99, .int .u8 10] 5 (26, 27))) (some ⟨w.heap.size, 0, none⟩) 26 awkL := bytes_alloc w _ _ _ 26 awkL rfl (by decide) (by kernel_rfl)
def awkF : List Fd := [⟨⟨#[80,97,99,107,97,103,101]⟩, [⟨#[97]⟩]⟩, ⟨⟨#[68,101,112,101,110,100,115]⟩, [⟨#[98,44]⟩, ⟨#[99]⟩]⟩]
theorem awk1 : errS (parseS (toS awkL)) = (0, 0) := by kernel_rfl
theorem awk2 : gotS (parseS (toS awkL)) = [⟨1, awkF⟩] := by kernel_rfl
theorem awk3 : gotF awkF ⟨#[100, 101, 112, 101, 110, 100, 115]⟩ = (⟨#[98, 44, 32, 99]⟩, true) := by kernel_rfl
theorem awk4 : ∀ f ∈ awkF, f.n.size ≤ 1048576 ∧ lsum f.ls ≤ 1073741824 := by
  intro f hf
  unfold awkF at hf
  rcases List.mem_cons.1 hf with rfl | hf
  · decide +kernel
  · rw [List.mem_singleton] at hf
    subst hf
    decide +kernel
set_option maxRecDepth 100000 in
set_option maxHeartbeats 4000000 in
theorem awake_any (w : World) (hT : Lib.Utf8Tabs 0 1 w) (hM : MaxLenAt w) :
    Calls Tryd.prog 14 #[] w fun e w' => e = .returned (.bool true) ∧ Below w.heap.size w w' := by
  have HP : Hid (∀ W g, Below w.heap.size w W → Bytes W (some ⟨g, 0, none⟩) 26 awkL → Calls Tryd.prog 11 #[.slice (some ⟨g, 0, none⟩) 26 26] W fun e w' => ∃ A c, e = .returned (.tuple #[.slice A 1 c, .agg #[.int .i64 0, .int .i64 0]]) ∧ StzAt w' (.slice A 1 c) [⟨1, awkF⟩] ∧ Below W.heap.size W w') := Lib.hid (fun W g hW hb => by
    have h := Parse_any (some ⟨g, 0, none⟩) 26 26 awkL W hb (by decide) (tabs_later hT hW) (hM.later hW)
    rw [awk1, awk2] at h
    refine h.mono fun e w' ⟨v, he, hv, hb⟩ => ?_
    obtain ⟨G, A, c, xs, rfl, h2⟩ := hv
    exact ⟨A, c, he, ⟨G, A, c, xs, rfl, h2⟩, hb⟩)
  have HT := Lib.hid hT
  clear hT hM
  go_enter Tryd.func14, Tryd.ntmps14
  have kc := fun (w : World) (C : Array Value) (n c : Nat) => Lib.run_convert_bytes_const (P := Tryd.prog) w 22 5 C n c Tryd.underlying22 Tryd.underlying5
  go_upto_region 2 with (go_at_call 11; refine (HP.out _ _ ((Below.refl _ _).alloc (Nat.le_refl _) _) (awkBytes w)).mono ?_; rintro e w2 ⟨A, c, rfl, hv, hb2⟩; obtain ⟨G, g, o, FA, fc, fx, rfl, kv1, kv2, hr, hf⟩ := hv.one; have HB2 := Lib.hid (((Below.refl w.heap.size w).alloc (Nat.le_refl _) _).trans (hb2.mono (by simp))); have HRF := Lib.hid (And.intro hr hf); have HKV := Lib.hid (And.intro kv1 kv2); clear hv hb2 hr hf kv1 kv2)
  clear kc
  have hgl : g < w2.heap.size := World.block_lt_of_cell? w2 _ HKV.out.1
  obtain ⟨w3, hw3⟩ : ∃ w3, w3 = w2.alloc (.cells #[.int .i64 0, .int .i64 0] 26) := ⟨_, rfl⟩
  obtain ⟨b, hb⟩ : ∃ b, b = w2.heap.size := ⟨_, rfl⟩
  have hu : Below w2.heap.size w2 w3 := by rw [hw3]; exact (Below.refl _ _).alloc (Nat.le_refl _) _
  have kb : w3.cell? ⟨b, 0, none⟩ = some (.int .i64 0) := by rw [hw3, hb]; exact (Blk.new w2 26 #[.int .i64 0, .int .i64 0]).cell 0
  have k1 : w3.cell? ⟨g, o, none⟩ = some (.int .i64 1) := (hu.cell (p := ⟨g, o, none⟩) hgl).trans HKV.out.1
  have k2 : w3.cell? ⟨g, o + 1, none⟩ = some (.slice FA 2 fc) := (hu.cell (p := ⟨g, o + 1, none⟩) hgl).trans HKV.out.2
  have HB3 : Hid (Below w.heap.size w w3) := Lib.hid (HB2.out.trans (hu.mono HB2.out.size))
  have hu' : Upd (fun _ => False) w2 w3 := Upd.of_below hu (fun k h1 h2 => by omega)
  have HG : Hid (∀ W, w3 = W → Calls Tryd.prog 16 #[.agg #[.int .i64 1, .slice FA 2 fc], .string ⟨#[100, 101, 112, 101, 110, 100, 115]⟩] W fun e w' => e = .returned (.tuple #[.string ⟨#[98, 44, 32, 99]⟩, .bool true]) ∧ Below W.heap.size W w') := Lib.hid (fun W hW => by
    subst hW
    have h := Get_any G 1 FA 2 fc fx awkF ⟨#[100, 101, 112, 101, 110, 100, 115]⟩ w3 (HRF.out.1.upd hu' (fun _ _ h => h)) (HRF.out.2.upd hu' (fun _ _ h => h)) rfl (by decide) awk4 (by decide) (tabs_later HT.out HB3.out)
    rw [awk3] at h
    exact h)
  rw [← hw3, ← hb]
  clear hw3 hb hu hu' hgl
  go_wp2_with (go_at_call 16; refine (HG.out _ rfl).mono ?_; rintro e w4 ⟨rfl, hb4⟩; have HB4 := Lib.hid hb4; clear hb4)
  go_ret
  exact ⟨rfl, HB3.out.trans (HB4.out.mono HB3.out.size)⟩
end Go.Proofs.YtjkaigfpjebfbaaDoor
/- How much a text's stanzas are. -/
namespace Go.Proofs.YtjkaigfpjebfbaaDoor
open Go.RowKit
set_option linter.unusedVariables false

def Lim (k : Nat) (L : List St) : Prop := L.length ≤ 200 ∧ ∀ s ∈ L, s.fs.length ≤ 40 ∧ ∀ f ∈ s.fs, f.ls.length ≤ k
theorem Lim.mono {k k' : Nat} (hk : k ≤ k') {L : List St} (h : Lim k L) : Lim k' L := ⟨h.1, fun s hs => ⟨(h.2 s hs).1, fun f hf => Nat.le_trans ((h.2 s hs).2 f hf) hk⟩⟩
theorem Lim.last {k k' : Nat} {Lp : List St} {l0 l1 : Int} {fs fs' : List Fd} (h : Lim k (Lp ++ [⟨l0, fs⟩])) (hk : k ≤ k') (h1 : fs'.length ≤ 40) (h2 : ∀ f ∈ fs', f.ls.length ≤ k') : Lim k' (Lp ++ [⟨l1, fs'⟩]) := by
  have e1 : (Lp ++ [(⟨l0, fs⟩ : St)]).length = Lp.length + 1 := by simp
  have e2 : (Lp ++ [(⟨l1, fs'⟩ : St)]).length = Lp.length + 1 := by simp
  refine ⟨by rw [e2, ← e1]; exact h.1, fun s hs => ?_⟩
  rcases List.mem_append.1 hs with hs | hs
  · have := h.2 s (List.mem_append.2 (.inl hs))
    exact ⟨this.1, fun f hf => Nat.le_trans (this.2 f hf) hk⟩
  · rw [List.mem_singleton] at hs
    subst hs
    exact ⟨h1, h2⟩
theorem Lim.take {k : Nat} {σ σ' : PS} {s : ByteArray} {ln : Int} (h : Lim k σ.all) (ht : takeS s ln σ = .ok σ') : Lim (k + 1) σ'.all := by
  have hm := h.mono (Nat.le_succ k)
  unfold takeS at ht
  split at ht
  · simp only [Except.ok.injEq] at ht; subst ht; exact hm
  split at ht
  · simp only [Except.ok.injEq] at ht; subst ht; exact hm
  split at ht
  · cases σ with
    | shut L => unfold furS at ht; simp at ht
    | opn Lp l0 Fp nm ls =>
      unfold furS at ht
      simp only [Except.ok.injEq] at ht
      subst ht
      have hl := h.2 ⟨l0, Fp ++ [⟨nm, ls⟩]⟩ (List.mem_append.2 (.inr (List.mem_singleton.2 rfl)))
      refine Lim.last (fs := Fp ++ [⟨nm, ls⟩]) (l0 := l0) h (Nat.le_succ k) ?_ (fun f hf => ?_)
      · have := hl.1
        simp only [List.length_append, List.length_singleton] at this ⊢
        exact this
      · rcases List.mem_append.1 hf with hf | hf
        · exact Nat.le_succ_of_le (hl.2 f (List.mem_append.2 (.inl hf)))
        · rw [List.mem_singleton] at hf
          subst hf
          have := hl.2 ⟨nm, ls⟩ (List.mem_append.2 (.inr (List.mem_singleton.2 rfl)))
          show (ls ++ [_]).length ≤ k + 1
          rw [List.length_append, List.length_singleton]
          exact Nat.succ_le_succ this
  · unfold fieldS at ht
    split at ht
    · simp at ht
    · cases σ with
      | shut L =>
        simp only at ht
        split at ht
        · simp at ht
        · next h2 =>
          simp only [Except.ok.injEq] at ht
          subst ht
          have hL : L.length ≤ 200 := h.1
          refine ⟨?_, fun x hx => ?_⟩
          · show (L ++ [_]).length ≤ 200
            rw [List.length_append, List.length_singleton]
            omega
          · rcases List.mem_append.1 hx with hx | hx
            · exact hm.2 x hx
            · rw [List.mem_singleton] at hx
              subst hx
              refine ⟨by show 1 ≤ 40; omega, fun f hf => ?_⟩
              have hf : f ∈ [(⟨_, [_]⟩ : Fd)] := hf
              rw [List.mem_singleton] at hf
              subst hf
              show 1 ≤ k + 1
              omega
      | opn Lp l0 Fp nm ls =>
        simp only at ht
        split at ht
        · simp at ht
        · next h2 =>
          split at ht
          · simp at ht
          · simp only [Except.ok.injEq] at ht
            subst ht
            have hl := h.2 ⟨l0, Fp ++ [⟨nm, ls⟩]⟩ (List.mem_append.2 (.inr (List.mem_singleton.2 rfl)))
            refine Lim.last (fs := Fp ++ [⟨nm, ls⟩]) (l0 := l0) h (Nat.le_succ k) ?_ (fun f hf => ?_)
            · have := hl.1
              simp only [List.length_append, List.length_singleton] at this ⊢
              omega
            · rcases List.mem_append.1 hf with hf | hf
              · exact Nat.le_succ_of_le (hl.2 f hf)
              · rw [List.mem_singleton] at hf
                subst hf
                show 1 ≤ k + 1
                omega
theorem runS_lim : ∀ (M : List ByteArray) (i k : Nat) (σ : PS), Lim k σ.all → Lim (k + M.length) (gotS (runS M i σ))
  | [], i, k, σ, h => h
  | s :: r, i, k, σ, h => by
    cases ht : takeS s ((i : Int) + 1) σ with
    | error e => rw [runS_err ht]; exact ⟨Nat.zero_le _, fun x hx => by cases hx⟩
    | ok σ' =>
      rw [runS_ok ht]
      have := runS_lim r (i + 1) (k + 1) σ' (h.take ht)
      rw [List.length_cons]
      exact this.mono (by omega)
theorem parse_lim (b : ByteArray) : Lim 65537 (gotS (parseS b)) := by
  unfold parseS
  split
  · next h =>
    have h1 := runS_lim (linesGot b) 0 0 (.shut []) ⟨Nat.zero_le _, fun x hx => by cases hx⟩
    exact h1.mono (by have := (got_small h).1; omega)
  · exact ⟨Nat.zero_le _, fun x hx => by cases hx⟩
end Go.Proofs.YtjkaigfpjebfbaaDoor
