/- text.Lines and the reference's: the walks. -/
import Derived.Test.YtjkaigfpjebfbaaDoorB5
import Derived.Test.YtjkaigfpjebfbaaDoorB1
import Derived.Test.YtjkaigfpjebfbaaDoorB2
import Derived.Test.YtjkaigfpjebfbaaDoorB3
import Derived.Laws.BytesArg
import Derived.Shelf.Strings.SplitShaped
namespace Go.Proofs.YtjkaigfpjebfbaaDoor
open Go.RowKit Go.Shelf Go.Lib
set_option linter.unusedVariables false

def MaxLenAt (w : World) : Prop := ∃ m, w.cell? ⟨Tryd.laysM146_ren.g 1, 0, none⟩ = some (.int .i64 m)
theorem MaxLenAt.of {w : World} (h : w.ShapedOpen Tryd.prog) : MaxLenAt w := Tryd.laysM146.s1_3 w h
theorem MaxLenAt.later {w w' : World} (h : MaxLenAt w) (hb : Below w.heap.size w w') : MaxLenAt w' := by
  obtain ⟨m, hm⟩ := h
  exact ⟨m, by rw [hb.cell (World.block_lt_of_cell? w _ hm)]; exact hm⟩
theorem strings_Split (s sep : ByteArray) (w : World) (h : MaxLenAt w) (hs : s.size < 4294967281) (h1 : 1 ≤ sep.size) :
    Calls Tryd.prog 37 #[.string s, .string sep] w fun e w' =>
      e = .returned (.slice (some ⟨w.heap.size, 0, none⟩) (Lib.countB s sep + 1) (Lib.countB s sep + 1)) ∧ w' = w.alloc (.cells ((Lib.splitB sep 0 (Lib.countB s sep) s).map Value.string).toArray 9) := by
  obtain ⟨m, hm⟩ := h
  exact Any.strings_Split { Tryd.laysM146 with } Tryd.laysM146.i9 s sep m w hs hm h1
def toS (bs : List Nat) : ByteArray := ⟨(bs.map UInt8.ofNat).toArray⟩
theorem toS_size (bs : List Nat) : (toS bs).size = bs.length := by simp [toS, ByteArray.size]
theorem toS_nums (bs : List Nat) : strOfNums (bs.map fun (x : Nat) => (x : Int)) = toS bs := by simp [strOfNums, toS, List.map_map, Function.comp_def]
theorem run_string (A : Option Addr) (n cp : Nat) (bs : List Nat) (w : World) (hb : Bytes w A n bs) :
    (convert 22 9 (.slice A n cp)).run Tryd.prog w = .ok (.string (toS bs)) w := by
  obtain ⟨hl, hlt, hc⟩ := hb
  rw [← toS_nums]
  by_cases h0 : 0 < n
  · obtain ⟨b, o, rfl, _, hcell⟩ := hc h0
    exact run_convert_bytes_arg (P := Tryd.prog) w 22 5 Tryd.underlying22 Tryd.underlying5 b o n cp (bs.map fun (x : Nat) => (x : Int)) (by simpa using hl) (fun i hi => by
      rw [hcell i hi]
      congr 2
      rw [List.getD_eq_getElem?_getD, List.getD_eq_getElem?_getD, List.getElem?_map, List.getElem?_eq_getElem (by omega)]
      rfl) 9 Tryd.underlying9
  · obtain rfl : n = 0 := by omega
    obtain rfl : bs = [] := List.eq_nil_of_length_eq_zero hl
    cases A with
    | none => exact run_convert_bytes_nil (P := Tryd.prog) w 22 5 Tryd.underlying22 Tryd.underlying5 0 cp 9 Tryd.underlying9
    | some a =>
      rw [run_convert_bytes_string w 22 9 5 _ 0 cp Tryd.underlying22 Tryd.underlying5 Tryd.underlying9]
      exact run_bytesToString w a 0 cp [] (run_loadCells_list (P := Tryd.prog) w a [] (fun j v hj => by simp at hj))
theorem big_err {s : ByteArray} (h : 65536 < s.size) : linesErr s = (2, 0) ∧ linesGot s = [] := by
  have e : linesErr s = (2, 0) := by unfold linesErr; rw [if_pos h]
  refine ⟨e, ?_⟩
  unfold linesGot
  rw [e]
  rfl
theorem line_size {s x : ByteArray} (h : x ∈ linesOf s) : x.size ≤ s.size := by
  have key : ∀ (t cur : List UInt8), ∀ y ∈ rl t cur, y.length ≤ cur.length + t.length := by
    intro t
    induction t with
    | nil =>
      intro cur y hy
      by_cases e : cur = []
      · have : rl [] cur = [] := by show (if cur = [] then [] else [cur]) = []; rw [if_pos e]
        rw [this] at hy; cases hy
      · have : rl [] cur = [cur] := by show (if cur = [] then [] else [cur]) = [cur]; rw [if_neg e]
        rw [this] at hy
        cases hy with
        | head => simp
        | tail _ hy => cases hy
    | cons c t ih =>
      intro cur y hy
      change y ∈ (if c = 10 then cur :: rl t [] else rl t (cur ++ [c])) at hy
      rw [List.length_cons]
      by_cases e : c = 10
      · rw [if_pos e] at hy
        cases hy with
        | head => omega
        | tail _ hy => have := ih [] y hy; simp at this; omega
      · rw [if_neg e] at hy
        have := ih _ y hy
        rw [List.length_append] at this
        simp at this
        omega
  unfold linesOf at h
  obtain ⟨y, hy, rfl⟩ := List.mem_map.1 h
  have := key _ _ y hy
  rw [bl_len] at this
  rw [List.length_nil, Nat.zero_add] at this
  exact this
theorem chk_next (x : ByteArray) (r : List ByteArray) (i : Nat) (h : ¬ 1000 < x.size) (h2 : ¬ 0 ≤ goodZ x) : chk (x :: r) i = chk r (i + 1) := by rw [chk, if_neg h, if_neg h2]
def gotOf (e : Nat × Nat) (M : List ByteArray) : List ByteArray := if e.1 = 0 then M else []
theorem TextsAt.nil (w : World) : TextsAt w (.slice none 0 0) [] := ⟨none, 0, rfl, fun j hj => absurd hj (by simp)⟩
set_option maxRecDepth 100000 in
set_option maxHeartbeats 1000000 in
theorem Lines_any (A : Option Addr) (n cp : Nat) (bs : List Nat) (w : World) (hb : Bytes w A n bs) (hn : n < 4294967281) (hT : Lib.Utf8Tabs 0 1 w) (hM : MaxLenAt w) :
    Calls Tryd.prog 24 #[.slice A n cp] w fun e w' =>
      ∃ v, e = .returned (.tuple #[v, .agg #[.int .i64 ((linesErr (toS bs)).1 : Int), .int .i64 ((linesErr (toS bs)).2 : Int)]]) ∧ TextsAt w' v (linesGot (toS bs)) ∧ Below w.heap.size w w' := by
  have hz := toS_size bs
  have hl := hb.1
  by_cases hbig : 65536 < n
  · obtain ⟨e1, e2⟩ := big_err (s := toS bs) (by omega)
    rw [e1, e2]
    have hbig' : (65536 : Int) < n := by omega
    clear e1 e2 hz hb hl
    go_enter Tryd.func24, Tryd.ntmps24
    go_wp2_with fail
    exact bodyPost_ret (v := .tuple #[.slice none 0 0, .agg #[.int .i64 2, .int .i64 0]]) (by simp [results, Tryd.results24, go_sem]) rfl ⟨_, rfl, TextsAt.nil _, (Below.refl _ _).alloc (Nat.le_refl _) _⟩
  · have hsm : (n : Int) ≤ 65536 := by omega
    have e0 : linesErr (toS bs) = chk (linesOf (toS bs)) 0 := by unfold linesErr; rw [if_neg (by omega)]
    have hcv := fun W (hW : Below w.heap.size w W) => run_string A n cp bs W (hb.below hW)
    obtain ⟨s, hs⟩ : ∃ s, s = toS bs := ⟨_, rfl⟩
    rw [← hs] at hz e0 hcv ⊢
    obtain ⟨r, x, hrx, hx0, hx1⟩ := cuts_end s
    have hlen := Lib.splitB_all ⟨#[10]⟩ (by decide) 0 _ s rfl
    have hsp := fun W hM => strings_Split s ⟨#[10]⟩ W hM (by omega) (by decide)
    have hL : cutsOf s = splitB ⟨#[10]⟩ 0 (countB s ⟨#[10]⟩) s := rfl
    rw [← hL] at hlen hsp
    obtain ⟨L, hLL⟩ : ∃ L, L = cutsOf s := ⟨_, rfl⟩
    obtain ⟨c, hcc⟩ : ∃ c, c = countB s ⟨#[10]⟩ := ⟨_, rfl⟩
    rw [← hLL] at hlen hrx hx1 hL
    simp only [← hLL, ← hcc] at hsp hlen
    have hrl : r.length = c := by have := congrArg List.length hrx; rw [List.length_append, hlen] at this; simp at this; omega
    obtain ⟨M, hM'⟩ : ∃ M, M = linesOf s := ⟨_, rfl⟩
    simp only [← hM'] at hx0 hx1 e0
    have hgot : linesGot s = gotOf (linesErr s) M := by rw [hM']; rfl
    rw [e0] at hgot
    rw [e0, hgot]
    have hc63 : c < 4294967296 := by have h9 := Lib.count_le s.data.toList [10]; have h8 : c ≤ s.size + 1 := by rw [hcc]; exact h9
                                     omega
    have hMsz : ∀ y ∈ M, y.size ≤ s.size := fun y hy => by rw [hM'] at hy; exact line_size hy
    clear hs hb hl hL hLL hcc hM' hgot e0
    have HSP := Lib.hid hsp
    have HT := Lib.hid hT
    have HM := Lib.hid hM
    have HX0 := Lib.hid hx0
    have HX1 := Lib.hid hx1
    have HR := Lib.hid hrx
    have HL := Lib.hid hlen
    have HSZ := Lib.hid hMsz
    have HRL := Lib.hid hrl
    clear hsp hT hM hx0 hx1 hlen hrx hMsz hrl
    go_enter Tryd.func24, Tryd.ntmps24
    have hcv1 := hcv (w.alloc (Obj.cells #[Value.int IntKind.i64 0, Value.int IntKind.i64 0] 26)) ((Below.refl _ _).alloc (Nat.le_refl _) _)
    go_wp2_with fail
    go_at_call 37
    refine (HSP.out _ (HM.out.later ((Below.refl _ _).alloc (Nat.le_refl _) _))).mono ?_
    rintro e w2 ⟨rfl, hw2⟩
    obtain ⟨g, hg⟩ : ∃ g, g = (w.alloc (Obj.cells #[Value.int IntKind.i64 0, Value.int IntKind.i64 0] 26)).heap.size := ⟨_, rfl⟩
    rw [← hg]
    have hcell : ∀ j (h : j < L.length), w2.cell? ⟨g, j, none⟩ = some (.string L[j]) := fun j h => by
      rw [hw2, hg, World.cell?_alloc_new]
      simp [h]
    obtain ⟨W0, hW0⟩ : ∃ W0, W0 = w.alloc (Obj.cells #[Value.int IntKind.i64 0, Value.int IntKind.i64 0] 26) := ⟨_, rfl⟩
    have hB0 : Below (w.heap.size + 1) W0 w2 := by
      rw [hw2, hW0]
      exact (Below.refl _ _).alloc (by simp) _
    have hB00 : Below w.heap.size w W0 := by
      rw [hW0]
      exact (Below.refl _ _).alloc (Nat.le_refl _) _
    have hres : ∀ W, Below (w.heap.size + 1) W0 W → Hid (Blk W w.heap.size 26 #[Value.int IntKind.i64 0, Value.int IntKind.i64 0]) ∧ W.cell? ⟨w.heap.size, 0, none⟩ = some (.int .i64 0) ∧ W.cell? ⟨w.heap.size, 1, none⟩ = some (.int .i64 0) ∧ W.frozen? ⟨w.heap.size, 0, none⟩ = false ∧ W.frozen? ⟨w.heap.size, 1, none⟩ = false := fun W hW => by
      rw [hW.cell (by simp), hW.cell (by simp), hW.frozen (by simp), hW.frozen (by simp), hW0]
      exact ⟨Lib.hid (by have h9 := hW.block w.heap.size (by omega); rw [hW0] at h9; exact h9.trans (Blk.new w _ _)), by rw [World.cell?_alloc_new]; rfl, by rw [World.cell?_alloc_new]; rfl, by simp, by simp⟩
    have hg1 : Hid (g = w.heap.size + 1) := Lib.hid (by rw [hg]; simp)
    have hg2 : Hid (g < w2.heap.size) := Lib.hid (by rw [hw2, hg]; simp)
    have HSZ0 : Hid (w.heap.size + 1 ≤ W0.heap.size) := Lib.hid (by rw [hW0]; simp)
    have HC := Lib.hid hcell
    have HB0 := Lib.hid hB0
    have HB00 := Lib.hid hB00
    have HRES := Lib.hid hres
    clear hw2 hg hcell hB0 hB00 hres hcv1 hcv hW0
    by_cases h0 : x.size = 0
    · obtain rfl : x = ⟨#[]⟩ := bl_inj (List.eq_nil_of_length_eq_zero h0)
      obtain rfl : M = r := HX0.out h0
      have k0 : w2.cell? ⟨g, c, none⟩ = some (.string ⟨#[]⟩) := by
        rw [HC.out c (by rw [HL.out]; omega)]
        simp [HR.out, HRL.out]
      have hmc : M.length ≤ c := by rw [HRL.out]; exact Nat.le_refl _
      have hcm : c ≤ M.length := by rw [HRL.out]; exact Nat.le_refl _
      clear h0
      have HCM : Hid (∀ j (h : j < M.length), w2.cell? ⟨g, j, none⟩ = some (.string M[j])) := Lib.hid (fun j h => by have := HC.out j (by rw [HL.out]; omega); rw [this]; simp [HR.out, h])
      go_wp2_with fail
      go_loopw [28] (fun p wr => ∃ i : Nat, p = .int .i64 i ∧ Hid (Below (w.heap.size + 1) W0 wr ∧ Below w2.heap.size w2 wr) ∧ i ≤ M.length ∧ Hid (chk M 0 = chk (M.drop i) i)) (fun p _ => M.length - (match p with | .int _ a => a.toNat | _ => 0))
      case atStart => exact ⟨0, rfl, Lib.hid ⟨HB0.out, Below.refl _ _⟩, Nat.zero_le _, Lib.hid rfl⟩
      case round =>
        obtain ⟨i, rfl, HBW, him, HK⟩ := hrel
        have hi63 : i < 4294967297 := by omega
        by_cases hlt : i < M.length
        · have k1 : wr.cell? ⟨g, i, none⟩ = some (.string M[i]) := by rw [HBW.out.2.cell hg2.out]; exact HCM.out i hlt
          have HD := Lib.hid (HK.out.trans (congrArg (fun z => chk z i) (List.drop_eq_getElem_cons hlt)))
          have HSM := Lib.hid (HSZ.out M[i] (List.getElem_mem hlt))
          obtain ⟨HBK, d0, d1, d2, d3⟩ := HRES.out wr HBW.out.1
          by_cases hlong : 1000 < M[i].size
          · have HE := Lib.hid (HD.out.trans (chk_long _ _ _ hlong))
            have hlong' : (1000 : Int) < M[i].size := by omega
            clear hlong
            go_wp2_with fail
            refine ret_at Tryd.results24 w.heap.size _ ((HBK.out.set_ 0 _).set_ 1 _) rfl rfl rfl ?_
            rw [HE.out]
            refine ⟨_, rfl, TextsAt.nil _, ((HB00.out.trans (HBW.out.1.mono (by omega))).setCell (Nat.le_refl _) _).setCell (Nat.le_refl _) _⟩
          · have hshort' : (M[i].size : Int) ≤ 1000 := by omega
            by_cases hbad : 0 ≤ goodZ M[i]
            · have HE := Lib.hid (HD.out.trans (chk_bad _ _ _ (by omega) hbad))
              have hbad' : decide ((0 : Int) ≤ goodZ M[i]) = true := decide_eq_true hbad
              have hG := fun W hT => Good_any M[i] W hT (by have := HSM.out; omega)
              have HG := Lib.hid hG
              clear hlong hG hbad
              go_wp2_with fail
              go_at_call 38
              refine (HG.out _ (tabs_later HT.out (HB00.out.trans (HBW.out.1.mono (by omega))))).mono ?_
              rintro e w3 ⟨rfl, hb3⟩
              have HB3 := Lib.hid (HBW.out.1.trans (hb3.mono (Nat.le_trans HSZ0.out HBW.out.1.size)))
              obtain ⟨HBK, d0, d1, d2, d3⟩ := HRES.out w3 HB3.out
              clear hb3
              go_wp2_with fail
              refine ret_at Tryd.results24 w.heap.size _ ((HBK.out.set_ 0 _).set_ 1 _) rfl rfl rfl ?_
              rw [HE.out]
              refine ⟨_, rfl, TextsAt.nil _, ((HB00.out.trans (HB3.out.mono (by omega))).setCell (Nat.le_refl _) _).setCell (Nat.le_refl _) _⟩
            · have hbad' : decide ((0 : Int) ≤ goodZ M[i]) = false := decide_eq_false hbad
              have HE : Hid (chk M 0 = chk (M.drop (i + 1)) (i + 1)) := Lib.hid (HD.out.trans (chk_next _ _ _ hlong hbad))
              have hG := fun W hT => Good_any M[i] W hT (by have := HSM.out; omega)
              have HG := Lib.hid hG
              clear hlong hG hbad
              go_wp2_with fail
              go_at_call 38
              refine (HG.out _ (tabs_later HT.out (HB00.out.trans (HBW.out.1.mono (by omega))))).mono ?_
              rintro e w3 ⟨rfl, hb3⟩
              have HB3 := Lib.hid (And.intro (HBW.out.1.trans (hb3.mono (Nat.le_trans HSZ0.out HBW.out.1.size))) (HBW.out.2.trans (hb3.mono HBW.out.2.size)))
              clear hb3
              go_wp2_with fail
              refine ⟨⟨i + 1, by go_num, HB3, by omega, HE⟩, ?_⟩
              show M.length - ((i : Int) + 1).toNat < M.length - (i : Int).toNat
              omega
        · have HE : Hid (chk M 0 = (0, 0)) := Lib.hid (HK.out.trans (by rw [List.drop_of_length_le (by omega)]; rfl))
          obtain ⟨HBK, d0, d1, d2, d3⟩ := HRES.out wr HBW.out.1
          go_wp2_with fail
          refine ret_at Tryd.results24 w.heap.size _ ((HBK.out.set_ 0 _).set_ 1 _) rfl rfl rfl ?_
          rw [HE.out]
          have eg : gotOf (0, 0) M = M := rfl
          rw [eg]
          have hgg : g ≠ w.heap.size := by have := hg1.out; omega
          refine ⟨_, rfl, ⟨_, c + 1, by show Value.slice (some ⟨g, 0, none⟩) c (c + 1) = Value.slice (some ⟨g, 0, none⟩) M.length (c + 1); rw [HRL.out], fun j hj => ⟨g, rfl, ?_⟩⟩, ((HB00.out.trans (HBW.out.1.mono (by omega))).setCell (Nat.le_refl _) _).setCell (Nat.le_refl _) _⟩
          have e1 : (((wr.setCell ⟨w.heap.size, 0, none⟩ (.int .i64 0)).setCell ⟨w.heap.size, 1, none⟩ (.int .i64 0)).cell? ⟨g, j, none⟩) = wr.cell? ⟨g, j, none⟩ := by
            rw [World.cell?_of_block (w := wr.setCell ⟨w.heap.size, 0, none⟩ (.int .i64 0)) (Below.heap_setCell _ _ _ _ hgg), World.cell?_of_block (w := wr) (Below.heap_setCell _ _ _ _ hgg)]
          exact e1.trans (by rw [HBW.out.2.cell hg2.out]; exact HCM.out j hj)
    · have k0 : w2.cell? ⟨g, c, none⟩ = some (.string x) := by
        rw [HC.out c (by rw [HL.out]; omega)]
        simp [HR.out, HRL.out]
      have hne : x.toList.isEmpty = false := by
        rw [ByteArray.toList_eq]
        cases hx : x.data.toList with
        | nil => exact absurd (congrArg List.length hx) h0
        | cons _ _ => rfl
      obtain rfl : M = L := HX1.out h0
      have hmc : M.length ≤ c + 1 := by rw [HL.out]; exact Nat.le_refl _
      have hcm : c + 1 ≤ M.length := by rw [HL.out]; exact Nat.le_refl _
      clear h0
      have HCM : Hid (∀ j (h : j < M.length), w2.cell? ⟨g, j, none⟩ = some (.string M[j])) := Lib.hid (fun j h => HC.out j h)
      go_wp2_with fail
      go_loopw [28] (fun p wr => ∃ i : Nat, p = .int .i64 i ∧ Hid (Below (w.heap.size + 1) W0 wr ∧ Below w2.heap.size w2 wr) ∧ i ≤ M.length ∧ Hid (chk M 0 = chk (M.drop i) i)) (fun p _ => M.length - (match p with | .int _ a => a.toNat | _ => 0))
      case atStart => exact ⟨0, rfl, Lib.hid ⟨HB0.out, Below.refl _ _⟩, Nat.zero_le _, Lib.hid rfl⟩
      case round =>
        obtain ⟨i, rfl, HBW, him, HK⟩ := hrel
        have hi63 : i < 4294967297 := by omega
        by_cases hlt : i < M.length
        · have k1 : wr.cell? ⟨g, i, none⟩ = some (.string M[i]) := by rw [HBW.out.2.cell hg2.out]; exact HCM.out i hlt
          have HD := Lib.hid (HK.out.trans (congrArg (fun z => chk z i) (List.drop_eq_getElem_cons hlt)))
          have HSM := Lib.hid (HSZ.out M[i] (List.getElem_mem hlt))
          obtain ⟨HBK, d0, d1, d2, d3⟩ := HRES.out wr HBW.out.1
          by_cases hlong : 1000 < M[i].size
          · have HE := Lib.hid (HD.out.trans (chk_long _ _ _ hlong))
            have hlong' : (1000 : Int) < M[i].size := by omega
            clear hlong
            go_wp2_with fail
            refine ret_at Tryd.results24 w.heap.size _ ((HBK.out.set_ 0 _).set_ 1 _) rfl rfl rfl ?_
            rw [HE.out]
            refine ⟨_, rfl, TextsAt.nil _, ((HB00.out.trans (HBW.out.1.mono (by omega))).setCell (Nat.le_refl _) _).setCell (Nat.le_refl _) _⟩
          · have hshort' : (M[i].size : Int) ≤ 1000 := by omega
            by_cases hbad : 0 ≤ goodZ M[i]
            · have HE := Lib.hid (HD.out.trans (chk_bad _ _ _ (by omega) hbad))
              have hbad' : decide ((0 : Int) ≤ goodZ M[i]) = true := decide_eq_true hbad
              have hG := fun W hT => Good_any M[i] W hT (by have := HSM.out; omega)
              have HG := Lib.hid hG
              clear hlong hG hbad
              go_wp2_with fail
              go_at_call 38
              refine (HG.out _ (tabs_later HT.out (HB00.out.trans (HBW.out.1.mono (by omega))))).mono ?_
              rintro e w3 ⟨rfl, hb3⟩
              have HB3 := Lib.hid (HBW.out.1.trans (hb3.mono (Nat.le_trans HSZ0.out HBW.out.1.size)))
              obtain ⟨HBK, d0, d1, d2, d3⟩ := HRES.out w3 HB3.out
              clear hb3
              go_wp2_with fail
              refine ret_at Tryd.results24 w.heap.size _ ((HBK.out.set_ 0 _).set_ 1 _) rfl rfl rfl ?_
              rw [HE.out]
              refine ⟨_, rfl, TextsAt.nil _, ((HB00.out.trans (HB3.out.mono (by omega))).setCell (Nat.le_refl _) _).setCell (Nat.le_refl _) _⟩
            · have hbad' : decide ((0 : Int) ≤ goodZ M[i]) = false := decide_eq_false hbad
              have HE : Hid (chk M 0 = chk (M.drop (i + 1)) (i + 1)) := Lib.hid (HD.out.trans (chk_next _ _ _ hlong hbad))
              have hG := fun W hT => Good_any M[i] W hT (by have := HSM.out; omega)
              have HG := Lib.hid hG
              clear hlong hG hbad
              go_wp2_with fail
              go_at_call 38
              refine (HG.out _ (tabs_later HT.out (HB00.out.trans (HBW.out.1.mono (by omega))))).mono ?_
              rintro e w3 ⟨rfl, hb3⟩
              have HB3 := Lib.hid (And.intro (HBW.out.1.trans (hb3.mono (Nat.le_trans HSZ0.out HBW.out.1.size))) (HBW.out.2.trans (hb3.mono HBW.out.2.size)))
              clear hb3
              go_wp2_with fail
              refine ⟨⟨i + 1, by go_num, HB3, by omega, HE⟩, ?_⟩
              show M.length - ((i : Int) + 1).toNat < M.length - (i : Int).toNat
              omega
        · have HE : Hid (chk M 0 = (0, 0)) := Lib.hid (HK.out.trans (by rw [List.drop_of_length_le (by omega)]; rfl))
          obtain ⟨HBK, d0, d1, d2, d3⟩ := HRES.out wr HBW.out.1
          go_wp2_with fail
          refine ret_at Tryd.results24 w.heap.size _ ((HBK.out.set_ 0 _).set_ 1 _) rfl rfl rfl ?_
          rw [HE.out]
          have eg : gotOf (0, 0) M = M := rfl
          rw [eg]
          have hgg : g ≠ w.heap.size := by have := hg1.out; omega
          refine ⟨_, rfl, ⟨_, c + 1, by show Value.slice (some ⟨g, 0, none⟩) (c + 1) (c + 1) = Value.slice (some ⟨g, 0, none⟩) M.length (c + 1); rw [HL.out], fun j hj => ⟨g, rfl, ?_⟩⟩, ((HB00.out.trans (HBW.out.1.mono (by omega))).setCell (Nat.le_refl _) _).setCell (Nat.le_refl _) _⟩
          have e1 : (((wr.setCell ⟨w.heap.size, 0, none⟩ (.int .i64 0)).setCell ⟨w.heap.size, 1, none⟩ (.int .i64 0)).cell? ⟨g, j, none⟩) = wr.cell? ⟨g, j, none⟩ := by
            rw [World.cell?_of_block (w := wr.setCell ⟨w.heap.size, 0, none⟩ (.int .i64 0)) (Below.heap_setCell _ _ _ _ hgg), World.cell?_of_block (w := wr) (Below.heap_setCell _ _ _ _ hgg)]
          exact e1.trans (by rw [HBW.out.2.cell hg2.out]; exact HCM.out j hj)
end Go.Proofs.YtjkaigfpjebfbaaDoor
