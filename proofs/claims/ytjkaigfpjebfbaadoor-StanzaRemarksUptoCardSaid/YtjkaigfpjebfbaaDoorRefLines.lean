/- chandlerref4.Lines: the walk. -/
import Derived.Test.YtjkaigfpjebfbaaDoorLines
import Derived.Test.YtjkaigfpjebfbaaDoorB4
import Derived.Laws.AppendOwn
import Derived.Deep.DeepCutAuto
namespace Go.Proofs.YtjkaigfpjebfbaaDoor
open Go.RowKit Go.Shelf Go.Lib
set_option linter.unusedVariables false

/-- As far as a place: the lines so far, and what is left. -/
def RL (s : ByteArray) (i fr : Nat) (acc : List ByteArray) : Prop := rl (bl s) [] = acc.map bl ++ rl ((bl s).drop i) (((bl s).drop fr).take (i - fr))
theorem RL.start (s : ByteArray) : RL s 0 0 [] := rfl
theorem byte_at (s : ByteArray) (i : Nat) (h : i < s.size) (b : Nat) (hb : b < 256) : (bl s)[i]'h = UInt8.ofNat b ↔ byteAt s i = b := by
  rw [← bl_get s i h]
  constructor
  · intro e
    rw [e]
    simp
    omega
  · intro e
    rw [← e]
    simp
theorem RL.ink {s : ByteArray} {i fr : Nat} {acc : List ByteArray} (h : RL s i fr acc) (hi : i < s.size) (hf : fr ≤ i) (hb : byteAt s i ≠ 10) : RL s (i + 1) fr acc := by
  unfold RL at *
  have e : ¬ (bl s)[i]'hi = 10 := fun e => hb ((byte_at s i hi 10 (by omega)).1 e)
  rw [h, List.drop_eq_getElem_cons (show i < (bl s).length from hi)]
  congr 1
  show (if (bl s)[i]'hi = 10 then _ else rl ((bl s).drop (i + 1)) (_ ++ [(bl s)[i]'hi])) = _
  rw [if_neg e]
  congr 1
  have h3 : i - fr < ((bl s).drop fr).length := by rw [List.length_drop, bl_len]; omega
  rw [show i + 1 - fr = (i - fr) + 1 by omega, List.take_succ_eq_append_getElem h3]
  congr 2
  rw [List.getElem_drop]
  congr 1
  omega
theorem RL.feed {s : ByteArray} {i fr : Nat} {acc : List ByteArray} (h : RL s i fr acc) (hi : i < s.size) (hf : fr ≤ i) (hb : byteAt s i = 10) : RL s (i + 1) (i + 1) (acc ++ [s.extract fr i]) := by
  unfold RL at *
  have e : (bl s)[i]'hi = 10 := (byte_at s i hi 10 (by omega)).2 hb
  rw [h, List.drop_eq_getElem_cons (show i < (bl s).length from hi), List.map_append, List.append_assoc]
  congr 1
  show (if (bl s)[i]'hi = 10 then _ :: rl ((bl s).drop (i + 1)) [] else _) = [bl (s.extract fr i)] ++ _
  rw [if_pos e, bl_part, show i + 1 - (i + 1) = 0 by omega, List.take_zero]
  rfl
theorem RL.stay {s : ByteArray} {i fr : Nat} {acc : List ByteArray} (h : RL s i fr acc) (hi : i = s.size) (hf : fr = i) : RL s (i + 1) fr acc := by
  unfold RL at *
  have e1 : (bl s).drop fr = [] := List.drop_of_length_le (by rw [bl_len]; omega)
  have e2 : (bl s).drop (i + 1) = [] := List.drop_of_length_le (by rw [bl_len]; omega)
  have e3 : (bl s).drop i = [] := List.drop_of_length_le (by rw [bl_len]; omega)
  rw [h, e1, e2, e3]
  simp
theorem RL.last {s : ByteArray} {i fr : Nat} {acc : List ByteArray} (h : RL s i fr acc) (hi : i = s.size) (hf : fr < i) : RL s (i + 1) (i + 1) (acc ++ [s.extract fr i]) := by
  unfold RL at *
  have e2 : (bl s).drop (i + 1) = [] := List.drop_of_length_le (by rw [bl_len]; omega)
  have e3 : (bl s).drop i = [] := List.drop_of_length_le (by rw [bl_len]; omega)
  have e4 : ((bl s).drop fr).take (i - fr) ≠ [] := by
    intro e
    have := congrArg List.length e
    rw [List.length_take, List.length_drop, bl_len] at this
    simp at this
    omega
  rw [h, e2, e3, List.map_append, List.append_assoc]
  congr 1
  show (if _ = [] then [] else [_]) = _
  rw [if_neg e4, ← bl_part]
  simp [rl]
theorem RL.done {s : ByteArray} {i fr : Nat} {acc : List ByteArray} (h : RL s i fr acc) (hi : s.size ≤ i) (hf : s.size ≤ fr) : linesOf s = acc := by
  unfold RL at h
  have e1 : (bl s).drop fr = [] := List.drop_of_length_le (by rw [bl_len]; omega)
  have e2 : (bl s).drop i = [] := List.drop_of_length_le (by rw [bl_len]; omega)
  rw [e1, e2] at h
  unfold linesOf
  rw [h]
  simp [rl]
  have := map_ofL_bl acc
  rwa [List.map_map] at this
theorem RL.line {s y : ByteArray} {i fr : Nat} {acc : List ByteArray} (h : RL s i fr (acc ++ [y])) : ∃ r, linesOf s = acc ++ y :: r := by
  unfold RL at h
  refine ⟨(rl ((bl s).drop i) (((bl s).drop fr).take (i - fr))).map ofL, ?_⟩
  unfold linesOf
  rw [h, List.map_append, map_ofL_bl, List.append_assoc]
  rfl
theorem part_string (bs : List Nat) (fr i : Nat) : toS ((bs.drop fr).take (i - fr)) = (toS bs).extract fr i := by
  apply bl_inj
  rw [bl_part]
  unfold toS bl
  simp [List.map_drop, List.map_take]
theorem toS_byte (bs : List Nat) (i : Nat) (h : i < bs.length) (hb : bs.getD i 0 < 256) : byteAt (toS bs) i = bs.getD i 0 := by
  have h' : i < (toS bs).size := by rw [toS_size]; exact h
  rw [← byte_at (toS bs) i h' _ hb]
  unfold bl toS
  simp [List.getD_eq_getElem?_getD, h]
  exact List.getElem_map ..
theorem row_shape {w : World} {k e size n : Nat} {v : Value} {xs : List Value} (h : w.ownsRow k e size v n xs) : ∃ ao cap, v = .slice ao n cap := by
  rcases h.2 with ⟨rfl, hn⟩ | ⟨g, cap, cur, rfl, _⟩
  · exact ⟨none, 0, by rw [hn]⟩
  · exact ⟨_, _, rfl⟩
def texts (acc : List ByteArray) : List Value := acc.map Value.string
theorem texts_snoc (acc : List ByteArray) (y : ByteArray) : texts (acc ++ [y]) = texts acc ++ [Value.string y] := by simp [texts]
theorem Bytes.part {w : World} {A : Option Addr} {n : Nat} {bs : List Nat} {b o : Nat} (h : Bytes w A n bs) (hA : A = some ⟨b, o, none⟩) (fr i : Nat) (hf : fr ≤ i) (hi : i ≤ n) : Bytes w (some ⟨b, o + fr, none⟩) (i - fr) ((bs.drop fr).take (i - fr)) := by
  refine ⟨by rw [List.length_take, List.length_drop, h.1]; omega, fun x hx => h.2.1 x (List.mem_of_mem_drop (List.mem_of_mem_take hx)), fun h0 => ?_⟩
  obtain ⟨b', o', e, hl, hc⟩ := h.2.2 (by omega)
  rw [hA] at e
  obtain ⟨rfl, rfl⟩ : b = b' ∧ o = o' := by simpa using e
  refine ⟨b, o + fr, rfl, hl, fun k hk => ?_⟩
  rw [Nat.add_assoc, hc (fr + k) (by omega)]
  congr 3
  rw [List.getD_eq_getElem?_getD, List.getD_eq_getElem?_getD, List.getElem?_take, if_pos hk, List.getElem?_drop]

set_option maxRecDepth 100000 in
set_option maxHeartbeats 2000000 in
theorem RefLines_any (A : Option Addr) (n cp : Nat) (bs : List Nat) (w : World) (hb : Bytes w A n bs) (hcp : n ≤ cp) (hn : n < 4294967281) :
    Calls Tryd.prog 26 #[.slice A n cp] w fun e w' =>
      ∃ v, e = .returned (.tuple #[v, .agg #[.int .i64 ((linesErr (toS bs)).1 : Int), .int .i64 ((linesErr (toS bs)).2 : Int)]]) ∧ TextsAt w' v (linesGot (toS bs)) ∧ Below w.heap.size w w' := by
  have hinfo : (Tryd.prog.info? 9).map (fun i => (i.zero, i.size, i.bytes)) = some (some (.string ⟨#[]⟩), 1, 16) := by kernel_rfl
  obtain ⟨i0, hi, hz0, hz1, hz2⟩ := info_parts hinfo
  have hz := toS_size bs
  have hl := hb.1
  by_cases hbig : 65536 < n
  · obtain ⟨e1, e2⟩ := big_err (s := toS bs) (by omega)
    rw [e1, e2]
    have hbig' : (65536 : Int) < n := by omega
    clear e1 e2 hz hb hl
    go_enter Tryd.func26, Tryd.ntmps26
    go_wp2_with fail
    exact bodyPost_ret (v := .tuple #[.slice none 0 0, .agg #[.int .i64 2, .int .i64 0]]) (by simp [results, Tryd.results26, go_sem]) rfl ⟨_, rfl, TextsAt.nil _, (Below.refl _ _).alloc (Nat.le_refl _) _⟩
  · have hsm : (n : Int) ≤ 65536 := by omega
    have hcv := fun b o (hA : A = some ⟨b, o, none⟩) fr i (hf : fr ≤ i) (hin : i ≤ n) cp W (hW : Below w.heap.size w W) => by
      have := run_string (some ⟨b, o + fr, none⟩) (i - fr) cp _ W ((hb.part hA fr i hf hin).below hW)
      rwa [part_string] at this
    have hbyte := fun i (h : i < n) => toS_byte bs i (by omega) (hb.lt i)
    have e0 : linesErr (toS bs) = chk (linesOf (toS bs)) 0 := by unfold linesErr; rw [if_neg (by omega)]
    have hgot : linesGot (toS bs) = gotOf (linesErr (toS bs)) (linesOf (toS bs)) := rfl
    rw [e0] at hgot
    rw [e0, hgot]
    obtain ⟨s, hs⟩ : ∃ s, s = toS bs := ⟨_, rfl⟩
    simp only [← hs] at hz hcv hbyte ⊢
    have hsn : s.size = n := by omega
    have HSN := Lib.hid hsn
    have HCV := Lib.hid hcv
    have HBY := Lib.hid hbyte
    have HBT := Lib.hid hb
    clear hs e0 hgot hcv hbyte hb hl hz hsn
    obtain ⟨W0, hW0⟩ : ∃ W0, W0 = w.alloc (Obj.cells #[Value.int IntKind.i64 0, Value.int IntKind.i64 0] 26) := ⟨_, rfl⟩
    have HB00 : Hid (Below w.heap.size w W0) := Lib.hid (by
      rw [hW0]
      exact (Below.refl _ _).alloc (Nat.le_refl _) _)
    have hres : ∀ W, Below (w.heap.size + 1) W0 W → Hid (Blk W w.heap.size 26 #[Value.int IntKind.i64 0, Value.int IntKind.i64 0]) ∧ W.cell? ⟨w.heap.size, 0, none⟩ = some (.int .i64 0) ∧ W.cell? ⟨w.heap.size, 1, none⟩ = some (.int .i64 0) ∧ W.frozen? ⟨w.heap.size, 0, none⟩ = false ∧ W.frozen? ⟨w.heap.size, 1, none⟩ = false := fun W hW => by
      rw [hW.cell (by simp), hW.cell (by simp), hW.frozen (by simp), hW.frozen (by simp), hW0]
      exact ⟨Lib.hid (by have h9 := hW.block w.heap.size (by omega); rw [hW0] at h9; exact h9.trans (Blk.new w _ _)), by rw [World.cell?_alloc_new]; rfl, by rw [World.cell?_alloc_new]; rfl, by simp, by simp⟩
    have HRES := Lib.hid hres
    have HSZ0 : Hid (w.heap.size + 1 ≤ W0.heap.size) := Lib.hid (by rw [hW0]; simp)
    clear hres hinfo
    go_enter Tryd.func26, Tryd.ntmps26
    go_wp2_with fail
    rw [← hW0]
    clear hW0
    go_loopw [4, 5, 6] (fun v f p wr => ∃ (i fr : Nat) (acc : List ByteArray), p = .int .i64 i ∧ f = .int .i64 fr ∧ Hid (wr.ownsRow (w.heap.size + 1) 9 1 v acc.length (texts acc)) ∧ Hid (RL s i fr acc) ∧ Hid (∀ x ∈ acc, x.size ≤ 1000 ∧ goodZ x < 0) ∧ Hid (Below (w.heap.size + 1) W0 wr) ∧ acc.length ≤ i ∧ i ≤ n + 1 ∧ (i ≤ n → fr ≤ i) ∧ (i = n + 1 → n ≤ fr)) (fun _ _ p _ => n + 1 - (match p with | .int _ a => a.toNat | _ => 0))
    case atStart => exact ⟨0, 0, [], rfl, rfl, Lib.hid (World.ownsRow_nil _ _ _ _), Lib.hid (RL.start s), Lib.hid (fun x h => by cases h), Lib.hid (Below.refl _ _), Nat.le_refl _, by omega, fun _ => Nat.le_refl _, fun h => by omega⟩
    case round =>
      obtain ⟨i, fr, acc, rfl, rfl, HOWN, HRL, HF, HB, hal, hin, hfi, hfe⟩ := hrel
      have hi63 : i < 4294967297 := by omega
      obtain ⟨wo, rfl⟩ : ∃ wo : World, wo = wr := ⟨_, rfl⟩
      obtain ⟨HBK, d0, d1, d2, d3⟩ := HRES.out _ HB.out
      have HBW := Lib.hid (HB00.out.trans (HB.out.mono (by omega)))
      by_cases hlt : i < n
      · obtain ⟨b, o, rfl, hbl, hcell⟩ := HBT.out.2.2 (by omega)
        have k1 : wo.cell? ⟨b, o + i, none⟩ = some (.int .u8 ((bs.getD i 0 : Nat) : Int)) := by rw [HBW.out.cell hbl]; exact hcell i hlt
        have HBI := Lib.hid (HBY.out i hlt)
        have hfr := hfi (by omega)
        obtain ⟨q, hq⟩ : ∃ q, q = bs.getD i 0 := ⟨_, rfl⟩
        rw [← hq] at k1 HBI
        clear hq hcell hfi hfe
        by_cases h10 : q = 10
        · have q1 : ((q : Int) == 10) = true := beq_iff_eq.2 (by omega)
          have q2 : ((q : Int) != 10) = false := by simp only [bne, q1, Bool.not_true]
          have HNX := Lib.hid (HRL.out.feed (by rw [HSN.out]; exact hlt) hfr (HBI.out.trans h10))
          clear h10
          have hcv := HCV.out b o rfl fr i hfr (by omega) (cp - fr) wo HBW.out
          have HYS : Hid ((s.extract fr i).size = i - fr) := Lib.hid (by rw [ByteArray.size_extract, HSN.out]; omega)
          have hys : (s.extract fr i).size ≤ i := by rw [HYS.out]; omega
          obtain ⟨y, hy⟩ : ∃ y, y = s.extract fr i := ⟨_, rfl⟩
          rw [← hy] at hcv HNX HYS hys
          obtain ⟨rest, hrest⟩ := HNX.out.line
          have HCH : Hid (chk (linesOf s) 0 = chk (y :: rest) acc.length) := Lib.hid (by rw [hrest, chk_app _ _ _ HF.out, Nat.zero_add])
          have hown := HOWN.out
          have hsz1 : w.heap.size + 1 ≤ wo.heap.size := Nat.le_trans HSZ0.out HB.out.size
          clear hy hrest
          by_cases hlong : 1000 < y.size
          · have HE := Lib.hid (HCH.out.trans (chk_long _ _ _ hlong))
            have hlong' : (1000 : Int) < y.size := by omega
            clear hlong
            go_wp2_with (at_builtin; refine wpList_append_own _ rfl (.tmp 47) (.tmp 49) 38 rfl (w.heap.size + 1) 9 i0 (.string ⟨#[]⟩) 1 16 Tryd.underlying38 hi hz0 hz1 hz2 rfl (by decide) _ _ _ rfl (hown.alloc _) ⟨wo.heap.size, 0, none⟩ 1 1 [.string y] rfl rfl (cell_one_new _ _ _) (fun x hx => by simp at hx; subst hx; rfl) (by unfold maxLen; omega) (by omega) (by simp; omega) ?_; intro v' w3 hown' hgrow3 hnil3; obtain ⟨ao', cp', rfl⟩ := row_shape hown'; have HB3 : Hid (Below (w.heap.size + 1) W0 w3) := Lib.hid ((HB.out.alloc hsz1 _).grown hgrow3 (by simp; omega) (fun q hq => (hown.lt q hq).1)); obtain ⟨HBK, d0, d1, d2, d3⟩ := HRES.out _ HB3.out)
            refine ret_at Tryd.results26 w.heap.size _ ((HBK.out.set_ 0 _).set_ 1 _) rfl rfl rfl ?_
            rw [HE.out]
            refine ⟨_, rfl, TextsAt.nil _, ((HB00.out.trans (HB3.out.mono (by omega))).setCell (Nat.le_refl _) _).setCell (Nat.le_refl _) _⟩
          · have hshort' : (y.size : Int) ≤ 1000 := by omega
            by_cases hbad : 0 ≤ goodZ y
            · have HE := Lib.hid (HCH.out.trans (chk_bad _ _ _ (by omega) hbad))
              have hbad' : decide ((0 : Int) ≤ goodZ y) = true := decide_eq_true hbad
              have HG := Lib.hid (fun W => RefGood_any y W (by omega))
              clear hlong hbad
              go_wp2_with (at_builtin; refine wpList_append_own _ rfl (.tmp 47) (.tmp 49) 38 rfl (w.heap.size + 1) 9 i0 (.string ⟨#[]⟩) 1 16 Tryd.underlying38 hi hz0 hz1 hz2 rfl (by decide) _ _ _ rfl (hown.alloc _) ⟨wo.heap.size, 0, none⟩ 1 1 [.string y] rfl rfl (cell_one_new _ _ _) (fun x hx => by simp at hx; subst hx; rfl) (by unfold maxLen; omega) (by omega) (by simp; omega) ?_; intro v' w3 hown' hgrow3 hnil3; obtain ⟨ao', cp', rfl⟩ := row_shape hown')
              have HB3 : Hid (Below (w.heap.size + 1) W0 w3) := Lib.hid ((HB.out.alloc hsz1 _).grown hgrow3 (by simp; omega) (fun q hq => (hown.lt q hq).1))
              go_wp2_with fail
              go_at_call 43
              refine (HG.out _).mono ?_
              rintro e w4 ⟨rfl, rfl⟩
              obtain ⟨HBK, d0, d1, d2, d3⟩ := HRES.out _ HB3.out
              go_wp2_with fail
              refine ret_at Tryd.results26 w.heap.size _ ((HBK.out.set_ 0 _).set_ 1 _) rfl rfl rfl ?_
              rw [HE.out]
              refine ⟨_, rfl, TextsAt.nil _, ((HB00.out.trans (HB3.out.mono (by omega))).setCell (Nat.le_refl _) _).setCell (Nat.le_refl _) _⟩
            · have hbad' : decide ((0 : Int) ≤ goodZ y) = false := decide_eq_false hbad
              have HF2 : Hid (∀ x ∈ acc ++ [y], x.size ≤ 1000 ∧ goodZ x < 0) := Lib.hid (fun x hx => by
                rcases List.mem_append.1 hx with hx | hx
                · exact HF.out x hx
                · rw [List.mem_singleton.1 hx]; omega)
              have HG := Lib.hid (fun W => RefGood_any y W (by omega))
              clear hlong hbad
              go_wp2_with (at_builtin; refine wpList_append_own _ rfl (.tmp 47) (.tmp 49) 38 rfl (w.heap.size + 1) 9 i0 (.string ⟨#[]⟩) 1 16 Tryd.underlying38 hi hz0 hz1 hz2 rfl (by decide) _ _ _ rfl (hown.alloc _) ⟨wo.heap.size, 0, none⟩ 1 1 [.string y] rfl rfl (cell_one_new _ _ _) (fun x hx => by simp at hx; subst hx; rfl) (by unfold maxLen; omega) (by omega) (by simp; omega) ?_; intro v' w3 hown' hgrow3 hnil3; obtain ⟨ao', cp', rfl⟩ := row_shape hown')
              have HB3 : Hid (Below (w.heap.size + 1) W0 w3) := Lib.hid ((HB.out.alloc hsz1 _).grown hgrow3 (by simp; omega) (fun q hq => (hown.lt q hq).1))
              have HOWN3 : Hid (w3.ownsRow (w.heap.size + 1) 9 1 (.slice ao' (acc.length + 1) cp') (acc ++ [y]).length (texts (acc ++ [y]))) := Lib.hid (by rw [texts_snoc, List.length_append]; exact hown')
              clear hown' hgrow3 hnil3
              go_wp2_with fail
              go_at_call 43
              refine (HG.out _).mono ?_
              rintro e w4 ⟨rfl, rfl⟩
              go_wp2_with fail
              refine ⟨⟨i + 1, i + 1, acc ++ [y], by go_num, by go_num, HOWN3, HNX, HF2, HB3, by rw [List.length_append]; show acc.length + 1 ≤ _; omega, by omega, fun _ => Nat.le_refl _, fun _ => by omega⟩, ?_⟩
              show n + 1 - ((i : Int) + 1).toNat < n + 1 - (i : Int).toNat
              omega
        · have q1 : ((q : Int) == 10) = false := beq_eq_false_iff_ne.2 (by omega)
          have q2 : ((q : Int) != 10) = true := by simp only [bne, q1, Bool.not_false]
          have HNX := Lib.hid (HRL.out.ink (by rw [HSN.out]; exact hlt) hfr (by rw [HBI.out]; exact h10))
          clear h10
          go_wp2
          refine ⟨⟨i + 1, fr, acc, by go_num, rfl, HOWN, HNX, HF, HB, by omega, by omega, fun _ => by omega, fun h => by omega⟩, ?_⟩
          show n + 1 - ((i : Int) + 1).toNat < n + 1 - (i : Int).toNat
          omega
      · by_cases hend : i = n
        · subst hend
          by_cases hfr : fr = i
          · subst hfr
            have HNX := Lib.hid (HRL.out.stay (by rw [HSN.out]) rfl)
            go_wp2
            refine ⟨⟨_, _, acc, by go_num, rfl, HOWN, HNX, HF, HB, by omega, by omega, fun h => by omega, fun _ => by omega⟩, ?_⟩
            show fr + 1 - ((fr : Int) + 1).toNat < fr + 1 - (fr : Int).toNat
            omega
          · have hfl : fr < i := by have := hfi (Nat.le_refl _); omega
            have q1 : ((fr : Int) == (i : Int)) = false := beq_eq_false_iff_ne.2 (by omega)
            have HNX := Lib.hid (HRL.out.last (by rw [HSN.out]) hfl)
            obtain ⟨b, o, rfl, hbl, hcell⟩ := HBT.out.2.2 (by omega)
            clear hcell hfr hfi hfe
            have hfr : fr ≤ i := by omega
            have hcv := HCV.out b o rfl fr i hfr (by omega) (cp - fr) wo HBW.out
            have HYS : Hid ((s.extract fr i).size = i - fr) := Lib.hid (by rw [ByteArray.size_extract, HSN.out]; omega)
            have hys : (s.extract fr i).size ≤ i := by rw [HYS.out]; omega
            obtain ⟨y, hy⟩ : ∃ y, y = s.extract fr i := ⟨_, rfl⟩
            rw [← hy] at hcv HNX HYS hys
            obtain ⟨rest, hrest⟩ := HNX.out.line
            have HCH : Hid (chk (linesOf s) 0 = chk (y :: rest) acc.length) := Lib.hid (by rw [hrest, chk_app _ _ _ HF.out, Nat.zero_add])
            have hown := HOWN.out
            have hsz1 : w.heap.size + 1 ≤ wo.heap.size := Nat.le_trans HSZ0.out HB.out.size
            clear hy hrest
            by_cases hlong : 1000 < y.size
            · have HE := Lib.hid (HCH.out.trans (chk_long _ _ _ hlong))
              have hlong' : (1000 : Int) < y.size := by omega
              clear hlong
              go_wp2_with (at_builtin; refine wpList_append_own _ rfl (.tmp 47) (.tmp 49) 38 rfl (w.heap.size + 1) 9 i0 (.string ⟨#[]⟩) 1 16 Tryd.underlying38 hi hz0 hz1 hz2 rfl (by decide) _ _ _ rfl (hown.alloc _) ⟨wo.heap.size, 0, none⟩ 1 1 [.string y] rfl rfl (cell_one_new _ _ _) (fun x hx => by simp at hx; subst hx; rfl) (by unfold maxLen; omega) (by omega) (by simp; omega) ?_; intro v' w3 hown' hgrow3 hnil3; obtain ⟨ao', cp', rfl⟩ := row_shape hown'; have HB3 : Hid (Below (w.heap.size + 1) W0 w3) := Lib.hid ((HB.out.alloc hsz1 _).grown hgrow3 (by simp; omega) (fun q hq => (hown.lt q hq).1)); obtain ⟨HBK, d0, d1, d2, d3⟩ := HRES.out _ HB3.out)
              refine ret_at Tryd.results26 w.heap.size _ ((HBK.out.set_ 0 _).set_ 1 _) rfl rfl rfl ?_
              rw [HE.out]
              refine ⟨_, rfl, TextsAt.nil _, ((HB00.out.trans (HB3.out.mono (by omega))).setCell (Nat.le_refl _) _).setCell (Nat.le_refl _) _⟩
            · have hshort' : (y.size : Int) ≤ 1000 := by omega
              by_cases hbad : 0 ≤ goodZ y
              · have HE := Lib.hid (HCH.out.trans (chk_bad _ _ _ (by omega) hbad))
                have hbad' : decide ((0 : Int) ≤ goodZ y) = true := decide_eq_true hbad
                have HG := Lib.hid (fun W => RefGood_any y W (by omega))
                clear hlong hbad
                go_wp2_with (at_builtin; refine wpList_append_own _ rfl (.tmp 47) (.tmp 49) 38 rfl (w.heap.size + 1) 9 i0 (.string ⟨#[]⟩) 1 16 Tryd.underlying38 hi hz0 hz1 hz2 rfl (by decide) _ _ _ rfl (hown.alloc _) ⟨wo.heap.size, 0, none⟩ 1 1 [.string y] rfl rfl (cell_one_new _ _ _) (fun x hx => by simp at hx; subst hx; rfl) (by unfold maxLen; omega) (by omega) (by simp; omega) ?_; intro v' w3 hown' hgrow3 hnil3; obtain ⟨ao', cp', rfl⟩ := row_shape hown')
                have HB3 : Hid (Below (w.heap.size + 1) W0 w3) := Lib.hid ((HB.out.alloc hsz1 _).grown hgrow3 (by simp; omega) (fun q hq => (hown.lt q hq).1))
                go_wp2_with fail
                go_at_call 43
                refine (HG.out _).mono ?_
                rintro e w4 ⟨rfl, rfl⟩
                obtain ⟨HBK, d0, d1, d2, d3⟩ := HRES.out _ HB3.out
                go_wp2_with fail
                refine ret_at Tryd.results26 w.heap.size _ ((HBK.out.set_ 0 _).set_ 1 _) rfl rfl rfl ?_
                rw [HE.out]
                refine ⟨_, rfl, TextsAt.nil _, ((HB00.out.trans (HB3.out.mono (by omega))).setCell (Nat.le_refl _) _).setCell (Nat.le_refl _) _⟩
              · have hbad' : decide ((0 : Int) ≤ goodZ y) = false := decide_eq_false hbad
                have HF2 : Hid (∀ x ∈ acc ++ [y], x.size ≤ 1000 ∧ goodZ x < 0) := Lib.hid (fun x hx => by
                  rcases List.mem_append.1 hx with hx | hx
                  · exact HF.out x hx
                  · rw [List.mem_singleton.1 hx]; omega)
                have HG := Lib.hid (fun W => RefGood_any y W (by omega))
                clear hlong hbad
                go_wp2_with (at_builtin; refine wpList_append_own _ rfl (.tmp 47) (.tmp 49) 38 rfl (w.heap.size + 1) 9 i0 (.string ⟨#[]⟩) 1 16 Tryd.underlying38 hi hz0 hz1 hz2 rfl (by decide) _ _ _ rfl (hown.alloc _) ⟨wo.heap.size, 0, none⟩ 1 1 [.string y] rfl rfl (cell_one_new _ _ _) (fun x hx => by simp at hx; subst hx; rfl) (by unfold maxLen; omega) (by omega) (by simp; omega) ?_; intro v' w3 hown' hgrow3 hnil3; obtain ⟨ao', cp', rfl⟩ := row_shape hown')
                have HB3 : Hid (Below (w.heap.size + 1) W0 w3) := Lib.hid ((HB.out.alloc hsz1 _).grown hgrow3 (by simp; omega) (fun q hq => (hown.lt q hq).1))
                have HOWN3 : Hid (w3.ownsRow (w.heap.size + 1) 9 1 (.slice ao' (acc.length + 1) cp') (acc ++ [y]).length (texts (acc ++ [y]))) := Lib.hid (by rw [texts_snoc, List.length_append]; exact hown')
                clear hown' hgrow3 hnil3
                go_wp2_with fail
                go_at_call 43
                refine (HG.out _).mono ?_
                rintro e w4 ⟨rfl, rfl⟩
                go_wp2_with fail
                refine ⟨⟨i + 1, i + 1, acc ++ [y], by go_num, by go_num, HOWN3, HNX, HF2, HB3, by rw [List.length_append]; show acc.length + 1 ≤ _; omega, by omega, fun _ => Nat.le_refl _, fun _ => by omega⟩, ?_⟩
                show i + 1 - ((i : Int) + 1).toNat < i + 1 - (i : Int).toNat
                omega
        · have HE := Lib.hid (HRL.out.done (by rw [HSN.out]; omega) (by rw [HSN.out]; exact hfe (by omega)))
          have hgt : (n : Int) < i := by omega
          have HE2 : Hid (chk (linesOf s) 0 = (0, 0)) := Lib.hid (by rw [HE.out]; exact chk_ok _ HF.out 0)
          clear hend
          go_wp2_with fail
          refine ret_at Tryd.results26 w.heap.size _ ((HBK.out.set_ 0 _).set_ 1 _) rfl rfl rfl ?_
          rw [HE2.out]
          have eg : gotOf (0, 0) (linesOf s) = acc := HE.out
          rw [eg]
          refine ⟨_, rfl, ?_, (HBW.out.setCell (Nat.le_refl _) _).setCell (Nat.le_refl _) _⟩
          obtain ⟨ao, cap, ev, hcs⟩ := TextsAt.of HOWN.out
          refine ⟨ao, cap, ev, fun j hj => ?_⟩
          obtain ⟨g, eg2, hcl⟩ := hcs j hj
          have hgg : g ≠ w.heap.size := by
            have := (HOWN.out.lt g (by rw [ev, eg2]; rfl)).1
            omega
          refine ⟨g, eg2, ?_⟩
          rw [World.cell?_of_block (w := wo.setCell ⟨w.heap.size, 0, none⟩ (.int .i64 0)) (Below.heap_setCell _ _ _ _ hgg), World.cell?_of_block (w := wo) (Below.heap_setCell _ _ _ _ hgg)]
          exact hcl
end Go.Proofs.YtjkaigfpjebfbaaDoor
