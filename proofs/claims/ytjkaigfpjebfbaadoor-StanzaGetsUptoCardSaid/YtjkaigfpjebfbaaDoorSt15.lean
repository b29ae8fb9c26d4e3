/- stanza.Get, stanza.Same over worlds. -/
import Derived.Test.YtjkaigfpjebfbaaDoorSt14
namespace Go.Proofs.YtjkaigfpjebfbaaDoor
open Go.RowKit
set_option linter.unusedVariables false

/-- The first field of a name, its lines as one. -/
def gotF (l : List Fd) (nm : ByteArray) : ByteArray × Bool := match l.find? (fun f => sameN f.n nm) with
  | some f => (foldB f.ls, true)
  | none => (⟨#[]⟩, false)
theorem gotF_no {l : List Fd} {nm : ByteArray} (h : ∀ j (hj : j < l.length), sameN l[j].n nm = false) : gotF l nm = (⟨#[]⟩, false) := by
  have e : l.find? (fun f => sameN f.n nm) = none := by
    rw [List.find?_eq_none]
    intro f hf
    obtain ⟨j, hj, rfl⟩ := List.mem_iff_getElem.1 hf
    rw [h j hj]
    simp
  unfold gotF
  rw [e]
theorem gotF_yes {l : List Fd} {nm : ByteArray} {i : Nat} (hi : i < l.length) (h : ∀ j (hj : j < l.length), j < i → sameN l[j].n nm = false) (hy : sameN l[i].n nm = true) : gotF l nm = (foldB l[i].ls, true) := by
  have e : l.find? (fun f => sameN f.n nm) = some l[i] := by
    rw [List.find?_eq_some_iff_getElem]
    exact ⟨hy, i, hi, rfl, fun j hj => by simp [h j (by omega) hj]⟩
  unfold gotF
  rw [e]
set_option maxRecDepth 100000 in
set_option maxHeartbeats 4000000 in
theorem Get_any (G : Nat → Prop) (ln : Int) (A : Option Addr) (n c : Nat) (fx : List Value) (l : List Fd) (nm : ByteArray) (w : World) (hr : RowG w G 2 A n fx) (hf : FV w G fx l) (hn : n = l.length) (hN : n ≤ 1048576) (hs : ∀ f ∈ l, f.n.size ≤ 1048576 ∧ lsum f.ls ≤ 1073741824) (hm : nm.size ≤ 1048576)
    (hT : Lib.Utf8Tabs 0 1 w) :
    Calls Tryd.prog 16 #[.agg #[.int .i64 ln, .slice A n c], .string nm] w fun e w' => e = .returned (.tuple #[.string (gotF l nm).1, .bool (gotF l nm).2]) ∧ Below w.heap.size w w' := by
  obtain ⟨R, hR⟩ : ∃ R, R = gotF l nm := ⟨_, rfl⟩
  rw [← hR]
  have HNO : Hid ((∀ j (hj : j < l.length), sameN l[j].n nm = false) → R = (⟨#[]⟩, false)) := Lib.hid (fun h => by rw [hR]; exact gotF_no h)
  have HYES : Hid (∀ i (hi : i < l.length), (∀ j (hj : j < l.length), j < i → sameN l[j].n nm = false) → sameN l[i].n nm = true → R = (foldB l[i].ls, true)) := Lib.hid (fun i hi h hy => by rw [hR]; exact gotF_yes hi h hy)
  have HSM : Hid (∀ (x : ByteArray) (W : World), x.size ≤ 1048576 → Calls Tryd.prog 20 #[.string x, .string nm] W fun e w' => e = .returned (.bool (sameN x nm)) ∧ Below W.heap.size W w') := Lib.hid (fun x W h => SSame_any x nm W (by omega) (by omega))
  have HR := Lib.hid hr
  have HF := Lib.hid hf
  have HN := Lib.hid hn
  have HS := Lib.hid hs
  have HT := Lib.hid hT
  clear hR hr hf hn hs hm hT
  go_enter Tryd.func16, Tryd.ntmps16
  go_wp2_with fail
  go_loopw [11] (fun t wr => ∃ i : Nat, t = .int .i64 (i : Int) ∧ i ≤ n ∧ Hid (∀ j (hj : j < l.length), j < i → sameN l[j].n nm = false) ∧ Hid (Below w.heap.size w wr)) (fun t _ => n - (match t with | .int _ x => x.toNat | _ => 0))
  case atStart => exact ⟨0, rfl, Nat.zero_le _, Lib.hid (fun j _ hj => by omega), Lib.hid ((Below.refl _ _).alloc (Nat.le_refl _) _)⟩
  case round =>
    obtain ⟨i, rfl, hi, HI, HB⟩ := hrel
    by_cases hlt : i < n
    case neg =>
      have hln : ¬ (i : Int) < (n : Int) := by omega
      have HE := Lib.hid (HNO.out (fun j hj => HI.out j hj (by have := HN.out; omega)))
      go_wp2_with fail
      exact bodyPost_ret (v := .tuple #[.string ⟨#[]⟩, .bool false]) (by simp [results, Tryd.results16, go_sem]) rfl ⟨by rw [HE.out], HB.out⟩
    have hln : (i : Int) < (n : Int) := by omega
    have hil : i < l.length := by have := HN.out; omega
    obtain ⟨g, o, rfl, hcg⟩ := HR.out.cells (by omega)
    obtain ⟨e1, lv, e2, lA, lc, rfl, hlc, lr⟩ := HF.out.at_ i hil
    have hs := HS.out _ (List.getElem_mem hil)
    have HLV : Hid (LV w G (.slice lA l[i].ls.length lc) l[i].ls) := Lib.hid ⟨lA, lc, rfl, hlc, lr⟩
    obtain ⟨ls, hls⟩ : ∃ ls, ls = l[i].ls := ⟨_, rfl⟩
    rw [← hls] at e2 HLV hs
    obtain ⟨lk, hlk⟩ : ∃ lk, lk = ls.length := ⟨_, rfl⟩
    rw [← hlk] at e2 HLV
    have k1 : wr.cell? ⟨g, o + i * 2, none⟩ = some (.string l[i].n) := hcg wr HB.out _ _ e1
    have k2 : wr.cell? ⟨g, o + i * 2 + 1, none⟩ = some (.slice lA lk lc) := hcg wr HB.out _ _ e2
    obtain ⟨x, hx⟩ : ∃ x, x = l[i].n := ⟨_, rfl⟩
    rw [← hx] at k1 hs
    have HX := Lib.hid hx
    have HLS := Lib.hid hls
    obtain ⟨bs, hbs⟩ : ∃ bs, bs = sameN x nm := ⟨_, rfl⟩
    have hsm := fun W => HSM.out x W hs.1
    rw [← hbs] at hsm
    have HSX := Lib.hid hsm
    have HBS := Lib.hid hbs
    have hs2 := Lib.hid hs.2
    clear e1 e2 hcg hx hbs hsm hlk hlc lr hls hs
    go_upto_region 4 with fail
    obtain ⟨b, hb⟩ : ∃ b, b = wr.heap.size := ⟨_, rfl⟩
    obtain ⟨w1, hw1⟩ : ∃ w1, w1 = wr.alloc (.cells #[.string x, .slice lA lk lc] 40) := ⟨_, rfl⟩
    have HBK : Hid (Blk w1 b 40 #[.string x, .slice lA lk lc]) := Lib.hid (by rw [hw1, hb]; exact Blk.new wr _ _)
    have kb : w1.cell? ⟨b, 0, none⟩ = some (.string x) := HBK.out.cell 0
    have HB1 : Hid (Below w.heap.size w w1) := Lib.hid (by rw [hw1]; exact HB.out.alloc HB.out.size _)
    rw [← hw1, ← hb]
    clear hw1 hb k1 k2 HB
    cases bs with
    | false =>
      have HI2 : Hid (∀ j (hj : j < l.length), j < i + 1 → sameN l[j].n nm = false) := Lib.hid (fun j hj h => by
        by_cases e : j = i
        · subst e; rw [← HX.out, ← HBS.out]
        · exact HI.out j hj (by omega))
      go_wp2_with (go_at_call 20; refine (HSX.out _).mono ?_; rintro e w2 ⟨rfl, hb2⟩)
      refine ⟨⟨i + 1, by go_num, by omega, HI2, Lib.hid (HB1.out.trans (hb2.mono HB1.out.size))⟩, ?_⟩
      show n - ((i : Int) + 1).toNat < n - (i : Int).toNat
      omega
    | true =>
      have HE : Hid (R = (foldB ls, true)) := Lib.hid (by rw [HYES.out i hil HI.out (by rw [← HX.out, ← HBS.out]), HLS.out])
      go_upto_region 5 with (go_at_call 20; refine (HSX.out _).mono ?_; rintro e w2 ⟨rfl, hb2⟩; have HB2 := Lib.hid hb2; clear hb2)
      have kc : w2.cell? ⟨b, 1, none⟩ = some (.slice lA lk lc) := (HBK.out.below HB2.out HBK.out.lt).cell 1
      have HB3 := Lib.hid (HB1.out.trans (HB2.out.mono HB1.out.size))
      have HFO : Hid (∀ W, w2 = W → Calls Tryd.prog 19 #[.slice lA lk lc] W fun e w' => e = .returned (.string (foldB ls)) ∧ Below W.heap.size W w') := Lib.hid (fun W hW => by
        subst hW
        exact Fold_any G _ ls w2 (HLV.out.upd (Upd.of_below HB3.out (T := fun _ => False) (fun k h1 h2 => by omega)) (fun _ _ h => h)) hs2.out (tabs_later HT.out HB3.out))
      go_wp2_with (go_at_call 19; refine (HFO.out _ rfl).mono ?_; rintro e w4 ⟨rfl, hb4⟩; have HB4 := Lib.hid hb4; clear hb4)
      exact bodyPost_ret (v := .tuple #[.string (foldB ls), .bool true]) (by simp [results, Tryd.results16, go_sem]) rfl ⟨by rw [HE.out], HB3.out.trans (HB4.out.mono HB3.out.size)⟩
end Go.Proofs.YtjkaigfpjebfbaaDoor
