/- stanza.has. -/
import Derived.Test.YtjkaigfpjebfbaaDoorSt3
namespace Go.Proofs.YtjkaigfpjebfbaaDoor
open Go.RowKit
set_option linter.unusedVariables false

theorem hasN_no {l : List Fd} {nm : ByteArray} (h : ∀ j (hj : j < l.length), sameN l[j].n nm = false) : hasN l nm = false := by
  unfold hasN
  rw [List.any_eq_false]
  intro f hf
  obtain ⟨j, hj, rfl⟩ := List.mem_iff_getElem.1 hf
  rw [h j hj]
  simp
theorem hasN_yes {l : List Fd} {nm : ByteArray} {j : Nat} (hj : j < l.length) (h : sameN l[j].n nm = true) : hasN l nm = true := by
  unfold hasN
  rw [List.any_eq_true]
  exact ⟨l[j], List.getElem_mem hj, h⟩
theorem sameN_sym (a b : ByteArray) : sameN a b = sameN b a := by
  unfold sameN
  by_cases h : lowB a = lowB b
  · rw [decide_eq_true h, decide_eq_true h.symm]
  · rw [decide_eq_false h, decide_eq_false (fun e => h e.symm)]
set_option maxRecDepth 100000 in
set_option maxHeartbeats 4000000 in
theorem has_any (G : Nat → Prop) (A : Option Addr) (n c : Nat) (fx : List Value) (l : List Fd) (nm : ByteArray) (w : World) (hr : RowG w G 2 A n fx) (hf : FV w G fx l) (hn : n = l.length) (hN : n ≤ 1048576) (hs : ∀ f ∈ l, f.n.size ≤ 1048576) (hm : nm.size ≤ 1048576) :
    Calls Tryd.prog 51 #[.slice A n c, .string nm] w fun e w' => e = .returned (.bool (hasN l nm)) ∧ Below w.heap.size w w' := by
  obtain ⟨bb, hbb⟩ : ∃ bb, bb = hasN l nm := ⟨_, rfl⟩
  rw [← hbb]
  have HNO : Hid ((∀ j (hj : j < l.length), sameN l[j].n nm = false) → bb = false) := Lib.hid (fun h => by rw [hbb]; exact hasN_no h)
  have HYES : Hid (∀ j (hj : j < l.length), sameN l[j].n nm = true → bb = true) := Lib.hid (fun j hj h => by rw [hbb]; exact hasN_yes hj h)
  have HSM : Hid (∀ (x : ByteArray) (W : World), x.size ≤ 1048576 → Calls Tryd.prog 20 #[.string x, .string nm] W fun e w' => e = .returned (.bool (sameN x nm)) ∧ Below W.heap.size W w') := Lib.hid (fun x W h => SSame_any x nm W (by omega) (by omega))
  have HR := Lib.hid hr
  have HF := Lib.hid hf
  have HN := Lib.hid hn
  have HS := Lib.hid hs
  clear hbb hr hf hn hs hm
  go_enter Tryd.func51, Tryd.ntmps51
  go_wp2_with fail
  go_loopw [9] (fun t wr => ∃ i : Nat, t = .int .i64 (i : Int) ∧ i ≤ n ∧ Hid (∀ j (hj : j < l.length), j < i → sameN l[j].n nm = false) ∧ Hid (Below w.heap.size w wr)) (fun t _ => n - (match t with | .int _ x => x.toNat | _ => 0))
  case atStart => exact ⟨0, rfl, Nat.zero_le _, Lib.hid (fun j _ hj => by omega), Lib.hid (Below.refl _ _)⟩
  case round =>
    obtain ⟨i, rfl, hi, HI, HB⟩ := hrel
    by_cases hlt : i < n
    case neg =>
      have hln : ¬ (i : Int) < (n : Int) := by omega
      have HE : Hid (bb = false) := Lib.hid (HNO.out (fun j hj => HI.out j hj (by have := HN.out; omega)))
      go_wp2_with fail
      go_ret
      exact ⟨by rw [HE.out]; rfl, HB.out⟩
    have hln : (i : Int) < (n : Int) := by omega
    have hil : i < l.length := by have := HN.out; omega
    obtain ⟨g, o, rfl, hg, _, hc⟩ := HR.out.2 (by omega)
    obtain ⟨e1, lv, e2, lA, lc, rfl, _⟩ := HF.out.at_ i hil
    obtain ⟨lk, hlk⟩ : ∃ lk, lk = l[i].ls.length := ⟨_, rfl⟩
    rw [← hlk] at e2
    have c1 := hc _ _ e1
    have c2 := hc _ _ e2
    have k1 : wr.cell? ⟨g, o + i * 2, none⟩ = some (.string l[i].n) := (HB.out.cell (p := ⟨g, o + i * 2, none⟩) hg).trans c1
    have k2 : wr.cell? ⟨g, o + i * 2 + 1, none⟩ = some (.slice lA lk lc) := (HB.out.cell (p := ⟨g, o + i * 2 + 1, none⟩) hg).trans c2
    obtain ⟨x, hx⟩ : ∃ x, x = l[i].n := ⟨_, rfl⟩
    rw [← hx] at k1
    have hxs : x.size ≤ 1048576 := by rw [hx]; exact HS.out _ (List.getElem_mem hil)
    have HX := Lib.hid hx
    obtain ⟨bs, hbs⟩ : ∃ bs, bs = sameN x nm := ⟨_, rfl⟩
    have hsm := fun W => HSM.out x W hxs
    rw [← hbs] at hsm
    have HSX := Lib.hid hsm
    have HBS := Lib.hid hbs
    clear c1 c2 e1 e2 hc hx hbs hsm hlk
    go_upto_region 4 with fail
    obtain ⟨b, hb⟩ : ∃ b, b = wr.heap.size := ⟨_, rfl⟩
    obtain ⟨w1, hw1⟩ : ∃ w1, w1 = wr.alloc (.cells #[.string x, .slice lA lk lc] 40) := ⟨_, rfl⟩
    have hbk : Blk w1 b 40 #[.string x, .slice lA lk lc] := by rw [hw1, hb]; exact Blk.new wr _ _
    have kb : w1.cell? ⟨b, 0, none⟩ = some (.string x) := hbk.cell 0
    have HB1 : Hid (Below w.heap.size w w1) := Lib.hid (by rw [hw1]; exact HB.out.alloc HB.out.size _)
    rw [← hw1, ← hb]
    clear hbk hw1 hb k1 k2 HB
    cases bs with
    | false =>
      have HI2 : Hid (∀ j (hj : j < l.length), j < i + 1 → sameN l[j].n nm = false) := Lib.hid (fun j hj h => by
        by_cases e : j = i
        · subst e; rw [← HX.out, ← HBS.out]
        · exact HI.out j hj (by omega))
      go_wp2_with (go_at_call 20; refine (HSX.out _).mono ?_; rintro e w2 ⟨rfl, hb2⟩)
      refine ⟨⟨i + 1, by go_num, by omega, HI2, Lib.hid (HB1.out.trans (hb2.mono HB1.out.size))⟩, ?_⟩
      show n - ((i : Int) + 1).toNat < n - (i : Int).toNat
      omega
    | true =>
      have HE : Hid (bb = true) := Lib.hid (HYES.out i hil (by rw [← HX.out, ← HBS.out]))
      go_wp2_with (go_at_call 20; refine (HSX.out _).mono ?_; rintro e w2 ⟨rfl, hb2⟩)
      go_ret
      exact ⟨by rw [HE.out]; rfl, HB1.out.trans (hb2.mono HB1.out.size)⟩
end Go.Proofs.YtjkaigfpjebfbaaDoor
