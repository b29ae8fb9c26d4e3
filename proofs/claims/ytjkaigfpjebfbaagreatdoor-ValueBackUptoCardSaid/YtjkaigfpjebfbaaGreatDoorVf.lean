/- value.field: which kind of field a name is. -/
import Derived.Test.YtjkaigfpjebfbaaGreatDoorSf1
import Derived.Test.YtjkaigfpjebfbaaGreatDoorZA
namespace Go.Proofs.YtjkaigfpjebfbaaGreatDoor
open Go.RowKit
set_option linter.unusedVariables false

/-- A row of texts. -/
def TxtsAt (w : World) (v : Value) (L : List ByteArray) : Prop := ∃ A c, v = .slice A L.length c ∧ ∀ j (h : j < L.length), ∃ g o, A = some ⟨g, o, none⟩ ∧ w.cell? ⟨g, o + j, none⟩ = some (.string L[j])
theorem TxtsAt.below {w w' : World} {v : Value} {L : List ByteArray} (h : TxtsAt w v L) (hb : Below w.heap.size w w') : TxtsAt w' v L := by
  obtain ⟨A, c, rfl, h3⟩ := h
  refine ⟨A, c, rfl, fun j hj => ?_⟩
  obtain ⟨g, o, rfl, k1⟩ := h3 j hj
  exact ⟨g, o, rfl, by rw [hb.cell (World.block_lt_of_cell? w _ k1)]; exact k1⟩
def anyN (L : List ByteArray) (nm : ByteArray) : Bool := L.any fun s => sameN s nm
theorem anyN_no {L : List ByteArray} {nm : ByteArray} (h : ∀ j (hj : j < L.length), sameN L[j] nm = false) : anyN L nm = false := by
  unfold anyN
  rw [List.any_eq_false]
  intro x hx
  obtain ⟨j, hj, rfl⟩ := List.mem_iff_getElem.1 hx
  rw [h j hj]
  simp
theorem anyN_yes {L : List ByteArray} {nm : ByteArray} {j : Nat} (hj : j < L.length) (h : sameN L[j] nm = true) : anyN L nm = true := by
  unfold anyN
  rw [List.any_eq_true]
  exact ⟨L[j], List.getElem_mem hj, h⟩
theorem mf_any : ∀ (fn : Fn) (first cap : Array Value) (w : World), (Instr.makeFunc fn first cap).run Tryz.prog w = .ok (.func fn first cap) w := fun _ _ _ _ => rfl
set_option maxRecDepth 100000 in
set_option maxHeartbeats 2000000 in
theorem one_any (q : Nat) (s nm : ByteArray) (w : World) (hs : s.size ≤ 4294967296) (hn : nm.size ≤ 4294967296) (hq : w.cell? ⟨q, 0, none⟩ = some (.string nm)) :
    Calls Tryz.prog 58 #[.string s, .pointer (some ⟨q, 0, none⟩)] w fun e w' => e = .returned (.bool (sameN s nm)) ∧ Below w.heap.size w w' := by
  have HS := Lib.hid (fun W => SSame_any s nm W hs hn)
  go_enter Tryz.func58, Tryz.ntmps58
  go_wp2_with (go_at_call 59; refine (HS.out _).mono ?_; rintro e w1 ⟨rfl, hb1⟩)
  go_ret
  exact ⟨rfl, hb1⟩
set_option maxRecDepth 100000 in
set_option maxHeartbeats 2000000 in
theorem index_any (q : Nat) (v : Value) (L : List ByteArray) (nm : ByteArray) (w : World) (hv : TxtsAt w v L) (hL : L.length ≤ 1048576) (hs : ∀ s ∈ L, s.size ≤ 1048576) (hn : nm.size ≤ 1048576) (hq : w.cell? ⟨q, 0, none⟩ = some (.string nm)) :
    Calls Tryz.prog 77 #[v, .func (Fn.func 58) #[] #[.pointer (some ⟨q, 0, none⟩)]] w fun e w' => ∃ z : Int, e = .returned (.int .i64 z) ∧ decide (0 ≤ z) = anyN L nm ∧ Below w.heap.size w w' := by
  obtain ⟨bb, hbb⟩ : ∃ bb, bb = anyN L nm := ⟨_, rfl⟩
  rw [← hbb]
  have HNO : Hid ((∀ j (hj : j < L.length), sameN L[j] nm = false) → bb = false) := Lib.hid (fun h => by rw [hbb]; exact anyN_no h)
  have HYES : Hid (∀ j (hj : j < L.length), sameN L[j] nm = true → bb = true) := Lib.hid (fun j hj h => by rw [hbb]; exact anyN_yes hj h)
  have HSM : Hid (∀ (x : ByteArray) (W : World), x.size ≤ 1048576 → Below w.heap.size w W → Calls Tryz.prog 58 #[.string x, .pointer (some ⟨q, 0, none⟩)] W fun e w' => e = .returned (.bool (sameN x nm)) ∧ Below W.heap.size W w') := Lib.hid (fun x W h hb => one_any q x nm W (by omega) (by omega) (by rw [hb.cell (World.block_lt_of_cell? w _ hq)]; exact hq))
  obtain ⟨A, c, rfl, hc⟩ := hv
  obtain ⟨n, hn2⟩ : ∃ n, n = L.length := ⟨_, rfl⟩
  rw [← hn2] at hL ⊢
  have HC := Lib.hid hc
  have HN := Lib.hid hn2
  have HS := Lib.hid hs
  clear hbb hc hn2 hs hn hq
  go_enter Tryz.func77, Tryz.ntmps77
  go_wp2_with fail
  go_loopw [8] (fun t wr => ∃ i : Nat, t = .int .i64 (i : Int) ∧ i ≤ n ∧ Hid (∀ j (hj : j < L.length), j < i → sameN L[j] nm = false) ∧ Hid (Below w.heap.size w wr)) (fun t _ => n - (match t with | .int _ x => x.toNat | _ => 0))
  case atStart => exact ⟨0, rfl, Nat.zero_le _, Lib.hid (fun j _ hj => by omega), Lib.hid (Below.refl _ _)⟩
  case round =>
    obtain ⟨i, rfl, hi, HI, HB⟩ := hrel
    by_cases hlt : i < n
    case neg =>
      have hln : ¬ (i : Int) < (n : Int) := by omega
      have HE : Hid (bb = false) := Lib.hid (HNO.out (fun j hj => HI.out j hj (by have := HN.out; omega)))
      go_wp2_with fail
      go_ret
      exact ⟨-1, rfl, by rw [HE.out]; rfl, HB.out⟩
    have hln : (i : Int) < (n : Int) := by omega
    have hil : i < L.length := by have := HN.out; omega
    obtain ⟨g, o, rfl, k0⟩ := HC.out i hil
    obtain ⟨x, hx⟩ : ∃ x, x = L[i] := ⟨_, rfl⟩
    rw [← hx] at k0
    have k1 : wr.cell? ⟨g, o + i, none⟩ = some (.string x) := by rw [HB.out.cell (World.block_lt_of_cell? w _ k0)]; exact k0
    have hxs : x.size ≤ 1048576 := by rw [hx]; exact HS.out _ (List.getElem_mem hil)
    have HX := Lib.hid hx
    obtain ⟨bs, hbs⟩ : ∃ bs, bs = sameN x nm := ⟨_, rfl⟩
    have hsm := fun W => HSM.out x W hxs
    rw [← hbs] at hsm
    have HSX := Lib.hid hsm
    have HBS := Lib.hid hbs
    clear k0 hx hbs hsm
    cases bs with
    | false =>
      have HI2 : Hid (∀ j (hj : j < L.length), j < i + 1 → sameN L[j] nm = false) := Lib.hid (fun j hj h => by
        by_cases e : j = i
        · subst e; rw [← HX.out, ← HBS.out]
        · exact HI.out j hj (by omega))
      go_wp2_with (go_at_call 58; refine (HSX.out _ HB.out).mono ?_; rintro e w2 ⟨rfl, hb2⟩)
      refine ⟨⟨i + 1, by go_num, by omega, HI2, Lib.hid (HB.out.trans (hb2.mono HB.out.size))⟩, ?_⟩
      show n - ((i : Int) + 1).toNat < n - (i : Int).toNat
      omega
    | true =>
      have HE : Hid (bb = true) := Lib.hid (HYES.out i hil (by rw [← HX.out, ← HBS.out]))
      go_wp2_with (go_at_call 58; refine (HSX.out _ HB.out).mono ?_; rintro e w2 ⟨rfl, hb2⟩)
      go_ret
      exact ⟨(i : Int), rfl, by rw [HE.out]; exact decide_eq_true (Int.natCast_nonneg i), HB.out.trans (hb2.mono HB.out.size)⟩
set_option maxRecDepth 100000 in
set_option maxHeartbeats 2000000 in
theorem contains_any (q : Nat) (v : Value) (L : List ByteArray) (nm : ByteArray) (w : World) (hv : TxtsAt w v L) (hL : L.length ≤ 1048576) (hs : ∀ s ∈ L, s.size ≤ 1048576) (hn : nm.size ≤ 1048576) (hq : w.cell? ⟨q, 0, none⟩ = some (.string nm)) :
    Calls Tryz.prog 57 #[v, .func (Fn.func 58) #[] #[.pointer (some ⟨q, 0, none⟩)]] w fun e w' => e = .returned (.bool (anyN L nm)) ∧ Below w.heap.size w w' := by
  have HI := Lib.hid (index_any q v L nm w hv hL hs hn hq)
  clear hv hs hq
  go_enter Tryz.func57, Tryz.ntmps57
  go_wp2_with (go_at_call 77; refine HI.out.mono ?_; rintro e w1 ⟨z, rfl, hz, hb1⟩)
  go_ret
  exact ⟨by rw [← hz]; rfl, hb1⟩
set_option maxRecDepth 100000 in
set_option maxHeartbeats 2000000 in
theorem is_any9 (q : Nat) (v : Value) (L : List ByteArray) (nm : ByteArray) (w : World) (hv : TxtsAt w v L) (hL : L.length ≤ 1048576) (hs : ∀ s ∈ L, s.size ≤ 1048576) (hn : nm.size ≤ 1048576) (hq : w.cell? ⟨q, 0, none⟩ = some (.string nm)) :
    Calls Tryz.prog 56 #[v, .pointer (some ⟨q, 0, none⟩)] w fun e w' => e = .returned (.bool (anyN L nm)) ∧ Below w.heap.size w w' := by
  have HI := Lib.hid (contains_any q v L nm w hv hL hs hn hq)
  have hmf := mf_any
  clear hv hs hq
  go_enter Tryz.func56, Tryz.ntmps56
  go_wp2_with (go_at_call 57; refine HI.out.mono ?_; rintro e w1 ⟨rfl, hb1⟩)
  go_ret
  exact ⟨rfl, hb1⟩
/-- The names of fields that have a kind of their own. -/
def nPackage : List ByteArray := [⟨#[112, 97, 99, 107, 97, 103, 101]⟩]
def nVersion : List ByteArray := [⟨#[118, 101, 114, 115, 105, 111, 110]⟩]
def nClauses : List ByteArray := [⟨#[112, 114, 101, 45, 100, 101, 112, 101, 110, 100, 115]⟩, ⟨#[100, 101, 112, 101, 110, 100, 115]⟩, ⟨#[114, 101, 99, 111, 109, 109, 101, 110, 100, 115]⟩]
def nAtoms : List ByteArray := [⟨#[99, 111, 110, 102, 108, 105, 99, 116, 115]⟩, ⟨#[98, 114, 101, 97, 107, 115]⟩]
def nProvides : List ByteArray := [⟨#[112, 114, 111, 118, 105, 100, 101, 115]⟩]
def nYes : List ByteArray := [⟨#[101, 115, 115, 101, 110, 116, 105, 97, 108]⟩, ⟨#[104, 111, 108, 100]⟩, ⟨#[99, 111, 110, 102, 105, 103, 117, 114, 101, 100]⟩]
def nCount : List ByteArray := [⟨#[112, 114, 105, 111, 114, 105, 116, 121]⟩]
def fieldN (nm : ByteArray) : Nat := if anyN nPackage nm then 0 else if anyN nVersion nm then 1 else if anyN nClauses nm then 2 else if anyN nAtoms nm then 3 else if anyN nProvides nm then 4 else if anyN nYes nm then 5 else if anyN nCount nm then 6 else 7
theorem txts_new (w : World) (L : List ByteArray) (n c : Nat) (fr : Nat × Nat) (hn : n = L.length) : TxtsAt (w.alloc (.cells (L.map Value.string).toArray 9 fr)) (.slice (some ⟨w.heap.size, 0, none⟩) n c) L := by
  subst hn
  refine ⟨_, c, rfl, fun j hj => ⟨w.heap.size, 0, rfl, ?_⟩⟩
  rw [cell_of_row (w.alloc (.cells (L.map Value.string).toArray 9 fr)) w.heap.size _ _ _ _ (heap_alloc_new w _)]
  simp [hj]
end Go.Proofs.YtjkaigfpjebfbaaGreatDoor
