/- sat: counter.holds. -/
import Derived.Test.YtghfelfljblkbaaCnt1
namespace Go.Proofs.Ytghfelfljblkbaa
open Go.RowKit Go.Sort
set_option linter.unusedVariables false

/-- The predicate is asked of the slice's members alone. -/
def PredIn (g : Nat) (lb : Array Value) (p : Int → Bool) (zs : List Int) (w : World) : Prop :=
  ∀ x ∈ zs, ∀ q, Calls Try.prog g (#[.int .i64 x] ++ lb) (w.drewN q) fun e w' => e = .returned (.bool (p x)) ∧ ∃ q', w' = w.drewN q'
set_option maxRecDepth 100000 in
set_option maxHeartbeats 1000000 in
theorem index_in (g : Nat) (lb : Array Value) (p : Int → Bool) (A : Option Addr) (n c : Nat) (zs : List Int) (w : World) (h : Lits w A n zs) (hn : n ≤ 1048576) (eg : ∀ args w, (callFunc g args).run Try.prog w = .ok (.enter g args) w) (hp : PredIn g lb p zs w) :
    Calls Try.prog 89 #[.slice A n c, .func (.func g) #[] lb] w fun e w' => ∃ r : Int, e = .returned (.int .i64 r) ∧ ((r = -1 ∧ zs.any p = false) ∨ (0 ≤ r ∧ zs.any p = true)) ∧ ∃ q, w' = w.drewN q := by
  have HL := Lib.hid h
  have HZ := Lib.hid h.1
  have HP := Lib.hid hp
  clear h hp
  go_enter Try.func89, Try.ntmps89
  go_wp2_with fail
  go_loopw [8] (fun t wr => ∃ (i q : Nat), t = .int .i64 (i : Int) ∧ i ≤ n ∧ Hid ((zs.take i).any p = false) ∧ wr = w.drewN q) (fun t _ => n - (match t with | .int _ x => x.toNat | _ => 0))
  case atStart => exact ⟨0, 0, rfl, Nat.zero_le _, Lib.hid (by simp), rfl⟩
  case round =>
    obtain ⟨i, q, rfl, hi, HN, rfl⟩ := hrel
    by_cases hlt : i < n
    · obtain ⟨b, o, hA, hbl, hcell⟩ := HL.out.2.2 (by omega)
      obtain ⟨x, hx⟩ : ∃ x, x = zs.getD i 0 := ⟨_, rfl⟩
      have kx : w.cell? ⟨b, o + i, none⟩ = some (.int .i64 x) := by rw [hx]; exact hcell i hlt
      have hil : i < zs.length := by have := HZ.out; omega
      have hxm : x ∈ zs := by
        rw [hx, List.getD_eq_getElem?_getD, List.getElem?_eq_getElem hil]
        exact List.getElem_mem hil
      have hst : (zs.take (i + 1)).any p = ((zs.take i).any p || p x) := by rw [any_take _ _ _ hil, hx]
      rw [HN.out, Bool.false_or] at hst
      have HST := Lib.hid hst
      have HXT : Hid (p x = true → zs.any p = true) := Lib.hid (fun h9 => List.any_eq_true.2 ⟨x, hxm, h9⟩)
      have hcall := HP.out x hxm q
      obtain ⟨pb, hpb⟩ : ∃ pb, pb = p x := ⟨_, rfl⟩
      rw [← hpb] at hcall HST HXT
      have HCA := Lib.hid hcall
      have i1 : (i : Int) < (n : Int) := by omega
      subst hA
      clear hcell hbl hx hil hxm hst hcall hpb
      cases pb with
      | true =>
        have HT := Lib.hid (HXT.out rfl)
        clear HXT
        go_wp2_with (go_at_fn g; refine HCA.out.mono ?_; rintro e w' ⟨rfl, q', rfl⟩)
        go_ret
        exact ⟨(i : Int), rfl, .inr ⟨by omega, HT.out⟩, q', rfl⟩
      | false =>
        clear HXT
        go_wp2_with (go_at_fn g; refine HCA.out.mono ?_; rintro e w' ⟨rfl, q', rfl⟩)
        refine ⟨⟨i + 1, q', by go_num, by omega, HST, rfl⟩, ?_⟩
        show n - ((i : Int) + 1).toNat < n - (i : Int).toNat
        omega
    · have hnn : ¬ (i : Int) < (n : Int) := by omega
      have HF : Hid (zs.any p = false) := Lib.hid (by
        have := HN.out
        rw [List.take_of_length_le (by have := HZ.out; omega)] at this
        exact this)
      go_wp2_with fail
      go_ret
      exact ⟨-1, rfl, .inl ⟨rfl, by first | exact HF.out | simpa using HF.out⟩, q, rfl⟩
set_option maxRecDepth 100000 in
theorem contains_in (g : Nat) (lb : Array Value) (p : Int → Bool) (A : Option Addr) (n c : Nat) (zs : List Int) (w : World) (h : Lits w A n zs) (hn : n ≤ 1048576) (eg : ∀ args w, (callFunc g args).run Try.prog w = .ok (.enter g args) w) (hp : PredIn g lb p zs w) :
    Calls Try.prog 71 #[.slice A n c, .func (.func g) #[] lb] w fun e w' => e = .returned (.bool (zs.any p)) ∧ ∃ q, w' = w.drewN q := by
  have HI := Lib.hid (index_in g lb p A n c zs w h hn eg hp)
  obtain ⟨pb, hpb⟩ : ∃ pb, pb = zs.any p := ⟨_, rfl⟩
  rw [← hpb] at HI ⊢
  clear h hp eg hpb
  go_enter Try.func71, Try.ntmps71
  go_wp2_with fail
  go_at_call 89
  refine HI.out.mono ?_
  rintro e w' ⟨r, rfl, hr, q, rfl⟩
  rcases hr with ⟨rfl, rfl⟩ | ⟨hr, rfl⟩
  · go_wp2_with fail
    go_ret
    exact ⟨rfl, q, rfl⟩
  · go_wp2_with fail
    go_ret
    exact ⟨rfl, q, rfl⟩
/-- A counter in memory. -/
structure CtAt (w : World) (x gd gv n : Nat) (mx c : Int) (f : Nat → Bool) (K : Nat → Prop) (L : List (List Int)) : Prop where
  blk : Blk w x 107 #[.slice (some ⟨gd, 0, none⟩) (n + 1) (n + 1), .int .i64 mx, .int .i64 c, .slice (some ⟨gv, 0, none⟩) (n + 1) (n + 1)]
  val : Blk w gv 4 (VB (n + 1) f)
  done : ∀ k, k ≤ n → ∃ A cap, w.cell? ⟨gd, k, none⟩ = some (.slice A (Ct.doneL L k).length cap) ∧ ClsK w K A (Ct.doneL L k)
  dlt : gd < w.heap.size
  ne : gd ≠ x ∧ gd ≠ gv ∧ x ≠ gv
  k : ∀ i, K i → i ≠ x ∧ i ≠ gv
theorem CtAt.below {w w' : World} {x gd gv n : Nat} {mx c : Int} {f : Nat → Bool} {K : Nat → Prop} {L : List (List Int)} (h : CtAt w x gd gv n mx c f K L) (hb : Below w.heap.size w w') : CtAt w' x gd gv n mx c f K L :=
  ⟨h.blk.below hb h.blk.lt, h.val.below hb h.val.lt, fun k hk => by
    obtain ⟨A, cap, h1, h2⟩ := h.done k hk
    exact ⟨A, cap, (hb.cell h.dlt).trans h1, h2.below hb⟩, Nat.lt_of_lt_of_le h.dlt hb.size, h.ne, h.k⟩
theorem CtAt.setv {w : World} {x gd gv n v : Nat} {mx c : Int} {f : Nat → Bool} {K : Nat → Prop} {L : List (List Int)} (h : CtAt w x gd gv n mx c f K L) (b : Bool) : CtAt (w.setCell ⟨gv, v, none⟩ (.bool b)) x gd gv n mx c (fun j => if j = v then b else f j) K L := by
  have hu : Upd (fun j => j = gv) w (w.setCell ⟨gv, v, none⟩ (.bool b)) := (Upd.refl (fun j => j = gv) w).setCell (p := ⟨gv, v, none⟩) (.inl rfl) _
  refine ⟨h.blk.upd hu h.ne.2.2, ?_, fun k hk => ?_, Nat.lt_of_lt_of_le h.dlt hu.size, h.ne, h.k⟩
  · have := h.val.set_ v (.bool b)
    have e := VB.set (n := n + 1) (v := v) (f := f) (g := fun j => if j = v then b else f j) (fun u hu => by
      by_cases e : u = v
      · simp [e]
      · simp [e])
    simp only [if_true] at e
    rw [← e]
    exact this
  · obtain ⟨A, cap, h1, h2⟩ := h.done k hk
    exact ⟨A, cap, (hu.cell (p := ⟨gd, k, none⟩) h.dlt h.ne.2.1).trans h1, h2.upd hu (fun i hi e => (h.k i hi).2 e)⟩
theorem CtAt.setn {w : World} {x gd gv n : Nat} {mx c c' : Int} {f : Nat → Bool} {K : Nat → Prop} {L : List (List Int)} (h : CtAt w x gd gv n mx c f K L) : CtAt (w.setCell ⟨x, 2, none⟩ (.int .i64 c')) x gd gv n mx c' f K L := by
  have hu : Upd (fun j => j = x) w (w.setCell ⟨x, 2, none⟩ (.int .i64 c')) := (Upd.refl (fun j => j = x) w).setCell (p := ⟨x, 2, none⟩) (.inl rfl) _
  refine ⟨(h.blk.set_ 2 (.int .i64 c')).cast (by rfl), h.val.upd hu (fun e => h.ne.2.2 e.symm), fun k hk => ?_, Nat.lt_of_lt_of_le h.dlt hu.size, h.ne, h.k⟩
  obtain ⟨A, cap, h1, h2⟩ := h.done k hk
  exact ⟨A, cap, (hu.cell (p := ⟨gd, k, none⟩) h.dlt h.ne.1).trans h1, h2.upd hu (fun i hi e => (h.k i hi).1 e)⟩
set_option maxRecDepth 100000 in
set_option maxHeartbeats 1000000 in
theorem holds1_any (x gd gv n q : Nat) (mx c : Int) (f : Nat → Bool) (K : Nat → Prop) (L : List (List Int)) (y : Int) (h1 : 1 ≤ Cf.va y) (h2 : Cf.va y ≤ n) (hn : n ≤ 200) (w : World) (h : CtAt w x gd gv n mx c f K L) (hq : w.cell? ⟨q, 0, none⟩ = some (.pointer (some ⟨x, 0, none⟩))) :
    Calls Try.prog 116 #[.int .i64 y, .pointer (some ⟨q, 0, none⟩)] w fun e w' => e = .returned (.bool (f (Cf.va y) == decide (0 < y))) ∧ w = w' := by
  obtain ⟨u, hu⟩ : ∃ u, u = Cf.va y := ⟨_, rfl⟩
  rw [← hu] at h1 h2 ⊢
  have hmx : max y (-y) = (u : Int) := by rw [hu]; unfold Cf.va; omega
  have y1 : -200 ≤ y := by unfold Cf.va at hu; omega
  have y2 : y ≤ 200 := by unfold Cf.va at hu; omega
  have k3 : w.cell? ⟨x, 3, none⟩ = some (.slice (some ⟨gv, 0, none⟩) (n + 1) (n + 1)) := h.blk.cell 3
  obtain ⟨b, hb⟩ : ∃ b, b = f u := ⟨_, rfl⟩
  have kv : w.cell? ⟨gv, u, none⟩ = some (.bool b) := by rw [hb]; exact (h.val.cell u).trans (VB.get (by omega))
  have i1 : (u : Int) < (n : Int) + 1 := by omega
  have i0 : (0 : Int) ≤ (u : Int) := by omega
  have HR : Hid (b = f u) := Lib.hid hb
  clear h hu hb
  go_enter Try.func116, Try.ntmps116
  go_wp2_with fail
  go_ret
  exact ⟨by rw [← HR.out]; rfl, rfl⟩
set_option maxRecDepth 100000 in
set_option maxHeartbeats 1000000 in
theorem cholds_any (x gd gv n : Nat) (mx c : Int) (f : Nat → Bool) (K : Nat → Prop) (L : List (List Int)) (A : Option Addr) (l cc : Nat) (r : List Int) (w : World) (h : CtAt w x gd gv n mx c f K L) (hl : Lits w A l r) (hn : n ≤ 200) (hr : ∀ y ∈ r, 1 ≤ Cf.va y ∧ Cf.va y ≤ n) (hlen : l ≤ 1048576) :
    Calls Try.prog 105 #[.pointer (some ⟨x, 0, none⟩), .slice A l cc] w fun e w' => e = .returned (.bool (Ct.holdF f r)) ∧ Below w.heap.size w w' := by
  obtain ⟨W1, hW1⟩ : ∃ W1, W1 = w.alloc (.cells #[.pointer (some ⟨x, 0, none⟩)] 104) := ⟨_, rfl⟩
  have hb1 : Below w.heap.size w W1 := by rw [hW1]; exact (Below.refl _ _).alloc (Nat.le_refl _) _
  have hkq : W1.cell? ⟨w.heap.size, 0, none⟩ = some (.pointer (some ⟨x, 0, none⟩)) := by rw [hW1]; exact (Blk.new _ _ _).cell 0
  have hp : PredIn 116 #[.pointer (some ⟨w.heap.size, 0, none⟩)] (fun y => f (Cf.va y) == decide (0 < y)) r W1 := fun y hy q =>
    (holds1_any x gd gv n w.heap.size mx c f K L y (hr y hy).1 (hr y hy).2 hn (W1.drewN q) (h.below (hb1.trans ⟨rfl, rfl, rfl, Nat.le_refl _, fun _ _ => rfl⟩)) hkq).mono fun e w' ⟨he, hw⟩ => ⟨he, q, hw.symm⟩
  have eg : ∀ args w, (callFunc 116 args).run Try.prog w = .ok (.enter 116 args) w := enters_of Try.func116 (by kernel_rfl) rfl
  have HC := contains_in _ _ _ A l cc r W1 (hl.below hb1) hlen eg hp
  obtain ⟨b, hb⟩ : ∃ b, b = Ct.holdF f r := ⟨_, rfl⟩
  have hb' : b = r.any (fun y => f (Cf.va y) == decide (0 < y)) := hb
  rw [← hb'] at HC
  rw [← hb]
  have HCC := Lib.hid HC
  have HB1 := Lib.hid hb1
  clear h hl hp eg hkq hb1 HC hb hb'
  subst hW1
  go_enter Try.func105, Try.ntmps105
  go_wp2_with (go_at_call 71; refine HCC.out.mono ?_; rintro e w2 ⟨rfl, q, rfl⟩)
  go_ret
  exact ⟨rfl, HB1.out.trans ⟨rfl, rfl, rfl, Nat.le_refl _, fun _ _ => rfl⟩⟩
end Go.Proofs.Ytghfelfljblkbaa
