/- cnf: a set of clauses in memory; New, Len, Vars, may, Add. -/
import Derived.Test.YtghfelfljblkbaaTidy
import Derived.OwnWalk
namespace Go.Proofs.Ytghfelfljblkbaa
open Go.RowKit Go.Sort
set_option linter.unusedVariables false

/-- A block of literals. -/
def IsL (w : World) (g : Nat) : Prop := ∃ cs fr, w.heap[g]? = some (.cells cs 37 fr)
theorem IsL.lt {w : World} {g : Nat} (h : IsL w g) : g < w.heap.size := by
  obtain ⟨cs, fr, h⟩ := h
  exact (Array.getElem?_eq_some_iff.1 h).1
theorem OwnL.lits2 {w : World} {base : Nat} {v : Value} {zs : List Int} (h : OwnL w base v zs) (hz : ∀ z ∈ zs, Ok z) : ∃ A c, v = .slice A zs.length c ∧ Lits w A zs.length zs ∧ zs.length ≤ c ∧ c ≤ maxLen ∧ ∀ g o, A = some ⟨g, o, none⟩ → base ≤ g ∧ IsL w g := by
  obtain ⟨A, c, rfl, h1, h2, h3, h5⟩ := h.lits hz
  refine ⟨A, c, rfl, h1, h2, h3, fun g o e => ⟨h5 g o e, ?_⟩⟩
  subst e
  rcases h.2 with ⟨h0, _⟩ | ⟨g', cap, cur, h0, hbg, hg, _⟩
  · cases h0
  · cases h0
    exact ⟨_, _, hg⟩
/-- Slices of literals as a row's elements. -/
def LIn (w : World) (xs : List Value) (L : List (List Int)) : Prop :=
  xs.length = L.length ∧ ∀ j (h : j < L.length), ∃ Aj cj, xs[j]? = some (.slice Aj (L[j]).length cj) ∧ Lits w Aj (L[j]).length L[j] ∧ ∀ g o, Aj = some ⟨g, o, none⟩ → IsL w g
theorem LIn.nil (w : World) : LIn w [] [] := ⟨rfl, fun j h => absurd h (by simp)⟩
theorem IsL.upd {T : Nat → Prop} {w w' : World} {g : Nat} (h : IsL w g) (hu : Upd T w w') (hT : ¬ T g) : IsL w' g := by
  obtain ⟨cs, fr, h8⟩ := h
  exact ⟨cs, fr, (hu.block g (Array.getElem?_eq_some_iff.1 h8).1 hT).trans h8⟩
theorem LIn.upd {T : Nat → Prop} {w w' : World} {xs : List Value} {L : List (List Int)} (h : LIn w xs L) (hu : Upd T w w') (hT : ∀ k, T k → ¬ IsL w k) : LIn w' xs L := by
  refine ⟨h.1, fun j hj => ?_⟩
  obtain ⟨Aj, cj, h1, h2, h3⟩ := h.2 j hj
  exact ⟨Aj, cj, h1, h2.upd hu (fun b o e ht => hT b ht (h3 b o e)), fun g o e => (h3 g o e).upd hu (fun ht => hT g ht (h3 g o e))⟩
theorem LIn.snoc {w : World} {xs : List Value} {L : List (List Int)} {A : Option Addr} {c : Nat} {b : List Int} (h : LIn w xs L) (hb : Lits w A b.length b) (hA : ∀ g o, A = some ⟨g, o, none⟩ → IsL w g) : LIn w (xs ++ [.slice A b.length c]) (L ++ [b]) := by
  refine ⟨by rw [List.length_append, List.length_append, h.1]; rfl, fun j hj => ?_⟩
  rw [List.length_append] at hj
  by_cases e : j < L.length
  · obtain ⟨Aj, cj, h1, h2, h3⟩ := h.2 j e
    have e1 : (L ++ [b])[j] = L[j] := List.getElem_append_left e
    refine ⟨Aj, cj, ?_, by rw [e1]; exact h2, h3⟩
    rw [List.getElem?_append_left (by rw [h.1]; exact e), e1]; exact h1
  · have e2 : j = L.length := by simp at hj; omega
    subst e2
    have e1 : (L ++ [b])[L.length] = b := by simp
    refine ⟨A, c, ?_, by rw [e1]; exact hb, hA⟩
    rw [e1, ← h.1, List.getElem?_concat_length]
theorem Blk.cast {w : World} {g : Nat} {t : TypeId} {cs cs' : Array Value} (h : Blk w g t cs) (e : cs = cs') : Blk w g t cs' := e ▸ h
/-- A set of clauses: n variables, the clauses. -/
structure SetAt (w : World) (p : Nat) (A : Option Addr) (cap n : Nat) (L : List (List Int)) : Prop where
  blk : Blk w p 80 #[.int .i64 (n : Int), .slice A L.length cap]
  row : ∃ xs, w.ownsRow 0 22 1 (.slice A L.length cap) L.length xs ∧ LIn w xs L
  n : n ≤ 200
  len : L.length ≤ 5000
/-- The blocks that a set turns. -/
def sF (p : Nat) (A : Option Addr) : Nat → Prop := fun k => k = p ∨ (Value.slice A 0 0).ownBlock = some k
theorem ownB {A : Option Addr} {n c m d : Nat} : (Value.slice A n c).ownBlock = (Value.slice A m d).ownBlock := by cases A <;> rfl
theorem own_upd {T : Nat → Prop} {w w' : World} {base : Nat} {e : TypeId} {size n : Nat} {v : Value} {xs : List Value} (h : w.ownsRow base e size v n xs) (hu : Upd T w w') (hT : ∀ k, v.ownBlock = some k → ¬ T k) : w'.ownsRow base e size v n xs := by
  refine ⟨h.1, ?_⟩
  rcases h.2 with h2 | ⟨g, cap, cur, rfl, hg, hh, h3⟩
  · exact .inl h2
  · exact .inr ⟨g, cap, cur, rfl, hg, (hu.block g (Blk.lt hh) (hT g rfl)).trans hh, h3⟩
theorem SetAt.upd {T : Nat → Prop} {w w' : World} {p cap n : Nat} {A : Option Addr} {L : List (List Int)} (h : SetAt w p A cap n L) (hu : Upd T w w') (h1 : ∀ k, sF p A k → ¬ T k) (h2 : ∀ k, T k → ¬ IsL w k) : SetAt w' p A cap n L := by
  obtain ⟨xs, ho, hi⟩ := h.row
  exact ⟨h.blk.upd hu (h1 p (.inl rfl)), ⟨xs, own_upd ho hu (fun k hk => h1 k (.inr (by rw [← hk]; exact ownB))), hi.upd hu h2⟩, h.n, h.len⟩
theorem SetAt.lt {w : World} {p cap n : Nat} {A : Option Addr} {L : List (List Int)} (h : SetAt w p A cap n L) : ∀ k, sF p A k → k < w.heap.size := by
  rintro k (rfl | hk)
  · exact h.blk.lt
  · obtain ⟨xs, ho, _⟩ := h.row
    exact (ho.lt k (by rw [← hk]; exact ownB)).2
theorem SetAt.below {w w' : World} {p cap n : Nat} {A : Option Addr} {L : List (List Int)} (h : SetAt w p A cap n L) (hb : Below w.heap.size w w') : SetAt w' p A cap n L :=
  h.upd (Upd.of_below hb (T := fun k => w.heap.size ≤ k) (fun _ _ h => h)) (fun k hk hT => by have := h.lt k hk; omega) (fun k hT hk => by have := hk.lt; omega)
theorem row_ne {w : World} {p base n : Nat} {v : Value} {xs : List Value} {C : Array Value} (ho : w.ownsRow base 22 1 v n xs) (hb : Blk w p 80 C) : ¬ v.ownBlock = some p := by
  intro hk
  rcases ho.2 with ⟨rfl, _⟩ | ⟨g, cap', cur, rfl, _, hg, _⟩
  · cases hk
  · have e : g = p := by simpa [Value.ownBlock] using hk
    subst e
    unfold Blk at hb
    rw [hg] at hb
    injection hb with h8
    injection h8 with _ ht
    exact absurd ht (by decide)
theorem set_isL {w : World} {p : Nat} {C : Array Value} (hb : Blk w p 80 C) : ¬ IsL w p := by
  rintro ⟨cs, fr, h8⟩
  unfold Blk at hb
  rw [hb] at h8
  injection h8 with h8
  injection h8 with _ ht
  exact absurd ht (by decide)
theorem SetAt.ne {w : World} {p cap n : Nat} {A : Option Addr} {L : List (List Int)} (h : SetAt w p A cap n L) : ¬ (Value.slice A 0 0).ownBlock = some p := by
  obtain ⟨xs, ho, _⟩ := h.row
  intro hk
  exact row_ne ho h.blk (by rw [← hk]; exact ownB)
/-- What New's bounds are. -/
def vars (x : Int) : Nat := (max 0 (min x 200)).toNat
set_option maxRecDepth 100000 in
theorem New_any (x : Int) (w : World) : Calls Try.prog 29 #[.int .i64 x] w fun e w' => ∃ p, e = .returned (.pointer (some ⟨p, 0, none⟩)) ∧ SetAt w' p none 0 (vars x) [] ∧ Below w.heap.size w w' ∧ w.heap.size ≤ p := by
  have hv : (vars x : Int) = max 0 (min x 200) := by unfold vars; omega
  have hv2 : vars x ≤ 200 := by unfold vars; omega
  have fin : ∀ y : Int, y = (vars x : Int) → ∀ W, W = w.alloc (.cells #[.int .i64 y, .slice none 0 0] 80) → SetAt W w.heap.size none 0 (vars x) [] ∧ Below w.heap.size w W := fun y hy W hW => by
    subst hy hW
    exact ⟨⟨Blk.new _ _ _, ⟨[], World.ownsRow_nil _ _ _ _, LIn.nil _⟩, hv2, by simp⟩, (Below.refl _ _).alloc (Nat.le_refl _) _⟩
  have HF := Lib.hid fin
  have HV := Lib.hid hv
  clear fin hv hv2
  go_enter Try.func29, Try.ntmps29
  go_wp2_with fail
  go_ret
  obtain ⟨h1, h2⟩ := HF.out _ HV.out.symm _ rfl
  exact ⟨w.heap.size, rfl, h1, h2, Nat.le_refl _⟩
set_option maxRecDepth 100000 in
theorem Len_any (p cap n : Nat) (A : Option Addr) (L : List (List Int)) (w : World) (h : SetAt w p A cap n L) :
    Calls Try.prog 32 #[.pointer (some ⟨p, 0, none⟩)] w fun e w' => e = .returned (.int .i64 (L.length : Int)) ∧ w = w' := by
  have k1 : w.cell? ⟨p, 1, none⟩ = some (.slice A L.length cap) := h.blk.cell 1
  clear h
  go_enter Try.func32, Try.ntmps32
  go_wp2_with fail
  go_ret
  exact ⟨rfl, rfl⟩
set_option maxRecDepth 100000 in
theorem Vars_any (p cap n : Nat) (A : Option Addr) (L : List (List Int)) (w : World) (h : SetAt w p A cap n L) :
    Calls Try.prog 35 #[.pointer (some ⟨p, 0, none⟩)] w fun e w' => e = .returned (.int .i64 (n : Int)) ∧ w = w' := by
  have k1 : w.cell? ⟨p, 0, none⟩ = some (.int .i64 (n : Int)) := h.blk.cell 0
  clear h
  go_enter Try.func35, Try.ntmps35
  go_wp2_with fail
  go_ret
  exact ⟨rfl, rfl⟩
/-- Is a literal none that the set may have? -/
def offL (n : Nat) (x : Int) : Bool := decide (x = 0) || decide ((n : Int) < vw x)
set_option maxRecDepth 100000 in
set_option maxHeartbeats 1000000 in
theorem off_any (p cap n q : Nat) (A : Option Addr) (L : List (List Int)) (x : Int) (w : World) (h : SetAt w p A cap n L) (hq : w.cell? ⟨q, 0, none⟩ = some (.pointer (some ⟨p, 0, none⟩))) :
    Calls Try.prog 100 #[.int .i64 x, .pointer (some ⟨q, 0, none⟩)] w fun e w' => e = .returned (.bool (offL n x)) ∧ ∃ m, w' = w.drewN m := by
  have k0 : w.cell? ⟨p, 0, none⟩ = some (.int .i64 (n : Int)) := h.blk.cell 0
  have hn := h.n
  have HV := Lib.hid (fun W => var_any x W)
  obtain ⟨v, hv⟩ : ∃ v, v = vw x := ⟨_, rfl⟩
  unfold offL
  rw [← hv] at HV ⊢
  clear h hv
  by_cases h0 : x = 0
  · subst h0
    go_enter Try.func100, Try.ntmps100
    go_wp2_with fail
    go_quiet ((go_at_call 67; exact ((HV.out _).mono fun e w' h => ⟨h.1, _, h.2.symm⟩)))
    go_wp2_with fail
    go_ret
    exact ⟨ret_bool (by simp), _, rfl⟩
  · have h0' : (x == 0) = false := by simpa using h0
    have h0'' : decide (x = 0) = false := decide_eq_false h0
    by_cases hv : (n : Int) < v
    · have hd : decide ((n : Int) < v) = true := decide_eq_true hv
      go_enter Try.func100, Try.ntmps100
      go_wp2_with fail
      go_quiet ((go_at_call 67; exact ((HV.out _).mono fun e w' h => ⟨h.1, _, h.2.symm⟩)))
      go_wp2_with fail
      go_ret
      exact ⟨ret_bool (by rw [h0'', hd]; rfl), _, rfl⟩
    · have hd : decide ((n : Int) < v) = false := decide_eq_false hv
      go_enter Try.func100, Try.ntmps100
      go_wp2_with fail
      go_quiet ((go_at_call 67; exact ((HV.out _).mono fun e w' h => ⟨h.1, _, h.2.symm⟩)))
      go_wp2_with fail
      go_ret
      exact ⟨ret_bool (by rw [h0'', hd]; rfl), _, rfl⟩
theorem any_any (g : Nat) (lb : Array Value) (p : Int → Bool) (A : Option Addr) (n c : Nat) (zs : List Int) (w : World) (h : Lits w A n zs) (hn : n ≤ 1048576) (eg : ∀ args w, (callFunc g args).run Try.prog w = .ok (.enter g args) w)
    (hp : PredAt Try.prog g lb (Value.int .i64) p w) :
    Calls Try.prog 71 #[.slice A n c, .func (.func g) #[] lb] w fun e w' => e = .returned (.bool (zs.any p)) ∧ ∃ q, w' = w.drewN q := by
  have hl := h.1
  rcases Nat.eq_zero_or_pos n with h0 | h0
  · subst h0
    obtain rfl : zs = [] := List.eq_nil_of_length_eq_zero hl
    refine (AnyE.slices_ContainsFunc_empty Try.anyL A c (.func (.func g) #[] lb) w).mono ?_
    rintro e w' ⟨rfl, hw⟩
    exact ⟨rfl, 0, hw⟩
  · obtain ⟨b, o, rfl, hbl, hc⟩ := h.2.2 h0
    have := AnyE.slices_ContainsFunc Try.anyL (Value.int .i64) p g lb eg b o n c zs w hp (by omega) (by omega) (fun j hj => by
      rw [hc j (by omega), List.getD_eq_getElem?_getD, List.getElem?_eq_getElem hj]
      simp [hj])
    rw [List.take_of_length_le (by omega)] at this
    exact this
/-- May the literals be added? -/
def mayL (n : Nat) (L : List (List Int)) (zs : List Int) : Bool := decide (L.length < 5000) && !(zs.any (offL n))
set_option maxRecDepth 100000 in
set_option maxHeartbeats 1000000 in
theorem may_any (p cap n : Nat) (A : Option Addr) (L : List (List Int)) (B : Option Addr) (m c : Nat) (zs : List Int) (w : World) (h : SetAt w p A cap n L) (hz : Lits w B m zs) (hm : m ≤ 1048576) :
    Calls Try.prog 74 #[.pointer (some ⟨p, 0, none⟩), .slice B m c] w fun e w' => e = .returned (.bool (mayL n L zs)) ∧ Below w.heap.size w w' := by
  have k1 : w.cell? ⟨p, 1, none⟩ = some (.slice A L.length cap) := h.blk.cell 1
  have hlp := h.blk.lt
  obtain ⟨W1, hW1⟩ : ∃ W1, W1 = w.alloc (.cells #[.pointer (some ⟨p, 0, none⟩)] 31) := ⟨_, rfl⟩
  have hb1 : Below w.heap.size w W1 := by rw [hW1]; exact (Below.refl _ _).alloc (Nat.le_refl _) _
  have hkq : W1.cell? ⟨w.heap.size, 0, none⟩ = some (.pointer (some ⟨p, 0, none⟩)) := by rw [hW1]; exact (Blk.new _ _ _).cell 0
  have hp : PredAt Try.prog 100 #[.pointer (some ⟨w.heap.size, 0, none⟩)] (Value.int .i64) (offL n) W1 := fun W x hW => off_any p cap n w.heap.size A L x W (h.below (hb1.trans (hW.mono hb1.size))) ((hW.cell (by rw [hW1]; simp)).trans hkq)
  have eg : ∀ args w, (callFunc 100 args).run Try.prog w = .ok (.enter 100 args) w := enters_of Try.func100 (by kernel_rfl) rfl
  have HC := Lib.hid (any_any _ _ _ B m c zs W1 (hz.below hb1) hm eg hp)
  have HB1 := Lib.hid hb1
  unfold mayL
  obtain ⟨bb, hbb⟩ : ∃ bb, bb = zs.any (offL n) := ⟨_, rfl⟩
  rw [← hbb] at HC ⊢
  obtain ⟨k, hk⟩ : ∃ k, k = L.length := ⟨_, rfl⟩
  rw [← hk] at k1 ⊢
  clear h hz hp eg hbb hb1 hk
  subst hW1
  by_cases h5 : k < 5000
  · have h5' : (k : Int) < 5000 := by omega
    have hd : decide (k < 5000) = true := decide_eq_true h5
    go_enter Try.func74, Try.ntmps74
    go_wp2_with (go_at_call 71; refine HC.out.mono ?_; rintro e w2 ⟨rfl, q, rfl⟩)
    go_ret
    exact ⟨ret_bool (by rw [hd]; rfl), HB1.out.trans ⟨rfl, rfl, rfl, Nat.le_refl _, fun _ _ => rfl⟩⟩
  · have h5' : ¬ (k : Int) < 5000 := by omega
    have hd : decide (k < 5000) = false := decide_eq_false h5
    have h5'' : decide ((k : Int) < 5000) = false := decide_eq_false h5'
    go_enter Try.func74, Try.ntmps74
    go_wp2_with fail
    go_ret
    exact ⟨by first | rfl | (refine ret_bool ?_; rw [hd]; rfl), HB1.out⟩
/-- The clauses behind Add. -/
def addL (n : Nat) (L : List (List Int)) (zs : List Int) : List (List Int) :=
  if mayL n L zs then (match Cf.tidy zs with | none => L | some r => L ++ [r]) else L
theorem slice_row : (Try.prog.info? 22).map (fun i => (i.zero, i.size, i.bytes)) = some (some (.slice none 0 0), 1, 24) := by kernel_rfl
theorem slice_one (x : Value) (A : Option Addr) (n c : Nat) (h : x = .slice A n c) : ∀ u ∈ [x], u.oneCell' = true := fun u hu => by simp at hu; subst hu; subst h; rfl
theorem own_or (A : Option Addr) (k cap : Nat) (o : Option Nat) (z j : Nat) (hj : o = some j) (h : o = (Value.slice A k cap).ownBlock ∨ o = some (z + 1)) : (Value.slice A 0 0).ownBlock = some j ∨ z ≤ j := by
  rcases h with h | h
  · exact .inl (by rw [← hj, h]; exact ownB)
  · rw [hj] at h
    have := Option.some.inj h
    exact .inr (by omega)
theorem tidy_ok {zs r : List Int} (h : Cf.tidy zs = some r) (hz : ∀ z ∈ zs, Ok z) : ∀ z ∈ r, Ok z := fun z hz' => hz z (((Cf.tidy_good h).mem z).1 hz')
theorem not_isL {w : World} {base n : Nat} {v : Value} {xs : List Value} (h : w.ownsRow base 22 1 v n xs) {k : Nat} (hk : v.ownBlock = some k) : ¬ IsL w k := by
  rintro ⟨cs, fr, h8⟩
  rcases h.2 with ⟨rfl, _⟩ | ⟨g, cap, cur, rfl, _, hg, _⟩
  · cases hk
  · have : g = k := by simpa [Value.ownBlock] using hk
    subst this
    rw [hg] at h8
    injection h8 with h8
    injection h8 with _ ht
    exact absurd ht (by decide)
set_option maxRecDepth 100000 in
set_option maxHeartbeats 1000000 in
theorem Add_any (p cap n : Nat) (A : Option Addr) (L : List (List Int)) (B : Option Addr) (m c : Nat) (zs : List Int) (w : World) (h : SetAt w p A cap n L) (hz : Lits w B m zs) (hm : m ≤ 1048576) :
    Calls Try.prog 28 #[.pointer (some ⟨p, 0, none⟩), .slice B m c] w fun e w' => e = .returned (.bool (mayL n L zs)) ∧ Upd (sF p A) w w' ∧ ∃ A' cap', SetAt w' p A' cap' n (addL n L zs) ∧ ∀ k, sF p A' k → sF p A k ∨ w.heap.size ≤ k := by
  obtain ⟨i0, hi0, hz0, hz1, hz2⟩ := info_parts slice_row
  have HS := Lib.hid h
  have HZ := Lib.hid hz
  have HMAY := Lib.hid (may_any p cap n A L B m c zs w h hz hm)
  obtain ⟨bb, hbb⟩ : ∃ bb, bb = mayL n L zs := ⟨_, rfl⟩
  rw [← hbb] at HMAY ⊢
  have HBB := Lib.hid hbb
  clear h hz hbb
  cases bb with
  | false =>
    have hadd : addL n L zs = L := by unfold addL; rw [← HBB.out]; rfl
    have HADD := Lib.hid hadd
    clear hadd
    go_enter Try.func28, Try.ntmps28
    go_wp2_with (go_at_call 74; refine HMAY.out.mono ?_; rintro e w1 ⟨rfl, hb1⟩)
    go_ret
    exact ⟨rfl, Upd.of_below hb1 (fun _ _ h => h) |> fun (hu : Upd (fun k => w.heap.size ≤ k) w w1) => ⟨hu.os, hu.tape, hu.output, hu.size, fun k hk _ => hb1.block k hk⟩, A, cap, by rw [HADD.out]; exact HS.out.below hb1, fun k hk => .inl hk⟩
  | true =>
    go_enter Try.func28, Try.ntmps28
    go_wp2_with fail
    go_at_call 74
    refine HMAY.out.mono ?_
    rintro e w1 ⟨rfl, hb1⟩
    have HT := Lib.hid (Tidy_any B m c zs w1 (HZ.out.below hb1) hm)
    have HB1 := Lib.hid hb1
    clear hb1 HMAY
    go_wp2_with fail
    go_at_call 23
    refine HT.out.mono ?_
    rintro e w2 ⟨hb2, hres⟩
    have HB2 := Lib.hid (HB1.out.trans (hb2.mono HB1.out.size))
    have hu2 : Upd (sF p A) w w2 := ⟨HB2.out.os, HB2.out.tape, HB2.out.output, HB2.out.size, fun k hk _ => HB2.out.block k hk⟩
    have HU2 := Lib.hid hu2
    cases ht : Cf.tidy zs with
    | none =>
      rw [ht] at hres
      obtain rfl : e = .returned (.tuple #[.slice none 0 0, .bool false]) := hres
      have hadd : addL n L zs = L := by unfold addL; rw [← HBB.out, ht]; rfl
      have HADD := Lib.hid hadd
      clear hadd ht hb2 hu2 HT
      go_wp2_with fail
      go_ret
      exact ⟨rfl, HU2.out, A, cap, by rw [HADD.out]; exact HS.out.below HB2.out, fun k hk => .inl hk⟩
    | some r =>
      rw [ht] at hres
      obtain ⟨v2, rfl, ho2⟩ := hres
      have hadd : addL n L zs = L ++ [r] := by unfold addL; rw [← HBB.out, ht]; rfl
      have HADD := Lib.hid hadd
      have hrok := tidy_ok ht HZ.out.2.1
      obtain ⟨Ar, cr, rfl, hlr, _, _, hfr⟩ := ho2.lits2 hrok
      have HS2 := Lib.hid (HS.out.below HB2.out)
      obtain ⟨xs, hox, hix⟩ := HS2.out.row
      have HOX := Lib.hid hox
      have HIX := Lib.hid hix
      have HLR := Lib.hid hlr
      have HFR := Lib.hid hfr
      obtain ⟨k, hk⟩ : ∃ k, k = L.length := ⟨_, rfl⟩
      have HK := Lib.hid hk
      have hk5 : k < 5000 := by
        have h9 := HBB.out
        unfold mayL at h9
        have := (Bool.and_eq_true _ _).mp h9.symm
        rw [hk]; exact of_decide_eq_true this.1
      have k1 : w2.cell? ⟨p, 1, none⟩ = some (.slice A k cap) := by rw [hk]; exact HS2.out.blk.cell 1
      rw [← hk] at HOX
      have hlp := HS2.out.blk.lt
      clear hadd ht hb2 hu2 HT ho2 hrok hlr hfr hox hix hk
      go_wp2_with (at_builtin; refine wpList_append_any _ rfl (.tmp 21) (.tmp 23) 28 rfl 0 22 i0 (.slice none 0 0) 1 24 Try.underlying28 hi0 hz0 hz1 hz2 rfl (by decide) _ k xs rfl (HOX.out.alloc _) (w2.heap.size + 1) (some ⟨w2.heap.size, 0, none⟩) 1 1 [.slice Ar r.length cr] rfl (reads_one (Blk.new _ _ _) (by omega)) (slice_one _ _ _ _ rfl) (by unfold maxLen; omega) (by omega) (Nat.zero_le _) ?_; intro v5 w5 hown5 hg5 hat5; have HOW5 := Lib.hid hown5; have HU5 : Hid (Upd (fun k => (Value.slice A 0 0).ownBlock = some k) w2 w5) := Lib.hid (((Upd.refl _ w2).alloc _).grown hg5 (fun j hj => .inl (by rw [← hj]; exact ownB))); have HB5 : Hid (Blk w5 p 80 #[.int .i64 (n : Int), .slice A L.length cap]) := Lib.hid (HS2.out.blk.upd HU5.out HS2.out.ne); have f5 : w5.frozen? ⟨p, 1, none⟩ = false := HB5.out.frozen 1; have k5 : ∃ u, w5.cell? ⟨p, 1, none⟩ = some u := ⟨_, HB5.out.cell 1⟩; obtain ⟨u5, k5⟩ := k5; have HO5 : Hid (∀ j, v5.ownBlock = some j → (Value.slice A 0 0).ownBlock = some j ∨ w2.heap.size ≤ j) := Lib.hid (fun j hj => own_or A k cap v5.ownBlock w2.heap.size j hj (by rcases hat5 with h | h; (· exact .inl h); (· exact .inr (h.trans (by rw [World.size_alloc]))))); obtain ⟨A5, c5, rfl⟩ := ownL_shape hown5; clear hown5 hg5 hat5 k1)
      go_ret
      have hT5 : ∀ j, (Value.slice A 0 0).ownBlock = some j → ¬ IsL w2 j := fun j hj => not_isL HOX.out (by rw [← hj]; exact ownB)
      have hlin5 : LIn w5 (xs ++ [.slice Ar r.length cr]) (L ++ [r]) := (HIX.out.snoc HLR.out (fun g o e => (HFR.out g o e).2)).upd HU5.out hT5
      have huz : Upd (fun j => j = p) w5 (w5.setCell ⟨p, 1, none⟩ (.slice A5 (k + 1) c5)) := (Upd.refl (fun j => j = p) w5).setCell (p := ⟨p, 1, none⟩) (.inl rfl) _
      have hlen : (L ++ [r]).length = k + 1 := by rw [List.length_append, HK.out]; rfl
      refine ⟨rfl, ?_, A5, c5, ?_, ?_⟩
      · exact ⟨huz.os.trans (HU5.out.os.trans HU2.out.os), huz.tape.trans (HU5.out.tape.trans HU2.out.tape), huz.output.trans (HU5.out.output.trans HU2.out.output), Nat.le_trans HU2.out.size (Nat.le_trans HU5.out.size huz.size), fun j hj hT => by
          have h1 := HU2.out.block j hj hT
          have h2 := HU5.out.block j (Nat.lt_of_lt_of_le hj HU2.out.size) (fun h => hT (.inr h))
          have h3 := huz.block j (Nat.lt_of_lt_of_le hj (Nat.le_trans HU2.out.size HU5.out.size)) (fun h => hT (.inl h))
          exact h3.trans (h2.trans h1)⟩
      · rw [HADD.out]
        refine ⟨?_, ⟨xs ++ [.slice Ar r.length cr], ?_, ?_⟩, HS.out.n, by rw [hlen]; omega⟩
        · rw [hlen]
          exact (HB5.out.set_ 1 (.slice A5 (k + 1) c5)).cast (by simp)
        · rw [hlen]
          exact own_upd HOW5.out huz (fun j hj e => row_ne HOW5.out HB5.out (by rw [hj, e]))
        · exact hlin5.upd huz (fun j hj => by rw [hj]; exact set_isL HB5.out)
      · rintro j (hj | hj)
        · exact .inl (.inl hj)
        · rcases HO5.out j (by rw [← hj]; exact ownB) with h | h
          · exact .inl (.inr h)
          · exact .inr (Nat.le_trans HU2.out.size h)
end Go.Proofs.Ytghfelfljblkbaa
